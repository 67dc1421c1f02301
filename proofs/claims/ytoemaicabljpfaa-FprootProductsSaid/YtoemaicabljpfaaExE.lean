/- The executor's operations on parts of values, literals, slices, conversions and built-in functions. -/
import Derived.Test.YtoemaicabljpfaaExD
namespace Go.Proofs.Ytoemaicabljpfaa.Ex

section
variable {P : Program} {β : Env} {H : Heap} {w : World}

/- fields and elements -/
def aFieldAddr (P : Program) (s : TypeId) (x : Option AV) (f : Nat) (path : List Bool) : Option R :=
  match x, P.underlying s with
  | some (.val false [.p bk off]), some (.struct fs) => match fs[f]? with
    | some fd => match P.info? fd.type with
      | some i => match Nat.beq i.size 0 with
        | false => some (pureR (.val false [.p bk (off + fd.offset)]) path)
        | true => none
      | none => none
    | none => none
  | _, _ => none
theorem aFieldAddr_sound {s f : Nat} {x : Option AV} {u : Value} {path : List Bool} {r : R} (g : Good β H w) (hx : ∀ A, x = some A → relA β A u) (h : aFieldAddr P s x f path = some r) (fr : Nat) :
    ∃ v, (Instr.fieldAt s u f).run P w = .ok v w ∧ Eff β fr r w v w β := by
  unfold aFieldAddr at h
  split at h
  · rename_i bk off fs hs
    split at h
    · rename_i fd hf
      split at h
      · rename_i i hi
        split at h
        · rename_i hz
          injection h with h; subst h
          obtain ⟨B, n, e1, e2⟩ := rel_one (hx _ rfl)
          injection e2 with e2 _; subst e2
          have hz' := nbeq_false hz
          refine ⟨_, ?_, Eff.pure_ g (rel_one' ⟨B, n, e1, rfl⟩)⟩
          simp [Instr.fieldAt, run_underlying hs, hf, Instr.sureAddr, fieldPlace, sizeOf, typeInfo, hi, hz', Addr.add_lit]
        · cases h
      · cases h
    · cases h
  · cases h

def partCs (P : Program) (t : TypeId) (cs : List Ch) (off : Nat) (path : List Bool) : Option R :=
  match P.underlying t, P.info? t with
  | some d, some i => match wide d with
    | true => match getRange cs off i.size with
      | some m => some (pureR (.val true m) path)
      | none => none
    | false => match getRange cs off 1 with
      | some m => some (pureR (.val false m) path)
      | none => none
  | _, _ => none
theorem partCs_sound {t off : Nat} {cs : List Ch} {l : List Value} {path : List Bool} {r : R} (g : Good β H w) (hl : relL β cs l) (h : partCs P t cs off path = some r) (fr : Nat) :
    ∃ v, (part t ⟨l⟩ off).run P w = .ok v w ∧ Eff β fr r w v w β := by
  unfold partCs at h
  split at h
  · rename_i d i hd hi
    have hag := run_isAgg hd w
    split at h
    · rename_i hw
      split at h
      · rename_i m hm
        injection h with h; subst h
        obtain ⟨h1, h2⟩ := getRange_rel hm hl
        refine ⟨.agg ⟨(l.drop off).take i.size⟩, ?_, Eff.pure_ g ⟨_, h1, rfl⟩⟩
        simp [part, hag, hw, sizeOf, typeInfo, hi]
      · cases h
    · rename_i hw
      split at h
      · rename_i m hm
        injection h with h; subst h
        obtain ⟨h1, h2⟩ := getRange_rel hm hl
        have hlt : off < l.length := by omega
        rw [take_one hlt] at h1
        refine ⟨l[off], ?_, Eff.pure_ g h1⟩
        simp [part, hag, hw, hlt]
      · cases h
  · cases h

def aField (P : Program) (t : TypeId) (x : Option AV) (f : Nat) (path : List Bool) : Option R :=
  match x, P.underlying t with
  | some (.val true cs), some (.struct fs) => match fs[f]? with
    | some fd => partCs P fd.type cs fd.offset path
    | none => none
  | _, _ => none
theorem aField_sound {t f : Nat} {x : Option AV} {u : Value} {path : List Bool} {r : R} (g : Good β H w) (hx : ∀ A, x = some A → relA β A u) (h : aField P t x f path = some r) (fr : Nat) :
    ∃ v, (Instr.field t u f).run P w = .ok v w ∧ Eff β fr r w v w β := by
  unfold aField at h
  split at h
  · rename_i cs fs hs
    split at h
    · rename_i fd hf
      obtain ⟨l, hl, rfl⟩ := hx _ rfl
      obtain ⟨v, hv, he⟩ := partCs_sound g hl h fr
      refine ⟨v, ?_, he⟩
      simp [Instr.field, run_underlying hs, hf, asAgg, hv]
    · cases h
  · cases h

def aIndex (P : Program) (t : TypeId) (x ix : Option AV) (path : List Bool) : Option R :=
  match x, P.underlying t, asI ix with
  | some (.val true cs), some (.array n e), some (true, _, i) => match decide (0 ≤ i ∧ i < n), P.info? e with
    | true, some inf => partCs P e cs (i.toNat * inf.size) path
    | _, _ => none
  | _, _, _ => none
theorem aIndex_sound {t : TypeId} {x ix : Option AV} {u v : Value} {path : List Bool} {r : R} (g : Good β H w) (hx : ∀ A, x = some A → relA β A u) (hi : ∀ A, ix = some A → relA β A v) (h : aIndex P t x ix path = some r) (fr : Nat) :
    ∃ z, (Instr.index t u v).run P w = .ok z w ∧ Eff β fr r w z w β := by
  unfold aIndex at h
  split at h
  · rename_i cs n e k i hu ha
    split at h
    · rename_i inf hd hinf
      obtain ⟨l, hl, rfl⟩ := hx _ rfl
      obtain ⟨rfl, _⟩ := asI_rel hi ha
      obtain ⟨z, hz, he⟩ := partCs_sound g hl h fr
      refine ⟨z, ?_, he⟩
      have hd' : 0 ≤ i ∧ i < n := by simpa using hd
      simp [Instr.index, asIntOf, run_underlying hu, hd', sizeOf, typeInfo, hinf, hz]
    · cases h
  · cases h

def aIndexAddr (P : Program) (t : TypeId) (x ix : Option AV) (path : List Bool) : Option R :=
  match x, P.underlying t, asI ix with
  | some (.val false [.p bk off]), some (.array n e), some (c, _, i) => match condc c (decide (0 ≤ i ∧ i < n)), P.info? e with
    | some l, some inf => some ⟨.val false [.p bk (off + i.toNat * inf.size)], [], 0, l, path⟩
    | _, _ => none
  | some (.val false [.sl bk off len _]), some (.slice e), some (_, _, i) => match P.info? e with
    | some inf => some ⟨.val false [.p bk (off + i.toNat * inf.size)], [], 0, [(decide (0 ≤ i ∧ i < len), true)], path⟩
    | none => none
  | some (.val false [.sx bk len _]), some (.slice e), some (_, _, i) => match P.info? e with
    | some inf => some ⟨.val false [.p bk (0 + i.toNat * inf.size)], [], 0, [(decide (0 ≤ i ∧ i < len), true)], path⟩
    | none => none
  | _, _, _ => none
theorem aIndexAddr_sound {t : TypeId} {x ix : Option AV} {u v : Value} {path : List Bool} {r : R} (g : Good β H w) (hx : ∀ A, x = some A → relA β A u) (hi : ∀ A, ix = some A → relA β A v) (h : aIndexAddr P t x ix path = some r)
    (hc : okConds r.conds) (fr : Nat) : ∃ z, (Instr.indexAt t u v).run P w = .ok z w ∧ Eff β fr r w z w β := by
  unfold aIndexAddr at h
  split at h
  · rename_i bk off n e c k i hu ha
    split at h
    · rename_i l inf hl hinf
      injection h with h; subst h
      have hd := condc_ok hl hc
      simp only [decide_eq_true_eq] at hd
      obtain ⟨B, m, e1, e2⟩ := rel_one (hx _ rfl)
      injection e2 with e2 _; subst e2
      obtain ⟨rfl, _⟩ := asI_rel hi ha
      refine ⟨_, ?_, Eff.pure_ g (rel_one' ⟨B, m, e1, rfl⟩)⟩
      simp [Instr.indexAt, asIntOf, run_underlying hu, Instr.sureAddr, hd, sizeOf, typeInfo, hinf, Addr.add_lit]
    · cases h
  · rename_i bk off len cap e c k i hu ha
    split at h
    · rename_i inf hinf
      injection h with h; subst h
      have hd := hc.1
      simp only [decide_eq_true_eq] at hd
      obtain ⟨B, m, e1, e2⟩ := rel_one (hx _ rfl)
      injection e2 with e2 _; subst e2
      obtain ⟨rfl, _⟩ := asI_rel hi ha
      refine ⟨_, ?_, Eff.pure_ g (rel_one' ⟨B, m, e1, rfl⟩)⟩
      simp [Instr.indexAt, asIntOf, run_underlying hu, hd, sizeOf, typeInfo, hinf, Addr.add_lit]
    · cases h
  · rename_i bk len sz e c k i hu ha
    split at h
    · rename_i inf hinf
      injection h with h; subst h
      have hd := hc.1
      simp only [decide_eq_true_eq] at hd
      obtain ⟨rfl, _⟩ := asI_rel hi ha
      rcases rel_one (hx _ rfl) with ⟨B, m, cap, e1, e2, _⟩ | ⟨_, e2, _⟩
      · injection e2 with e2 _; subst e2
        refine ⟨_, ?_, Eff.pure_ g (rel_one' ⟨B, m, e1, rfl⟩)⟩
        simp [Instr.indexAt, asIntOf, run_underlying hu, hd, sizeOf, typeInfo, hinf, Addr.add_lit]
      · subst e2; omega
    · cases h
  · cases h

/- slices -/
def bOf (d top : Nat) (x : Option (Option AV)) : Option (Nat × List (Bool × Bool)) :=
  match x with
  | none => some (d, [])
  | some a => match asI a with
    | some (_, _, i) => some (i.toNat, [(decide (0 ≤ i ∧ i ≤ top), true)])
    | none => none
def bRel (β : Env) (x : Option (Option AV)) (v : Option Value) : Prop :=
  match x, v with
  | none, none => True
  | some a, some v => ∀ A, a = some A → relA β A v
  | _, _ => False
theorem bOf_rel {d top y : Nat} {x : Option (Option AV)} {v : Option Value} {c : List (Bool × Bool)} (hv : bRel β x v) (h : bOf d top x = some (y, c)) (hc : okConds c) :
    (v = none ∧ y = d) ∨ (∃ k i, v = some (.int k i) ∧ 0 ≤ i ∧ i ≤ top ∧ y = i.toNat) := by
  unfold bOf at h
  split at h
  · injection h with h; injection h with h1 h2; subst h1
    cases v
    · exact .inl ⟨rfl, rfl⟩
    · simp [bRel] at hv
  · split at h
    · rename_i a b k i ha
      injection h with h; injection h with h1 h2; subst h1; subst h2
      cases v with
      | none => simp [bRel] at hv
      | some v =>
        obtain ⟨rfl, _⟩ := asI_rel hv ha
        have := hc.1
        simp only [decide_eq_true_eq] at this
        exact .inr ⟨k, i, rfl, this.1, this.2, rfl⟩
    · cases h

theorem run_bounds (b : Bool) (len cap l h m : Nat) (lo hi mx : Option Value)
    (hm : (mx = none ∧ m = cap) ∨ (∃ k i, mx = some (.int k i) ∧ 0 ≤ i ∧ i ≤ cap ∧ m = i.toNat))
    (hh : (hi = none ∧ h = len ∧ mx = none) ∨ (∃ k i, hi = some (.int k i) ∧ 0 ≤ i ∧ i ≤ m ∧ h = i.toNat))
    (hl : (lo = none ∧ l = 0) ∨ (∃ k i, lo = some (.int k i) ∧ 0 ≤ i ∧ i ≤ h ∧ l = i.toNat)) :
    (Instr.sliceBounds b len cap lo hi mx).run P w = .ok (l, h, m) w := by
  rcases hm with ⟨rfl, rfl⟩ | ⟨km, im, rfl, m1, m2, rfl⟩
  · rcases hh with ⟨rfl, rfl, _⟩ | ⟨kh, ih, rfl, h1, h2, rfl⟩
    · rcases hl with ⟨rfl, rfl⟩ | ⟨kl, il, rfl, l1, l2, rfl⟩
      · simp [Instr.sliceBounds]
      · simp [Instr.sliceBounds, run_sliceBound w kl il _ _ l1 l2]
    · rcases hl with ⟨rfl, rfl⟩ | ⟨kl, il, rfl, l1, l2, rfl⟩
      · simp [Instr.sliceBounds, run_sliceBound w kh ih _ _ h1 h2]
      · simp [Instr.sliceBounds, run_sliceBound w kh ih _ _ h1 h2, run_sliceBound w kl il _ _ l1 l2]
  · rcases hh with ⟨_, _, hc⟩ | ⟨kh, ih, rfl, h1, h2, rfl⟩
    · cases hc
    · rcases hl with ⟨rfl, rfl⟩ | ⟨kl, il, rfl, l1, l2, rfl⟩
      · simp [Instr.sliceBounds, run_sliceBound w km im _ _ m1 m2, run_sliceBound w kh ih _ _ h1 h2]
      · simp [Instr.sliceBounds, run_sliceBound w km im _ _ m1 m2, run_sliceBound w kh ih _ _ h1 h2, run_sliceBound w kl il _ _ l1 l2]

/-- bounds: how long, the end, the beginning. -/
def bounds (len cap : Nat) (lo hi mx : Option (Option AV)) : Option (Nat × Nat × Nat × List (Bool × Bool)) :=
  match hi, mx with
  | none, some _ => none
  | _, _ => match bOf cap cap mx with
    | some (m, c1) => match bOf len m hi with
      | some (h, c2) => match bOf 0 h lo with
        | some (l, c3) => some (l, h, m, c1 ++ (c2 ++ c3))
        | none => none
      | none => none
    | none => none
theorem bounds_run (b : Bool) {len cap l h m : Nat} {lo hi mx : Option (Option AV)} {vl vh vm : Option Value} {c : List (Bool × Bool)} (rl : bRel β lo vl) (rh : bRel β hi vh) (rm : bRel β mx vm)
    (hb : bounds len cap lo hi mx = some (l, h, m, c)) (hc : okConds c) : (Instr.sliceBounds b len cap vl vh vm).run P w = .ok (l, h, m) w := by
  unfold bounds at hb
  split at hb
  · cases hb
  · rename_i hno
    split at hb
    · rename_i m' c1 h1
      split at hb
      · rename_i h' c2 h2
        split at hb
        · rename_i l' c3 h3
          injection hb with hb; injection hb with e1 hb; injection hb with e2 hb; injection hb with e3 e4
          subst e1; subst e2; subst e3; subst e4
          obtain ⟨o1, o2⟩ := okConds_append.1 hc
          obtain ⟨o2, o3⟩ := okConds_append.1 o2
          refine run_bounds b len cap _ _ _ _ _ _ (bOf_rel rm h1 o1) ?_ (bOf_rel rl h3 o3)
          rcases bOf_rel rh h2 o2 with ⟨e1, e2⟩ | e
          · refine .inl ⟨e1, e2, ?_⟩
            subst e1
            cases hi with
            | some a => simp [bRel] at rh
            | none =>
              cases mx with
              | none => cases vm with
                | none => rfl
                | some v => simp [bRel] at rm
              | some a => exact absurd rfl (hno a rfl)
          · exact .inr e
        · cases hb
      · cases hb
    · cases hb

/-- Whether a slice begins where its room ends: the model leaves the address as it was then. -/
def aSlice (P : Program) (t : TypeId) (x : Option AV) (lo hi mx : Option (Option AV)) (path : List Bool) : Option R :=
  match x, P.underlying t with
  | some (.val false [.p bk off]), some (.array n e) => match bounds n n lo hi mx, P.info? e with
    | some (l, h, m, c), some inf => match Nat.beq m l with
      | true => some ⟨.val false [.sl bk off (h - l) (m - l)], [], 0, c, path⟩
      | false => some ⟨.val false [.sl bk (off + l * inf.size) (h - l) (m - l)], [], 0, c, path⟩
    | _, _ => none
  | some (.val false [.sl bk off len cap]), some (.slice e) => match bounds len cap lo hi mx, P.info? e, lo with
    | some (l, h, m, c), some _, none => some ⟨.val false [.sl bk off (h - l) (m - l)], [], 0, c ++ [(Nat.beq l 0, true)], path⟩
    | some (l, h, m, c), some inf, some _ => match path with
      | true :: rest => some ⟨.val false [.sl bk off (h - l) (m - l)], [], 0, c ++ [(Nat.beq m l, true)], rest⟩
      | false :: rest => some ⟨.val false [.sl bk (off + l * inf.size) (h - l) (m - l)], [], 0, c ++ [(Nat.beq m l, false)], rest⟩
      | [] => none
    | _, _, _ => none
  | _, _ => none
theorem aSlice_sound {t : TypeId} {x : Option AV} {u : Value} {lo hi mx : Option (Option AV)} {vl vh vm : Option Value} {path : List Bool} {r : R} (g : Good β H w) (hx : ∀ A, x = some A → relA β A u)
    (rl : bRel β lo vl) (rh : bRel β hi vh) (rm : bRel β mx vm) (h : aSlice P t x lo hi mx path = some r) (hc : okConds r.conds) (fr : Nat) :
    ∃ z, (Instr.sliceAt t u vl vh vm).run P w = .ok z w ∧ Eff β fr r w z w β := by
  unfold aSlice at h
  split at h
  · rename_i bk off n e hu
    split at h
    · rename_i l hh m c inf hb hinf
      obtain ⟨B, nn, e1, e2⟩ := rel_one (hx _ rfl)
      injection e2 with e2 _; subst e2
      split at h
      · rename_i hm
        injection h with h; subst h
        have hr := bounds_run (P := P) (w := w) false rl rh rm hb hc
        refine ⟨_, ?_, Eff.pure_ g (rel_one' ⟨B, nn, e1, rfl⟩)⟩
        simp [Instr.sliceAt, run_underlying hu, Instr.sureAddr, hr, sizeOf, typeInfo, hinf, nbeq.1 hm]
      · rename_i hm
        injection h with h; subst h
        have hr := bounds_run (P := P) (w := w) false rl rh rm hb hc
        refine ⟨_, ?_, Eff.pure_ g (rel_one' ⟨B, nn, e1, rfl⟩)⟩
        simp [Instr.sliceAt, run_underlying hu, Instr.sureAddr, hr, sizeOf, typeInfo, hinf, nbeq_false hm, Addr.add_lit]
    · cases h
  · rename_i bk off len cap e hu
    obtain ⟨B, nn, e1, e2⟩ := rel_one (hx _ rfl)
    injection e2 with e2 _; subst e2
    split at h
    · rename_i l hh m c inf _ _
      have hinf : P.info? e = some inf := by assumption
      injection h with h; subst h
      obtain ⟨o1, o2⟩ := okConds_append.1 hc
      have hr := bounds_run (P := P) (w := w) true rl rh rm (by assumption) o1
      have hl := nbeq.1 o2.1
      subst hl
      refine ⟨_, ?_, Eff.pure_ g (rel_one' ⟨B, nn, e1, rfl⟩)⟩
      have hs : (Instr.sliceAt t (.slice (some ⟨B, off, none⟩) len cap) vl vh vm).run P w = (Instr.slice t (.slice (some ⟨B, off, none⟩) len cap) vl vh vm).run P w := by
        simp [Instr.sliceAt, run_underlying hu]
      rw [hs]
      simp [Instr.slice, run_underlying hu, hr, sizeOf, typeInfo, hinf, Addr.add_lit]
    · rename_i l hh m c inf lo' _ _
      have hinf : P.info? e = some inf := by assumption
      have hs : (Instr.sliceAt t (.slice (some ⟨B, off, none⟩) len cap) vl vh vm).run P w = (Instr.slice t (.slice (some ⟨B, off, none⟩) len cap) vl vh vm).run P w := by
        simp [Instr.sliceAt, run_underlying hu]
      rw [hs]
      split at h
      · injection h with h; subst h
        obtain ⟨o1, o2⟩ := okConds_append.1 hc
        have hr := bounds_run (P := P) (w := w) true rl rh rm (by assumption) o1
        refine ⟨_, ?_, Eff.pure_ g (rel_one' ⟨B, nn, e1, rfl⟩)⟩
        simp [Instr.slice, run_underlying hu, hr, sizeOf, typeInfo, hinf, nbeq.1 o2.1]
      · injection h with h; subst h
        obtain ⟨o1, o2⟩ := okConds_append.1 hc
        have hr := bounds_run (P := P) (w := w) true rl rh rm (by assumption) o1
        refine ⟨_, ?_, Eff.pure_ g (rel_one' ⟨B, nn, e1, rfl⟩)⟩
        simp [Instr.slice, run_underlying hu, hr, sizeOf, typeInfo, hinf, nbeq_false o2.1, Addr.add_lit]
      · cases h
    · cases h
  · cases h

def aArrayAt (P : Program) (t : TypeId) (x : Option AV) (path : List Bool) : Option R :=
  match x, P.underlying t with
  | some (.val false [.sl bk off len _]), some (.array n _) => some ⟨.val false [.p bk off], [], 0, [(Nat.ble n len, true)], path⟩
  | some (.val false [.sx bk len _]), some (.array n _) => some ⟨.val false [.p bk 0], [], 0, [(Nat.ble n len && !Nat.beq len 0, true)], path⟩
  | _, _ => none
theorem aArrayAt_sound {t : TypeId} {x : Option AV} {u : Value} {path : List Bool} {r : R} (g : Good β H w) (hx : ∀ A, x = some A → relA β A u) (h : aArrayAt P t x path = some r) (hc : okConds r.conds) (fr : Nat) :
    ∃ z, (Instr.arrayAt t u).run P w = .ok z w ∧ Eff β fr r w z w β := by
  unfold aArrayAt at h
  split at h
  · rename_i bk off len cap n e hu
    injection h with h; subst h
    obtain ⟨B, nn, e1, e2⟩ := rel_one (hx _ rfl)
    injection e2 with e2 _; subst e2
    have hle := Nat.le_of_ble_eq_true hc.1
    refine ⟨_, ?_, Eff.pure_ g (rel_one' ⟨B, nn, e1, rfl⟩)⟩
    simp [Instr.arrayAt, run_underlying hu, show ¬ len < n by omega]
  · rename_i bk len sz n e hu
    injection h with h; subst h
    have h1 := hc.1
    simp only [Bool.and_eq_true, Bool.not_eq_true'] at h1
    have hle := Nat.le_of_ble_eq_true h1.1
    have hz := nbeq_false h1.2
    rcases rel_one (hx _ rfl) with ⟨B, nn, cap, e1, e2, _⟩ | ⟨_, e2, _⟩
    · injection e2 with e2 _; subst e2
      refine ⟨_, ?_, Eff.pure_ g (rel_one' ⟨B, nn, e1, rfl⟩)⟩
      simp [Instr.arrayAt, run_underlying hu, show ¬ len < n by omega]
    · exact absurd e2 hz
  · cases h

/- literals -/
theorem fold_set (v : List Value) : ∀ (cells : List Value) (off : Nat) (j : Nat), off + j + v.length ≤ cells.length →
    (v.zipIdx j).foldl (fun (cs : Array Value) (x : Value × Nat) => cs.setIfInBounds (off + x.2) x.1) ⟨cells⟩ = ⟨cells.take (off + j) ++ v ++ cells.drop (off + j + v.length)⟩ := by
  induction v with
  | nil => intro cells off j _; simp
  | cons x v ih =>
    intro cells off j h
    simp only [List.zipIdx_cons, List.foldl_cons]
    have hlt : off + j < cells.length := by simp at h; omega
    have e : (⟨cells⟩ : Array Value).setIfInBounds (off + j) x = ⟨cells.set (off + j) x⟩ := by
      apply Array.ext'; simp
    rw [e, ih _ off (j + 1) (by simp at h ⊢; omega)]
    congr 1
    have := list_seg_step cells (off + j) x v (by simp at h; omega)
    simpa [Nat.add_assoc] using this

def fillCs (τ : Nat → AV) (place : Nat → Option (Nat × Nat)) (zs : List Ch) : List (Nat × Operand) → Option (List Ch)
  | [] => some zs
  | (i, x) :: rest => match place i, evO τ x with
    | some (off, size), some (.val _ cs) => match Nat.beq (szL cs) size, setRange zs off size cs with
      | true, some zs' => fillCs τ place zs' rest
      | _, _ => none
    | _, _ => none
theorem fillCs_sound {τ : Nat → AV} {a : Act} (ht : ∀ t, relA β (τ t) (a.tmps.getD t undef)) {place : Nat → Option (Nat × Nat)} : ∀ {parts : List (Nat × Operand)} {zs cs : List Ch} {l : List Value}, fillCs τ place zs parts = some cs → relL β zs l →
    ∃ l', Instr.fill place ⟨l⟩ (parts.map fun (i, x) => (i, a.eval x)) = some ⟨l'⟩ ∧ relL β cs l'
  | [], zs, cs, l, h, hl => by
    simp only [fillCs, Option.some.injEq] at h
    subst h
    exact ⟨l, rfl, hl⟩
  | (i, x) :: rest, zs, cs, l, h, hl => by
    simp only [fillCs] at h
    split at h
    · rename_i off size gg c hp hx
      split at h
      · rename_i zs' hz hs
        have hr := relG_cells (evO_rel ht hx)
        obtain ⟨r1, r2⟩ := setRange_rel hs hl hr
        obtain ⟨l', h1, h2⟩ := fillCs_sound ht h r1
        refine ⟨l', ?_, h2⟩
        have hlen : (a.eval x).cells.size = size := by
          have := relL_length hr
          rw [nbeq.1 hz] at this
          simpa using this
        simp only [List.map_cons, Instr.fill, hp, hlen]
        rw [if_neg (by simp; omega)]
        have e : Array.foldl (fun (cs : Array Value) (x : Value × Nat) => cs.setIfInBounds (off + x.2) x.1) ⟨l⟩ (a.eval x).cells.zipIdx = ⟨l.take off ++ (a.eval x).cells.toList ++ l.drop (off + size)⟩ := by
          rw [← Array.foldl_toList, Array.toList_zipIdx, fold_set _ l off 0 (by rw [Array.length_toList, hlen]; omega)]
          simp [hlen]
        rw [← h1]
        congr 1
      · cases h
    · cases h

def aBuild (P : Program) (τ : Nat → AV) (t : TypeId) (parts : List (Nat × Operand)) (path : List Bool) : Option R :=
  match P.underlying t, P.info? t with
  | some (.struct fs), some i => match i.zero with
    | some z => match constA z with
      | some (.val _ zs) => match fillCs τ (fun j => match fs[j]? with | some f => some (f.offset, P.cellsOf f.type) | none => none) zs parts, fs.all fun f => (P.info? f.type).isSome with
        | some cs, true => some (pureR (.val true cs) path)
        | _, _ => none
      | _ => none
    | none => none
  | some (.array _ e), some i => match i.zero, P.info? e with
    | some z, some inf => match constA z with
      | some (.val _ zs) => match fillCs τ (fun j => some (j * inf.size, inf.size)) zs parts with
        | some cs => some (pureR (.val true cs) path)
        | none => none
      | _ => none
    | _, _ => none
  | _, _ => none

theorem run_places (fs : Array Field) (h : (fs.all fun f => (P.info? f.type).isSome) = true) (w : World) :
    (fs.mapM (m := Sem) fun f => do pure (f.offset, ← sizeOf f.type)).run P w = .ok (fs.map fun f => (f.offset, P.cellsOf f.type)) w := by
  have hall0 := Array.all_eq_true_iff_forall_mem.1 h
  obtain ⟨l⟩ := fs
  rw [Array.mapM_eq_mapM_toList]
  have hall : ∀ f ∈ l, (P.info? f.type).isSome = true := fun f hf => hall0 f (by simpa using hf)
  have key : ∀ l : List Field, (∀ f ∈ l, (P.info? f.type).isSome = true) → (l.mapM (m := Sem) fun f => do pure (f.offset, ← sizeOf f.type)).run P w = .ok (l.map fun f => (f.offset, P.cellsOf f.type)) w := by
    intro l
    induction l with
    | nil => intro _; simp
    | cons f l ih =>
      intro hl
      obtain ⟨i, hi⟩ := Option.isSome_iff_exists.1 (hl f (by simp))
      simp only [List.mapM_cons, Sem.run_bind, run_sizeOf w hi, Result.andThen_ok, Sem.run_pure, ih (fun g hg => hl g (by simp [hg])), List.map_cons]
  simp only [Sem.run_map, key l hall]
  simp

theorem aBuild_sound {τ : Nat → AV} {a : Act} (ht : ∀ t, relA β (τ t) (a.tmps.getD t undef)) {t : TypeId} {parts : Array (Nat × Operand)} {path : List Bool} {r : R} (g : Good β H w)
    (h : aBuild P τ t parts.toList path = some r) (fr : Nat) : ∃ z, (Instr.build t (parts.map fun (i, x) => (i, a.eval x))).run P w = .ok z w ∧ Eff β fr r w z w β := by
  unfold aBuild at h
  split at h
  · rename_i fs i hu hi
    split at h
    · rename_i z hz
      split at h
      · rename_i gg zs hc
        split at h
        · rename_i cs hf hall
          injection h with h; subst h
          have hr := relG_cells (constA_rel (β := β) hc)
          obtain ⟨l', h1, h2⟩ := fillCs_sound ht hf hr
          refine ⟨.agg ⟨l'⟩, ?_, Eff.pure_ g ⟨l', h2, rfl⟩⟩
          have hp := run_places (P := P) fs hall w
          simp only [Instr.build, Sem.run_bind, zeroValue, typeInfo, run_program, Result.andThen_ok, hi, Sem.run_pure, hz, run_underlying hu, hp]
          have e : (fun (j : Nat) => (fs.map fun (f : Field) => (f.offset, P.cellsOf f.type))[j]?) = (fun j => match fs[j]? with | some f => some (f.offset, P.cellsOf f.type) | none => none) := by
            funext j
            simp only [Array.getElem?_map]
            cases fs[j]? <;> rfl
          simp only [Array.toList_map, e, h1]
          rfl
        · cases h
      · cases h
    · cases h
  · rename_i n e i hu hi
    split at h
    · rename_i z inf hz hinf
      split at h
      · rename_i gg zs hc
        split at h
        · rename_i cs hf
          injection h with h; subst h
          have hr := relG_cells (constA_rel (β := β) hc)
          obtain ⟨l', h1, h2⟩ := fillCs_sound ht hf hr
          refine ⟨.agg ⟨l'⟩, ?_, Eff.pure_ g ⟨l', h2, rfl⟩⟩
          simp only [Instr.build, Sem.run_bind, zeroValue, typeInfo, run_program, Result.andThen_ok, hi, Sem.run_pure, hz, run_underlying hu, sizeOf, hinf]
          simp only [Array.toList_map, h1]
          rfl
        · cases h
      · cases h
    · cases h
  · cases h

def zerosOf (z : Value) (n : Nat) : List Value := match n with
  | 0 => []
  | n + 1 => (List.range (n + 1)).map (z.cells[· % z.cells.size]!)
theorem zeros_eq (z : Value) (n : Nat) : ((Array.range n).map fun j => (if n = 0 then #[] else z.cells)[j % (if n = 0 then #[] else z.cells).size]!) = ⟨zerosOf z n⟩ := by
  cases n with
  | zero => simp [zerosOf]
  | succ n => apply Array.ext'; simp [zerosOf]
def aBuildSlice (P : Program) (τ : Nat → AV) (t : TypeId) (len : Nat) (parts : List (Nat × Operand)) (fr : Nat) (path : List Bool) : Option R :=
  match P.underlying t with
  | some (.slice e) => match P.info? e with
    | some inf => match Nat.ble (len * inf.size) 16777216, inf.zero with
      | true, some z => match constL (zerosOf z (len * inf.size)) with
        | some zs => match fillCs τ (fun j => some (j * inf.size, inf.size)) zs parts with
          | some cs => some ⟨.val false [.sl fr 0 len len], [(fr, some ⟨e, cs, false⟩)], 1, [], path⟩
          | none => none
        | none => none
      | _, _ => none
    | none => none
  | _ => none
theorem aBuildSlice_sound {τ : Nat → AV} {a : Act} (ht : ∀ t, relA β (τ t) (a.tmps.getD t undef)) {t : TypeId} {len fr : Nat} {parts : Array (Nat × Operand)} {path : List Bool} {r : R} (g : Good β H w)
    (h : aBuildSlice P τ t len parts.toList fr path = some r) (hf : ∀ b, fr ≤ b → b < fr + r.nw → β b = none) :
    ∃ z w' β', (Instr.buildSlice t len (parts.map fun (i, x) => (i, a.eval x))).run P w = .ok z w' ∧ Eff β fr r w z w' β' := by
  unfold aBuildSlice at h
  split at h
  · rename_i e hu
    split at h
    · rename_i inf hinf
      split at h
      · rename_i z hb hz
        split at h
        · rename_i zs hzs
          split at h
          · rename_i cs hfl
            injection h with h; subst h
            have hr := constL_rel (β := β) hzs
            obtain ⟨l', h1, h2⟩ := fillCs_sound ht hfl hr
            refine ⟨_, _, _, ?_, Eff.new_ g (hf fr (Nat.le_refl _) (by simp)) h2 rfl (rel_one' ⟨w.heap.size, l'.length, Env.put_same .., rfl⟩)⟩
            have hle := Nat.le_of_ble_eq_true hb
            have hz0 := zeros_eq z (len * inf.size)
            simp only [Instr.buildSlice, Sem.run_bind, run_underlying hu, Result.andThen_ok, sizeOf, typeInfo, run_program, hinf, Sem.run_pure]
            rw [if_neg (show ¬ (len * inf.size > 2 ^ 24) by omega)]
            by_cases hn : len * inf.size = 0
            · rw [if_pos hn]
              simp only [if_pos hn] at hz0
              simp only [Sem.run_bind, Sem.run_pure, Result.andThen_ok]
              rw [hz0]
              simp only [Array.toList_map, h1]
              simp [newRow]
            · rw [if_neg hn]
              simp only [if_neg hn] at hz0
              simp only [Sem.run_bind, Sem.run_pure, Result.andThen_ok, zeroValue, typeInfo, run_program, hinf, hz]
              rw [hz0]
              simp only [Array.toList_map, h1]
              simp [newRow]
          · cases h
        · cases h
      · cases h
    · cases h
  · cases h
end
end Go.Proofs.Ytoemaicabljpfaa.Ex
