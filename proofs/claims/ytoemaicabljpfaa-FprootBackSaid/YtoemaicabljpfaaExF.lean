/- The executor's conversions and built-in functions: make, len, max, min, copy, clear, append. -/
import Derived.Test.YtoemaicabljpfaaExE
namespace Go.Proofs.Ytoemaicabljpfaa.Ex

section
variable {P : Program} {β : Env} {H : Heap} {w : World}

def aConvert (P : Program) (src dst : TypeId) (x : Option AV) (path : List Bool) : Option R :=
  match P.underlying src, P.underlying dst, asI x with
  | some _, some (.int k), some (c, _, i) => some (pureR (mkI c k (wrapc c k i)) path)
  | _, _, _ => none
theorem aConvert_sound {src dst : TypeId} {x : Option AV} {u : Value} {path : List Bool} {r : R} (g : Good β H w) (hx : ∀ A, x = some A → relA β A u) (h : aConvert P src dst x path = some r) (fr : Nat) :
    ∃ v, (convert src dst u).run P w = .ok v w ∧ Eff β fr r w v w β := by
  unfold aConvert at h
  split at h
  · rename_i d k c k' i hs hd ha
    injection h with h; subst h
    obtain ⟨rfl, _⟩ := asI_rel hx ha
    rw [wrapc_eq]
    refine ⟨.int k (k.wrap i), ?_, Eff.pure_ g (mkI_rel c (has_wrap _ _))⟩
    simp [convert, run_underlying hs, run_underlying hd, Conv.intToInt]
  · cases h

def aUn (op : UnOp) (x : Option AV) (path : List Bool) : Option R :=
  match op with
  | .not => match asB x with
    | some (true, y) => some (pureR (.val false [.b (match y with | true => false | false => true)]) path)
    | some (false, y) => some (pureR (.val false [.v (.bool (!y))]) path)
    | none => none
  | .neg => match asI x with
    | some (c, k, i) => some (pureR (mkI c k (wrapc c k (0 - i))) path)
    | none => none
  | _ => none
theorem aUn_sound {op : UnOp} {x : Option AV} {u : Value} {path : List Bool} {r : R} (g : Good β H w) (hx : ∀ A, x = some A → relA β A u) (h : aUn op x path = some r) (fr : Nat) :
    ∃ v, (Op.unary op u).run P w = .ok v w ∧ Eff β fr r w v w β := by
  unfold aUn at h
  split at h
  · split at h
    · rename_i y ha
      injection h with h; subst h
      have := asB_rel hx ha
      subst this
      refine ⟨.bool !y, rfl, Eff.pure_ g ?_⟩
      cases y <;> exact rel_one' rfl
    · rename_i y ha
      injection h with h; subst h
      have := asB_rel hx ha
      subst this
      exact ⟨.bool !y, rfl, Eff.pure_ g (rel_one' ⟨rfl, rfl, trivial⟩)⟩
    · cases h
  · split at h
    · rename_i c k i ha
      injection h with h; subst h
      obtain ⟨rfl, _⟩ := asI_rel hx ha
      rw [wrapc_eq]
      exact ⟨.int k (k.wrap (0 - i)), rfl, Eff.pure_ g (mkI_rel c (has_wrap _ _))⟩
    · cases h
  · cases h

/- make -/
theorem made_int (kd : IntKind) (n : Nat) : (madeCells #[.int kd 0] n).toList = (List.replicate n (0 : Int)).map (Value.int kd) := by
  unfold madeCells
  rw [List.map_replicate]
  apply List.ext_getElem
  · simp
  · intro i h1 h2
    simp [Nat.mod_one]
theorem made_zeros (z : Value) (n : Nat) : (madeCells z.cells n).toList = zerosOf z n := by
  unfold madeCells zerosOf
  cases n <;> simp
def aMake (P : Program) (t : TypeId) (x y : Option AV) (fr : Nat) (path : List Bool) : Option R :=
  match P.underlying t, asI x, asI y with
  | some (.slice e), some (_, _, l), some (c, _, m) => match P.info? e with
    | some inf => match inf.zero with
      | some (.int kd z) => match decide (z = 0), Nat.beq inf.size 1 with
        | true, true => some ⟨.val false [.sl fr 0 l.toNat m.toNat], [(fr, some ⟨e, [.seq kd (List.replicate m.toNat 0)], false⟩)], 1, [(decide (0 ≤ l ∧ l ≤ m ∧ inf.bytes * m ≤ 281474976710656 ∧ m ≤ 9223372036854775807), true)], path⟩
        | _, _ => none
      | some z => match c with
        | true => match constL (zerosOf z (m.toNat * inf.size)) with
          | some zs => some ⟨.val false [.sl fr 0 l.toNat m.toNat], [(fr, some ⟨e, zs, false⟩)], 1, [(decide (0 ≤ l ∧ l ≤ m ∧ inf.bytes * m ≤ 281474976710656 ∧ m ≤ 9223372036854775807), true)], path⟩
          | none => none
        | false => none
      | none => none
    | none => none
  | _, _, _ => none
theorem aMake_sound {t fr : Nat} {x y : Option AV} {u v : Value} {path : List Bool} {r : R} (g : Good β H w) (hx : ∀ A, x = some A → relA β A u) (hy : ∀ A, y = some A → relA β A v)
    (h : aMake P t x y fr path = some r) (hc : okConds r.conds) (hf : ∀ b, fr ≤ b → b < fr + r.nw → β b = none) :
    ∃ z w' β', (Instr.makeSlice t u v).run P w = .ok z w' ∧ Eff β fr r w z w' β' := by
  unfold aMake at h
  split at h
  · rename_i e c1 k1 l c k2 m hu ha hb
    obtain ⟨rfl, _⟩ := asI_rel hx ha
    obtain ⟨rfl, _⟩ := asI_rel hy hb
    split at h
    · rename_i inf hi
      split at h
      · rename_i kd z hz
        split at h
        · rename_i hz0 hs1
          injection h with h; subst h
          have hcc := hc.1
          simp only [decide_eq_true_eq] at hcc
          have hz0' : z = 0 := by simpa using hz0
          subst hz0'
          have hs := nbeq.1 hs1
          have hrun := run_make (P := P) w t e inf _ hu hi hz k1 k2 l m hcc.1 hcc.2.1 hcc.2.2.1 hcc.2.2.2
          have hcells : (madeCells (Value.int kd 0).cells (m.toNat * inf.size)) = ⟨(List.replicate m.toNat (0 : Int)).map (Value.int kd)⟩ := by
            apply Array.ext'
            rw [hs, Nat.mul_one]
            exact made_int kd m.toNat
          rw [hcells] at hrun
          refine ⟨_, _, _, hrun, Eff.new_ g (hf fr (Nat.le_refl _) (by simp)) (cs := [.seq kd (List.replicate m.toNat 0)]) ?_ rfl (rel_one' ⟨w.heap.size, _, Env.put_same .., rfl⟩)⟩
          refine ⟨_, [], ⟨rfl, fun x hx => ?_⟩, rfl, by simp⟩
          rw [List.eq_of_mem_replicate hx, has_iff]
          cases kd <;> decide
        · cases h
      · rename_i z _ _
        have hz : inf.zero = some z := by assumption
        split at h
        · split at h
          · rename_i zs hzs
            injection h with h; subst h
            have hcc := hc.1
            simp only [decide_eq_true_eq] at hcc
            have hrun := run_make (P := P) w t e inf _ hu hi hz k1 k2 l m hcc.1 hcc.2.1 hcc.2.2.1 hcc.2.2.2
            have hcells : madeCells z.cells (m.toNat * inf.size) = ⟨zerosOf z (m.toNat * inf.size)⟩ := by
              apply Array.ext'; exact made_zeros z _
            rw [hcells] at hrun
            exact ⟨_, _, _, hrun, Eff.new_ g (hf fr (Nat.le_refl _) (by simp)) (constL_rel hzs) rfl (rel_one' ⟨w.heap.size, _, Env.put_same .., rfl⟩)⟩
          · cases h
        · cases h
      · cases h
    · cases h
  · cases h

/- len, max, min -/
def aLen (P : Program) (t : TypeId) (x : Option AV) (path : List Bool) : Option R :=
  match P.underlying t, x with
  | some (.array n _), _ => match hasB .i64 n with
    | true => some (pureR (.val false [.n .i64 n]) path)
    | false => none
  | some (.slice _), some (.val false [.sl _ _ len _]) => some ⟨.val false [.v (.int .i64 len)], [], 0, [(hasB .i64 len, true)], path⟩
  | some (.slice _), some (.val false [.sx _ len _]) => some ⟨.val false [.v (.int .i64 len)], [], 0, [(hasB .i64 len, true)], path⟩
  | some (.slice _), some (.val false [.v (.slice _ len _)]) => some ⟨.val false [.v (.int .i64 len)], [], 0, [(hasB .i64 len, true)], path⟩
  | _, _ => none
theorem aLen_sound {t ty : TypeId} {x : Option AV} {u : Value} {path : List Bool} {r : R} (g : Good β H w) (hx : ∀ A, x = some A → relA β A u) (h : aLen P t x path = some r) (hc : okConds r.conds) (fr : Nat) :
    ∃ v, (Builtin.len_ #[t] ty #[u]).run P w = .ok v w ∧ Eff β fr r w v w β := by
  unfold aLen at h
  split at h
  · rename_i _ n e hu
    split at h
    · rename_i hh
      injection h with h; subst h
      refine ⟨.int .i64 n, ?_, Eff.pure_ g (rel_one' ⟨rfl, (has_iff _ _).2 hh⟩)⟩
      simp [Builtin.len_, run_underlying hu, goInt]
    · cases h
  · rename_i e bk off len cap hu
    injection h with h; subst h
    obtain ⟨B, n, e1, e2⟩ := rel_one (hx _ rfl)
    injection e2 with e2 _; subst e2
    refine ⟨.int .i64 len, ?_, Eff.pure_ g (rel_one' ⟨rfl, rfl, (has_iff _ _).2 hc.1⟩)⟩
    simp [Builtin.len_, run_underlying hu, goInt]
  · rename_i e bk len sz hu
    injection h with h; subst h
    refine ⟨.int .i64 len, ?_, Eff.pure_ g (rel_one' ⟨rfl, rfl, (has_iff _ _).2 hc.1⟩)⟩
    rcases rel_one (hx _ rfl) with ⟨B, n, cap, e1, e2, _⟩ | ⟨_, rfl, e2⟩
    · injection e2 with e2 _; subst e2
      simp [Builtin.len_, run_underlying hu, goInt]
    · injection e2 with e2 _; subst e2
      simp [Builtin.len_, run_underlying hu, goInt]
  · rename_i e A len cap hu
    injection h with h; subst h
    have := (rel_one (hx _ rfl)).1
    injection this with e2 _; subst e2
    refine ⟨.int .i64 len, ?_, Eff.pure_ g (rel_one' ⟨rfl, rfl, (has_iff _ _).2 hc.1⟩)⟩
    simp [Builtin.len_, run_underlying hu, goInt]
  · cases h

def aMax (big : Bool) (x y : Option AV) (path : List Bool) : Option R :=
  match asI x, asI y with
  | some (c, k, i), some (c', k', j) => match decide (k = k') with
    | true => match big with
      | true => some (pureR (mkI (c && c') k (if j > i then j else i)) path)
      | false => some (pureR (mkI (c && c') k (if j < i then j else i)) path)
    | false => none
  | _, _ => none
theorem aMax_sound {ts : Array TypeId} {ty : TypeId} {big : Bool} {x y : Option AV} {u v : Value} {path : List Bool} {r : R} (g : Good β H w) (hx : ∀ A, x = some A → relA β A u) (hy : ∀ A, y = some A → relA β A v)
    (h : aMax big x y path = some r) (fr : Nat) :
    ∃ z, (match big with | true => Builtin.max_ ts ty #[u, v] | false => Builtin.min_ ts ty #[u, v]).run P w = .ok z w ∧ Eff β fr r w z w β := by
  unfold aMax at h
  split at h
  · rename_i c k i c' k' j ha hb
    obtain ⟨rfl, h1⟩ := asI_rel hx ha
    obtain ⟨rfl, h2⟩ := asI_rel hy hb
    split at h
    · rename_i hk
      have hk' : k = k' := by simpa using hk
      subst hk'
      split at h
      · injection h with h; subst h
        exact ⟨_, run_max_int2 w ts ty k k i j, Eff.pure_ g (mkI_rel _ (by split <;> assumption))⟩
      · injection h with h; subst h
        exact ⟨_, run_min_int2 w ts ty k k i j, Eff.pure_ g (mkI_rel _ (by split <;> assumption))⟩
    · cases h
  · cases h

/- what a slice holds -/
def sliceCs (H : Heap) (size : Nat) (x : Option AV) (n : Nat) : Option (List Ch × List (Bool × Bool)) :=
  match x with
  | some (.val false [.v (.slice none _ _)]) => some ([], [(Nat.beq n 0, true)])
  | some (.val false [.sl bk off _ _]) => match hget H bk with
    | some blk => match blk.cs with
      | [.seq kd xs] => match Nat.beq size 1 with
        | true => some ([.seq kd ((xs.drop off).take n)], [(Nat.ble (off + n) xs.length, true)])
        | false => none
      | cs => match getRange cs off (n * size) with
        | some m => some (m, [])
        | none => none
    | none => none
  | some (.val false [.sx bk _ _]) => match hget H bk with
    | some blk => match blk.cs with
      | [.seq kd xs] => match Nat.beq size 1 with
        | true => some ([.seq kd (xs.take n)], [(Nat.ble n xs.length, true)])
        | false => none
      | cs => match getRange cs 0 (n * size) with
        | some m => some (m, [])
        | none => none
    | none => none
  | some (.val false [.v (.string s)]) => match Nat.beq size 1 with
    | true => some ([.seq .u8 ((s.data.toList.take n).map fun b => (b.toNat : Int))], [(Nat.ble n s.size, true)])
    | false => none
  | _ => none
theorem relL_seq_one {xs : List Int} {kd : IntKind} {l : List Value} (h : relL β [.seq kd xs] l) : l = xs.map (.int kd) ∧ ∀ x ∈ xs, has kd x := by
  obtain ⟨l1, l2, h1, h2, h3⟩ := h
  simp only [relL] at h2; subst h2
  rw [h3, List.append_nil]; exact h1
theorem relL_seq_mk {xs : List Int} {kd : IntKind} (h : ∀ x ∈ xs, has kd x) : relL β [.seq kd xs] (xs.map (.int kd)) := ⟨_, [], ⟨rfl, h⟩, rfl, by simp⟩

theorem load_range {B off k : Nat} {l t' : List Value} {ty : TypeId} (ho : w.heap[B]? = some (.cells ⟨l ++ t'⟩ ty (0, 0))) (hfit : off + k ≤ l.length) :
    (loadCells ⟨B, off, none⟩ k).run P w = .ok ⟨(l.drop off).take k⟩ w := by
  have hlen : ((l.drop off).take k).length = k := by simp; omega
  have := run_loadCells_list (P := P) w ⟨B, off, none⟩ ((l.drop off).take k) (fun j v hj => by
    rw [Addr.add_lit]
    have hjl : j < ((l.drop off).take k).length := by
      rcases Nat.lt_or_ge j ((l.drop off).take k).length with h' | h'
      · exact h'
      · rw [List.getElem?_eq_none h'] at hj; cases hj
    rw [List.getElem?_take, if_pos (by omega), List.getElem?_drop] at hj
    rw [cell_at ho (by omega), ← hj, List.getElem?_eq_getElem])
  rw [hlen] at this
  exact this

theorem sliceCs_all {size n : Nat} {x : Option AV} {u : Value} {cs : List Ch} {c : List (Bool × Bool)} (g : Good β H w) (hx : ∀ A, x = some A → relA β A u) (h : sliceCs H size x n = some (cs, c)) (hc : okConds c) :
    ∃ l, (∀ w', w'.heap = w.heap → (Builtin.firstCells size n u).run P w' = .ok ⟨l⟩ w') ∧ relL β cs l ∧ l.length = n * size ∧
      (∀ B off len cap cur e fz, u = .slice (some ⟨B, off, none⟩) len cap → w.heap[B]? = some (.cells ⟨cur⟩ e fz) → off + n * size ≤ cur.length ∧ l = (cur.drop off).take (n * size)) := by
  have rng : ∀ {bk off : Nat} {blk : Blk} {B nn : Nat} {len cap : Nat} {m : List Ch}, hget H bk = some blk → β bk = some (.at_ B nn) → getRange blk.cs off (n * size) = some m →
      ∃ l, (∀ w', w'.heap = w.heap → (Builtin.firstCells size n (.slice (some ⟨B, off, none⟩) len cap)).run P w' = .ok ⟨l⟩ w') ∧ relL β m l ∧ l.length = n * size ∧
        (∀ B' off' len' cap' cur e fz, Value.slice (some ⟨B, off, none⟩) len cap = .slice (some ⟨B', off', none⟩) len' cap' → w.heap[B']? = some (.cells ⟨cur⟩ e fz) → off' + n * size ≤ cur.length ∧ l = (cur.drop off').take (n * size)) := by
    intro bk off blk B nn len cap m hb e1 hm
    rcases g.heap _ _ hb with ⟨B', n', l, t', e4, e2, e3, _⟩ | ⟨e4, _⟩
    · rw [e1] at e4; injection e4 with e4; injection e4 with e4 _; subst e4
      obtain ⟨h1, h2⟩ := getRange_rel hm e2
      refine ⟨_, fun w' hw => by simpa [Builtin.firstCells] using load_range (P := P) (w := w') (by rw [hw]; exact e3) h2, h1, by simp; omega, ?_⟩
      intro B' off' len' cap' cur e fz hu hh
      injection hu with hu _; injection hu with hu; injection hu with hu1 hu2; subst hu1; subst hu2
      rw [e3] at hh; injection hh with hh; injection hh with hh; injection hh with hh; subst hh
      refine ⟨by simp; omega, ?_⟩
      rw [List.drop_append_of_le_length (by omega), List.take_append_of_le_length (by simp; omega)]
    · rw [e1] at e4; cases e4
  have sq : ∀ {bk off : Nat} {blk : Blk} {B nn : Nat} {len cap : Nat} {kd : IntKind} {xs : List Int}, hget H bk = some blk → β bk = some (.at_ B nn) → blk.cs = [.seq kd xs] → size = 1 → off + n ≤ xs.length →
      ∃ l, (∀ w', w'.heap = w.heap → (Builtin.firstCells size n (.slice (some ⟨B, off, none⟩) len cap)).run P w' = .ok ⟨l⟩ w') ∧ relL β [.seq kd ((xs.drop off).take n)] l ∧ l.length = n * size ∧
        (∀ B' off' len' cap' cur e fz, Value.slice (some ⟨B, off, none⟩) len cap = .slice (some ⟨B', off', none⟩) len' cap' → w.heap[B']? = some (.cells ⟨cur⟩ e fz) → off' + n * size ≤ cur.length ∧ l = (cur.drop off').take (n * size)) := by
    intro bk off blk B nn len cap kd xs hb e1 hcs hsz hle
    rcases g.heap _ _ hb with ⟨B', n', l, t', e4, e2, e3, _⟩ | ⟨e4, _⟩
    · rw [e1] at e4; injection e4 with e4; injection e4 with e4 _; subst e4
      rw [hcs] at e2
      obtain ⟨rfl, hall⟩ := relL_seq_one e2
      refine ⟨(((xs.drop off).take n).map (.int kd)), fun w' hw => ?_, relL_seq_mk (fun x hx => hall x (List.mem_of_mem_drop (List.mem_of_mem_take hx))), by simp [hsz]; omega, ?_⟩
      · have := load_range (P := P) (w := w') (by rw [hw]; exact e3) (off := off) (k := n * size) (by simp [hsz]; omega)
        simpa [Builtin.firstCells, hsz, List.map_take, List.map_drop] using this
      · intro B' off' len' cap' cur e fz hu hh
        injection hu with hu _; injection hu with hu; injection hu with hu1 hu2; subst hu1; subst hu2
        rw [e3] at hh; injection hh with hh; injection hh with hh; injection hh with hh; subst hh
        refine ⟨by simp [hsz]; omega, ?_⟩
        rw [List.drop_append_of_le_length (by simp; omega), List.take_append_of_le_length (by simp [hsz]; omega), hsz, Nat.mul_one, List.map_take, List.map_drop]
    · rw [e1] at e4; cases e4
  unfold sliceCs at h
  split at h
  · injection h with h; injection h with h1 h2; subst h1; subst h2
    have := (rel_one (hx _ rfl)).1
    injection this with e _; subst e
    have hn := nbeq.1 hc.1
    subst hn
    exact ⟨[], fun _ _ => rfl, rfl, by simp, by simp⟩
  · rename_i bk off len cap
    obtain ⟨B, nn, e1, e2⟩ := rel_one (hx _ rfl)
    injection e2 with e2 _; subst e2
    split at h
    · rename_i blk hb
      split at h
      · rename_i kd xs hcs
        split at h
        · rename_i hsz
          injection h with h; injection h with h1 h2; subst h1; subst h2
          exact sq hb e1 hcs (nbeq.1 hsz) (Nat.le_of_ble_eq_true hc.1)
        · cases h
      · split at h
        · rename_i m hm
          injection h with h; injection h with h1 h2; subst h1; subst h2
          exact rng hb e1 hm
        · cases h
    · cases h
  · rename_i bk len sz
    split at h
    · rename_i blk hb
      rcases rel_one (hx _ rfl) with ⟨B, nn, cap, e1, e2, _⟩ | ⟨e1, e0, e2⟩
      · injection e2 with e2 _; subst e2
        split at h
        · rename_i kd xs hcs
          split at h
          · rename_i hsz
            injection h with h; injection h with h1 h2; subst h1; subst h2
            have := sq (off := 0) (len := len) (cap := cap) hb e1 hcs (nbeq.1 hsz) (by simpa using Nat.le_of_ble_eq_true hc.1)
            simpa using this
          · cases h
        · split at h
          · rename_i m hm
            injection h with h; injection h with h1 h2; subst h1; subst h2
            exact rng hb e1 hm
          · cases h
      · injection e2 with e2 _; subst e2
        rcases g.heap _ _ hb with ⟨B', n', l, t', e4, _⟩ | ⟨_, _, e5⟩
        · rw [e1] at e4; cases e4
        · split at h
          · rename_i kd xs hcs
            split at h
            · rename_i hsz
              injection h with h; injection h with h1 h2; subst h1; subst h2
              rw [hcs] at e5
              obtain ⟨e6, _⟩ := relL_seq_one e5
              have hxs : xs = [] := by simpa using e6.symm
              subst hxs
              have hn : n = 0 := by simpa using Nat.le_of_ble_eq_true hc.1
              subst hn
              exact ⟨[], fun _ _ => rfl, relL_seq_mk (by simp), by simp, by simp⟩
            · cases h
          · split at h
            · rename_i m hm
              injection h with h; injection h with h1 h2; subst h1; subst h2
              obtain ⟨h1, h2⟩ := getRange_rel hm e5
              have h3 : n * size = 0 := by simpa using h2
              exact ⟨[], fun _ _ => rfl, by simpa using h1, by simp [h3], by simp⟩
            · cases h
    · cases h
  · rename_i s
    split at h
    · rename_i hsz
      injection h with h; injection h with h1 h2; subst h1; subst h2
      have := (rel_one (hx _ rfl)).1
      injection this with e _; subst e
      have hle := Nat.le_of_ble_eq_true hc.1
      have hs1 := nbeq.1 hsz
      refine ⟨((s.data.toList.take n).map fun b => Value.int .u8 b.toNat), fun w' _ => ?_, ?_, ?_, by simp⟩
      · simp only [Builtin.firstCells, Sem.run_pure]
        congr 1
        apply Array.ext'
        rw [Array.toList_map]
        congr 1
        simp [ByteArray.extract, ByteArray.copySlice]
      · have := relL_seq_mk (β := β) (kd := .u8) (xs := (s.data.toList.take n).map fun b => (b.toNat : Int)) (by
          intro x hx
          obtain ⟨b, _, rfl⟩ := List.mem_map.1 hx
          rw [has_iff]
          have := b.toNat_lt
          simp [hasB]; omega)
        rw [List.map_map] at this
        exact this
      · rw [hs1]
        have : s.data.toList.length = s.size := Array.length_toList
        rw [List.length_map, List.length_take]; omega
    · cases h
  · cases h
theorem sliceCs_sound {size n : Nat} {x : Option AV} {u : Value} {cs : List Ch} {c : List (Bool × Bool)} (g : Good β H w) (hx : ∀ A, x = some A → relA β A u) (h : sliceCs H size x n = some (cs, c)) (hc : okConds c) :
    ∃ l, (Builtin.firstCells size n u).run P w = .ok ⟨l⟩ w ∧ relL β cs l ∧ l.length = n * size :=
  let ⟨l, h1, h2, h3, _⟩ := sliceCs_all (P := P) g hx h hc
  ⟨l, h1 w rfl, h2, h3⟩
end
end Go.Proofs.Ytoemaicabljpfaa.Ex
