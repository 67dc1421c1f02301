/- The executor's operations on types' parts: equality of arrays and structs, fields, indexes, slices, literals, conversions. -/
import Derived.Test.YtoemaicabljpfaaExC
import Derived.Laws.Slices
import Derived.Laws.MakeOwn
namespace Go.Proofs.Ytoemaicabljpfaa.Ex

/- the leaves of a type that is compared -/
def leafFs (P : Program) (g : TypeId → Option (List (Option IntKind))) : List Field → Nat → Option (List (Option IntKind))
  | [], _ => some []
  | f :: fs, off => match decide (f.name ≠ "_"), Nat.beq f.offset off, g f.type with
    | true, true, some ks => match Nat.beq (P.cellsOf f.type) ks.length, leafFs P g fs (off + ks.length) with
      | true, some r => some (ks ++ r)
      | _, _ => none
    | _, _, _ => none
def leafs (P : Program) : Nat → TypeId → Option (List (Option IntKind))
  | 0, _ => none
  | d + 1, t => match P.underlying t with
    | some .bool => some [none]
    | some (.int k) => some [some k]
    | some (.array n e) => match leafs P d e with
      | some ks => match Nat.beq (P.cellsOf e) ks.length with
        | true => some (List.replicate n ks).flatten
        | false => none
      | none => none
    | some (.struct fs) => match P.stoodInHeld t with
      | false => leafFs P (leafs P d) fs.toList 0
      | true => none
    | _ => none

def fits : List (Option IntKind) → List Value → Prop
  | [], [] => True
  | none :: ks, .bool _ :: r => fits ks r
  | some k :: ks, .int k' _ :: r => k' = k ∧ fits ks r
  | _, _ => False
theorem fits_length : ∀ {ks : List (Option IntKind)} {l : List Value}, fits ks l → l.length = ks.length
  | [], [], _ => rfl
  | [], _ :: _, h => by simp [fits] at h
  | none :: ks, [], h => by simp [fits] at h
  | some _ :: ks, [], h => by simp [fits] at h
  | none :: ks, x :: r, h => by cases x <;> simp [fits] at h; simp [fits_length h]
  | some k :: ks, x :: r, h => by cases x <;> simp [fits] at h; simp [fits_length h.2]
theorem fits_append : ∀ {ks js : List (Option IntKind)} {l : List Value}, fits (ks ++ js) l → fits ks (l.take ks.length) ∧ fits js (l.drop ks.length)
  | [], js, l, h => by simpa [fits] using h
  | none :: ks, js, [], h => by simp [fits] at h
  | some _ :: ks, js, [], h => by simp [fits] at h
  | none :: ks, js, x :: r, h => by
    cases x <;> simp [fits] at h
    have := fits_append h
    simpa [fits] using this
  | some k :: ks, js, x :: r, h => by
    cases x <;> simp [fits] at h
    have := fits_append h.2
    simpa [fits, h.1] using this

/-- A value of a type, out of its cells. -/
def shapeV (P : Program) (t : TypeId) (xs : List Value) (X : Value) : Prop :=
  match P.underlying t with
  | some d => match wide d with
    | true => X = .agg ⟨xs⟩
    | false => xs = [X]
  | none => False

section
variable {P : Program}

theorem run_part_shape {t : TypeId} {d : TypeDesc} {i : TypeInfo} (hd : P.underlying t = some d) (hi : P.info? t = some i) {l : List Value} {off : Nat} (hfit : off + i.size ≤ l.length) (h1 : wide d = false → i.size = 1) (w : World) :
    ∃ v, (part t ⟨l⟩ off).run P w = .ok v w ∧ shapeV P t ((l.drop off).take i.size) v := by
  have hag := run_isAgg hd w
  cases hw : wide d with
  | true =>
    refine ⟨.agg ⟨(l.drop off).take i.size⟩, ?_, by simp [shapeV, hd, hw]⟩
    simp [part, hag, hw, sizeOf, typeInfo, hi]
  | false =>
    have hs := h1 hw
    have hlt : off < l.length := by omega
    refine ⟨l[off], ?_, ?_⟩
    · simp [part, hag, hw, hlt]
    · simp only [shapeV, hd, hw, hs]
      exact take_one hlt

def EqR (P : Program) (D : Nat) (t : TypeId) (ks : List (Option IntKind)) : Prop :=
  ∀ (xs ys : List Value) (X Y : Value) (w : World), fits ks xs → fits ks ys → shapeV P t xs X → shapeV P t ys Y → (Op.equalIn D t X Y).run P w = .ok (eqv xs ys) w

theorem leafs_wide {d : Nat} {t : TypeId} {ks : List (Option IntKind)} {ds : TypeDesc} (h : leafs P d t = some ks) (hd : P.underlying t = some ds) (hw : wide ds = false) : ks.length = 1 := by
  cases d with
  | zero => simp [leafs] at h
  | succ d =>
    simp only [leafs, hd] at h
    cases ds <;> simp [wide] at hw h
    all_goals (subst h; rfl)
theorem leafs_under {d : Nat} {t : TypeId} {ks : List (Option IntKind)} (h : leafs P d t = some ks) : ∃ ds i, P.underlying t = some ds ∧ P.info? t = some i := by
  cases d with
  | zero => simp [leafs] at h
  | succ d =>
    cases hd : P.underlying t with
    | none => simp [leafs, hd] at h
    | some ds => obtain ⟨i, hi⟩ := info_of_underlying hd; exact ⟨ds, i, rfl, hi⟩

theorem step_eq {D d : Nat} {e : TypeId} {ks js : List (Option IntKind)} (ih : EqR P D e ks) (hks : leafs P d e = some ks) (hc : P.cellsOf e = ks.length) {xs ys : List Value} {off : Nat} (w : World)
    (hx : fits (ks ++ js) (xs.drop off)) (hy : fits (ks ++ js) (ys.drop off)) :
    ∃ a b, (part e ⟨xs⟩ off).run P w = .ok a w ∧ (part e ⟨ys⟩ off).run P w = .ok b w ∧ (Op.equalIn D e a b).run P w = .ok (eqv ((xs.drop off).take ks.length) ((ys.drop off).take ks.length)) w ∧
      eqv (xs.drop off) (ys.drop off) = (eqv ((xs.drop off).take ks.length) ((ys.drop off).take ks.length) && eqv (xs.drop (off + ks.length)) (ys.drop (off + ks.length))) ∧
      fits js (xs.drop (off + ks.length)) ∧ fits js (ys.drop (off + ks.length)) := by
  obtain ⟨ds, i, hd, hi⟩ := leafs_under hks
  have hsz : i.size = ks.length := by simpa [Program.cellsOf, hi] using hc
  have lx := fits_length hx
  have ly := fits_length hy
  simp at lx ly
  have w1 : wide ds = false → i.size = 1 := fun hw => by rw [hsz]; exact leafs_wide hks hd hw
  by_cases hz : ks.length = 0
  · have hwd : wide ds = true := by
      cases hw : wide ds with
      | true => rfl
      | false => have := leafs_wide hks hd hw; omega
    have hag := run_isAgg hd w
    obtain ⟨fx1, fx2⟩ := fits_append hx
    obtain ⟨fy1, fy2⟩ := fits_append hy
    have pa : ∀ l : List Value, (part e ⟨l⟩ off).run P w = .ok (.agg ⟨(l.drop off).take ks.length⟩) w := by
      intro l
      simp [part, hag, hwd, sizeOf, typeInfo, hi, hsz]
    refine ⟨_, _, pa xs, pa ys, ih _ _ _ _ w fx1 fy1 (by simp [shapeV, hd, hwd]) (by simp [shapeV, hd, hwd]), ?_, ?_, ?_⟩
    · simp [hz, eqv]
    · rw [List.drop_drop] at fx2; exact fx2
    · rw [List.drop_drop] at fy2; exact fy2
  · obtain ⟨a, ha, sa⟩ := run_part_shape hd hi (l := xs) (off := off) (by omega) w1 w
    obtain ⟨b, hb, sb⟩ := run_part_shape hd hi (l := ys) (off := off) (by omega) w1 w
    rw [hsz] at sa sb
    obtain ⟨fx1, fx2⟩ := fits_append hx
    obtain ⟨fy1, fy2⟩ := fits_append hy
    refine ⟨a, b, ha, hb, ih _ _ _ _ w fx1 fy1 sa sb, ?_, ?_, ?_⟩
    · rw [← List.drop_drop, ← List.drop_drop, ← eqv_append (by rw [fits_length fx1, fits_length fy1]), List.take_append_drop, List.take_append_drop]
    · rw [List.drop_drop] at fx2; exact fx2
    · rw [List.drop_drop] at fy2; exact fy2

theorem eqItems_run {D d : Nat} {e : TypeId} {ks : List (Option IntKind)} (ih : EqR P D e ks) (hks : leafs P d e = some ks) (hc : P.cellsOf e = ks.length) {xs ys : List Value} (w : World) :
    ∀ (m i : Nat), fits (List.replicate m ks).flatten (xs.drop (i * ks.length)) → fits (List.replicate m ks).flatten (ys.drop (i * ks.length)) →
      (Op.eqItems D e (P.cellsOf e) ⟨xs⟩ ⟨ys⟩ (List.range' i m)).run P w = .ok (eqv (xs.drop (i * ks.length)) (ys.drop (i * ks.length))) w
  | 0, i, hx, hy => by
    have lx := fits_length hx
    have ly := fits_length hy
    simp at lx ly
    rw [List.drop_eq_nil_of_le (by omega), List.drop_eq_nil_of_le (by omega)]
    simp [Op.eqItems, eqv]
  | m + 1, i, hx, hy => by
    rw [List.replicate_succ, List.flatten_cons] at hx hy
    obtain ⟨a, b, ha, hb, hab, heq, fx, fy⟩ := step_eq ih hks hc w hx hy
    have e1 : i * ks.length + ks.length = (i + 1) * ks.length := by rw [Nat.succ_mul]
    rw [e1] at heq fx fy
    have hrest := eqItems_run ih hks hc w m (i + 1) fx fy
    rw [List.range'_succ]
    simp only [Op.eqItems, Sem.run_bind, hc, ha, hb, hab, Result.andThen_ok]
    rw [hc] at hrest
    rw [heq]
    cases he : eqv ((xs.drop (i * ks.length)).take ks.length) ((ys.drop (i * ks.length)).take ks.length)
    · simp
    · simpa using hrest

theorem eqFields_run {D d : Nat} (ih : ∀ (t : TypeId) (ks : List (Option IntKind)), leafs P d t = some ks → EqR P D t ks) {xs ys : List Value} (w : World) :
    ∀ (fs : List Field) (off : Nat) (ks : List (Option IntKind)), leafFs P (leafs P d) fs off = some ks → fits ks (xs.drop off) → fits ks (ys.drop off) →
      (Op.eqFields D ⟨xs⟩ ⟨ys⟩ fs).run P w = .ok (eqv (xs.drop off) (ys.drop off)) w
  | [], off, ks, h, hx, hy => by
    simp only [leafFs, Option.some.injEq] at h
    subst h
    have lx := fits_length hx
    have ly := fits_length hy
    simp at lx ly
    rw [List.drop_eq_nil_of_le (by omega), List.drop_eq_nil_of_le (by omega)]
    simp [Op.eqFields, eqv]
  | f :: fs, off, ks, h, hx, hy => by
    simp only [leafFs] at h
    split at h
    · rename_i ks1 hn ho hg
      split at h
      · rename_i r hc hr
        injection h with h; subst h
        have ho' := nbeq.1 ho
        have hn' : f.name ≠ "_" := by simpa using hn
        obtain ⟨a, b, ha, hb, hab, heq, fx, fy⟩ := step_eq (ih _ _ hg) hg (nbeq.1 hc) w hx hy
        have hrest := eqFields_run ih w fs _ _ hr fx fy
        rw [← ho'] at ha hb
        simp only [Op.eqFields, hn', ne_eq, not_false_eq_true, if_true, Sem.run_bind, ha, hb, hab, Result.andThen_ok]
        rw [heq]
        cases he : eqv ((xs.drop off).take ks1.length) ((ys.drop off).take ks1.length)
        · simp
        · simpa using hrest
      · cases h
    · cases h

theorem leafs_eq (d : Nat) : ∀ (t : TypeId) (ks : List (Option IntKind)) (D : Nat), leafs P d t = some ks → d ≤ D → EqR P D t ks := by
  induction d with
  | zero => intro t ks D h; simp [leafs] at h
  | succ d IH =>
    intro t ks D h hD
    obtain ⟨D, rfl⟩ : ∃ D', D = D' + 1 := ⟨D - 1, by omega⟩
    intro xs ys X Y w hx hy sx sy
    simp only [leafs] at h
    split at h
    · rename_i hu
      injection h with h; subst h
      simp only [shapeV, hu, wide] at sx sy
      subst sx; subst sy
      cases X <;> simp [fits] at hx
      cases Y <;> simp [fits] at hy
      rw [run_equalIn_bool w D t _ _ hu]
      simp [eqv]
    · rename_i k hu
      injection h with h; subst h
      simp only [shapeV, hu, wide] at sx sy
      subst sx; subst sy
      cases X <;> simp [fits] at hx
      cases Y <;> simp [fits] at hy
      rw [hx, hy, run_equalIn_int w D t k k _ _ hu]
      simp only [eqv, Bool.and_true]
      congr 1
    · rename_i n e hu
      split at h
      · rename_i ks1 hk
        split at h
        · rename_i hc
          injection h with h; subst h
          simp only [shapeV, hu, wide] at sx sy
          subst sx; subst sy
          obtain ⟨_, i, _, hi⟩ := leafs_under hk
          rw [run_equalIn_array w D ⟨xs⟩ ⟨ys⟩ hu hi, List.range_eq_range']
          have := eqItems_run (IH e ks1 D hk (by omega)) hk (nbeq.1 hc) (xs := xs) (ys := ys) w n 0 (by simpa using hx) (by simpa using hy)
          simpa using this
        · cases h
      · cases h
    · rename_i fs hu
      split at h
      · rename_i hp
        simp only [shapeV, hu, wide] at sx sy
        subst sx; subst sy
        have hf : P.fieldsOf t = fs := by simp [Program.fieldsOf, hu]
        rw [run_equalIn_struct w D t ⟨xs⟩ ⟨ys⟩ (by rw [hf]; exact hu) hp, hf]
        have := eqFields_run (fun t ks hk => IH t ks D hk (by omega)) (xs := xs) (ys := ys) w fs.toList 0 ks h (by simpa using hx) (by simpa using hy)
        simpa using this
      · cases h
    · cases h
end

def takeU (k : Nat) : List (Option IntKind) → Option (List (Option IntKind)) := match k with
  | 0 => fun ks => some ks
  | k + 1 => fun ks => match ks with
    | some .u64 :: r => takeU k r
    | _ => none
def fitsB : Nat → List (Option IntKind) → List Ch → Bool
  | 0, _, _ => false
  | f + 1, ks, cs => match ks, cs with
    | [], [] => true
    | ks, .num k _ :: r => match takeU k ks with | some ks' => fitsB f ks' r | none => false
    | some k :: ks, c :: r => match asI (some (.val false [c])) with
      | some (_, k', _) => match decide (k' = k) with | true => fitsB f ks r | false => false
      | none => false
    | none :: ks, c :: r => match asB (some (.val false [c])) with
      | some _ => fitsB f ks r
      | none => false
    | _, _ => false
theorem takeU_spec : ∀ {k : Nat} {ks ks' : List (Option IntKind)} {x : Nat} {l : List Value}, takeU k ks = some ks' → fits ks' l → fits ks (words k x ++ l)
  | 0, ks, ks', x, l, h, hl => by simp [takeU] at h; subst h; simpa [words] using hl
  | k + 1, ks, ks', x, l, h, hl => by
    simp only [takeU] at h
    split at h
    · rw [words_succ]
      exact ⟨rfl, takeU_spec h hl⟩
    · cases h
theorem fitsB_spec {β : Env} : ∀ {f : Nat} {ks : List (Option IntKind)} {cs : List Ch} {l : List Value}, fitsB f ks cs = true → relL β cs l → fits ks l
  | 0, _, _, _, h, _ => by simp [fitsB] at h
  | f + 1, ks, cs, l, h, hl => by
    unfold fitsB at h
    split at h
    · simp only [relL] at hl; subst hl; trivial
    · obtain ⟨l1, l2, h1, h2, rfl⟩ := hl
      simp only [relC] at h1
      split at h
      · rename_i ks' hk
        rw [h1.2]
        exact takeU_spec hk (fitsB_spec h h2)
      · cases h
    · rename_i k ks c r _
      obtain ⟨l1, l2, h1, h2, rfl⟩ := hl
      split at h
      · rename_i b k' i hi
        split at h
        · rename_i hk
          have z1 : szC c = 1 := by cases c <;> simp [asI] at hi <;> rfl
          obtain ⟨u, rfl⟩ : ∃ u, l1 = [u] := List.length_eq_one_iff.1 (by rw [relC_length h1, z1])
          obtain ⟨rfl, _⟩ := asI_rel (β := β) (u := u) (fun A hA => by injection hA with hA; subst hA; exact rel_one' h1) hi
          exact ⟨by simpa using hk, fitsB_spec h h2⟩
        · cases h
      · cases h
    · rename_i ks c r _
      obtain ⟨l1, l2, h1, h2, rfl⟩ := hl
      split at h
      · rename_i p hi
        obtain ⟨b, y⟩ := p
        have z1 : szC c = 1 := by cases c <;> simp [asB] at hi <;> rfl
        obtain ⟨u, rfl⟩ : ∃ u, l1 = [u] := List.length_eq_one_iff.1 (by rw [relC_length h1, z1])
        have := asB_rel (β := β) (u := u) (fun A hA => by injection hA with hA; subst hA; exact rel_one' h1) hi
        subst this
        show fits ks l2
        exact fitsB_spec h h2
      · cases h
    · cases h

end Go.Proofs.Ytoemaicabljpfaa.Ex
