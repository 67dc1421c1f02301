/- From contracts to the given statements: what arguments that can be read are; the lift for plain values. -/
import Derived.Test.YtoemaicabljpfaaExP
import Derived.ProofKit
import Derived.OpenShut
import Derived.ChangeOld
import Derived.SizedLaws
namespace Go.Proofs.Ytoemaicabljpfaa.Ex
open Go.RowKit (Below)
open Go.ChangeShapes Go.WideShapes Go.ChangeAt Go.RowKit

def shpFs (P : Program) (g : TypeId → Option (List (Option IntKind))) : List Field → Nat → Option (List (Option IntKind))
  | [], _ => some []
  | f :: fs, off => match Nat.beq f.offset off, g f.type with
    | true, some ks => match Nat.beq (P.cellsOf f.type) ks.length, shpFs P g fs (off + ks.length) with
      | true, some r => some (ks ++ r)
      | _, _ => none
    | _, _ => none
/-- The cells of a type of plain values. -/
def shp (P : Program) : Nat → TypeId → Option (List (Option IntKind))
  | 0, _ => none
  | d + 1, t => match P.underlying t with
    | some .bool => some [none]
    | some (.int k) => some [some k]
    | some (.array n e) => match shp P d e with
      | some ks => match Nat.beq (P.cellsOf e) ks.length, Nat.beq (P.cellsOf t) (n * ks.length) with
        | true, true => some (List.replicate n ks).flatten
        | _, _ => none
      | none => none
    | some (.struct fs) => match shpFs P (shp P d) fs.toList 0 with
      | some ks => match Nat.beq (P.cellsOf t) ks.length with
        | true => some ks
        | false => none
      | none => none
    | _ => none
def fitsH : List (Option IntKind) → List Value → Prop
  | [], [] => True
  | none :: ks, .bool _ :: r => fitsH ks r
  | some k :: ks, .int k' i :: r => k' = k ∧ has k i ∧ fitsH ks r
  | _, _ => False
theorem fitsH_mk : ∀ {ks js : List (Option IntKind)} {l : List Value}, fitsH ks (l.take ks.length) → fitsH js (l.drop ks.length) → fitsH (ks ++ js) l
  | [], js, l, _, h2 => by simpa using h2
  | none :: ks, js, [], h1, _ => by simp [fitsH] at h1
  | some _ :: ks, js, [], h1, _ => by simp [fitsH] at h1
  | none :: ks, js, x :: r, h1, h2 => by
    simp only [List.length_cons, List.take_succ_cons, List.drop_succ_cons] at h1 h2
    cases x <;> simp only [fitsH] at h1
    exact fitsH_mk (ks := ks) (js := js) h1 h2
  | some k :: ks, js, x :: r, h1, h2 => by
    simp only [List.length_cons, List.take_succ_cons, List.drop_succ_cons] at h1 h2
    cases x <;> simp only [fitsH] at h1
    exact ⟨h1.1, h1.2.1, fitsH_mk (ks := ks) (js := js) h1.2.2 h2⟩
theorem fitsH_flat {ks : List (Option IntKind)} : ∀ {n : Nat} {l : List Value}, l.length = n * ks.length → (∀ i, i < n → fitsH ks ((l.drop (i * ks.length)).take ks.length)) → fitsH (List.replicate n ks).flatten l
  | 0, l, h, _ => by
    have : l = [] := List.length_eq_zero_iff.1 (by omega)
    subst this; trivial
  | n + 1, l, h, hi => by
    rw [List.replicate_succ, List.flatten_cons]
    refine fitsH_mk (by simpa using hi 0 (by omega)) (fitsH_flat ?_ fun i hlt => ?_)
    · rw [List.length_drop, h, Nat.succ_mul]; omega
    · have := hi (i + 1) (by omega)
      rw [List.drop_drop, show ks.length + i * ks.length = (i + 1) * ks.length by rw [Nat.succ_mul]; omega]
      exact this
section
variable {H : Type} {enc : TypeId × Value → H} {P : Program} {w : World} {base : Nat} {spare : Nat → Bool} {held : Bool}
theorem wf_has {k : IntKind} {i : Int} (h : (Lit.int k i).wf = true) : has k i := by
  simp only [Lit.wf, Bool.and_eq_true, decide_eq_true_eq] at h
  exact h
theorem trod_fs {g : TypeId → Option (List (Option IntKind))} {tr : TypeId → List Value → Prop} (hg : ∀ t ks cs, g t = some ks → tr t cs → fitsH ks cs) :
    ∀ (fs : List Field) (off : Nat) (ks : List (Option IntKind)) (cs : List Value), shpFs P g fs off = some ks → (cs.drop off).length = ks.length → (∀ f ∈ fs, tr f.type ((cs.drop f.offset).take (P.cellsOf f.type))) → fitsH ks (cs.drop off)
  | [], off, ks, cs, h, hl, _ => by
    simp only [shpFs, Option.some.injEq] at h; subst h
    have : cs.drop off = [] := List.length_eq_zero_iff.1 hl
    rw [this]; trivial
  | f :: fs, off, ks, cs, h, hl, hf => by
    simp only [shpFs] at h
    split at h
    · rename_i ks1 h1 h2
      split at h
      · rename_i r h3 h4
        injection h with h; subst h
        have e1 := Nat.eq_of_beq_eq_true h1
        have e3 := Nat.eq_of_beq_eq_true h3
        have q := hf f (by simp)
        rw [e1, e3] at q
        refine fitsH_mk (hg _ _ _ h2 q) ?_
        rw [List.drop_drop]
        refine trod_fs hg fs (off + ks1.length) r cs h4 ?_ fun f' hf' => hf f' (by simp [hf'])
        rw [← List.drop_drop, List.length_drop, hl, List.length_append]; omega
      · cases h
    · cases h
theorem trod_shp : ∀ (d : Nat) (t : TypeId) (ks : List (Option IntKind)), shp P d t = some ks → ∀ (fuel : Nat) (cs : List Value) (x : DataW H × List MemPlace), DataW.trod enc P w base spare held fuel t cs = some x → fitsH ks cs
  | 0, t, ks, h, _, _, _, _ => by cases h
  | d + 1, t, ks, h, fuel, cs, x, hx => by
    simp only [shp] at h
    split at h
    · rename_i hu
      injection h with h; subst h
      obtain ⟨b, rfl, _⟩ := DataW.trod_bool hu hx
      trivial
    · rename_i k hu
      injection h with h; subst h
      obtain ⟨i, rfl, _, hw⟩ := DataW.trod_int hu hx
      exact ⟨rfl, wf_has hw, trivial⟩
    · rename_i n e hu
      split at h
      · rename_i ks1 h1
        split at h
        · rename_i h2 h3
          injection h with h; subst h
          have e2 := Nat.eq_of_beq_eq_true h2
          have e3 := Nat.eq_of_beq_eq_true h3
          obtain ⟨xs, m, rfl, _, hl, hn, hi⟩ := DataW.trod_array hu hx
          rw [e2] at hi
          refine fitsH_flat (by rw [hl, e3]) fun i hlt => ?_
          have := hi i hlt
          rw [List.getElem?_eq_getElem (by omega)] at this
          exact trod_shp d e ks1 h1 _ _ _ this
        · cases h
      · cases h
    · rename_i fs hu
      split at h
      · rename_i ks1 h1
        split at h
        · rename_i h2
          injection h with h; subst h
          have e2 := Nat.eq_of_beq_eq_true h2
          obtain ⟨xs, n, rfl, _, hl, hn, hf⟩ := DataW.trod_struct hu hx
          have := trod_fs (P := P) (tr := fun t cs => ∃ x, DataW.trod enc P w base spare held n t cs = some x) (fun t ks cs hg ⟨x, q⟩ => trod_shp d t ks hg _ _ _ q) fs.toList 0 ks1 cs h1 (by rw [List.drop_zero, hl, e2]) fun f hfm => ?_
          · simpa using this
          · obtain ⟨i, hi, rfl⟩ := List.getElem_of_mem hfm
            have hi' : i < fs.size := by simpa using hi
            have := hf i fs.toList[i] (by simp [hi'])
            rw [List.getElem?_eq_getElem (by omega)] at this
            exact ⟨_, this⟩
        · cases h
      · cases h
    · cases h
end

/-- What a plain value of a type is. -/
def isAggT (P : Program) (t : TypeId) : Bool := match P.underlying t with
  | some (.struct _) => true
  | some (.array _ _) => true
  | _ => false
def Plain (agg : Bool) (ks : List (Option IntKind)) (v : Value) : Prop := match agg with
  | true => ∃ l, v = .agg ⟨l⟩ ∧ fitsH ks l
  | false => fitsH ks [v]
theorem plain_of {H : Type} {enc : TypeId × Value → H} {P : Program} {W : World} {b base : Nat} {spare : Nat → Bool} {held : Bool} {r : Reach} {t : TypeId} {v : Value} {d : DataW H} {p : List MemPlace} {ks : List (Option IntKind)} {g : Bool} {n : Nat}
    (hs : shp P n t = some ks) (hg : isAggT P t = g) (hv : Value.okWide P W r b t v) (ht : DataW.Trod enc P W base spare held t v d p) : Plain g ks v := by
  obtain ⟨fuel, hf⟩ := ht
  have hfit := trod_shp n t ks hs fuel _ _ hf
  subst hg
  unfold isAggT
  split
  · rename_i fs hu
    obtain ⟨cs, rfl, _⟩ := okWide_struct hu hv
    exact ⟨cs.toList, rfl, by simpa [Value.cells] using hfit⟩
  · rename_i k e hu
    simp only [Value.okWide, hu] at hv
    obtain ⟨cs, rfl, _⟩ := hv
    exact ⟨cs.toList, rfl, by simpa [Value.cells] using hfit⟩
  · rename_i h1 h2
    show fitsH ks [v]
    cases n with
    | zero => cases hs
    | succ n =>
      simp only [shp] at hs
      split at hs
      · rename_i hu
        obtain ⟨b, hb, _⟩ := DataW.trod_bool hu hf
        rw [hb] at hfit
        have : v = .bool b := by
          obtain ⟨c, rfl⟩ := okWide_bool hu hv
          simpa [Value.cells] using hb
        rw [this]; exact hfit
      · rename_i k hu
        obtain ⟨i, hb, _⟩ := DataW.trod_int hu hf
        rw [hb] at hfit
        have : v = .int k i := by
          obtain ⟨c, rfl⟩ := okWide_int hu hv
          simpa [Value.cells] using hb
        rw [this]; exact hfit
      · rename_i m e hu; exact absurd hu (h2 _ _)
      · rename_i fs hu; exact absurd hu (h1 _)
      · cases hs

/- the frame of a law's proof -/
theorem trodAll_len {H : Type} {enc : TypeId × Value → H} {P : Program} {W : World} {base : Nat} {spare : Nat → Bool} {held : Bool} : ∀ {ts : List TypeId} {vs : List Value} {ds : List (DataW H)} {ps : List MemPlace}, DataW.TrodAll enc P W base spare held ts vs ds ps → vs.length = ts.length ∧ ds.length = ts.length
  | [], [], [], _, _ => ⟨rfl, rfl⟩
  | _ :: _, _ :: _, _ :: _, _, ⟨_, _, _, h, _⟩ => by have := trodAll_len h; simp [this]
theorem trodAll_below {H : Type} {enc : TypeId × Value → H} {P : Program} (hl : laidOutB P = true) {W W' : World} (hb : Below W.heap.size W W') : ∀ {ts : List TypeId} {vs : List Value} {ds : List (DataW H)} {ps : List MemPlace},
    ts.all (fun t => P.readableRec t && decide (t < P.types.size)) = true → DataW.TrodAll enc P W 0 (fun _ => true) true ts vs ds ps → DataW.TrodAll enc P W' 0 (fun b => decide (b < W.heap.size)) true ts vs ds ps
  | [], [], [], _, _, h => h
  | _ :: _, _ :: _, _ :: _, _, hr, ⟨p, q, h1, h2, e⟩ => by
    simp only [List.all_cons, Bool.and_eq_true, decide_eq_true_eq] at hr
    have hlt : ∀ x ∈ p, x.block < W.heap.size := by obtain ⟨m, hm⟩ := h1; exact DataW.trod_lt m _ _ _ hm
    exact ⟨p, q, Below.trod hl hr.1.1 hr.1.2 h1 hb hlt, trodAll_below hl hb (by simpa using hr.2) h2, e⟩

/-- What is asked of a law's specification: true is answered, each argument reads as it did. -/
def LawSpec (s : ChangeSpec) (n : Nat) : Prop := s.vars = [] ∧ ∀ (H : Type) (ds : List (DataW H)), ds.length = n → (s.fn H ds).results = [.lit (.bool true)] ∧ (s.fn H ds).args = ds ∧ (s.fn H ds).vars = []
/-- The walk of a law: called with whatever can be read, it answers true and turns nothing that was there. -/
def LawWalk (P : Program) (f : FuncId) (fn : Func) : Prop :=
  ∀ (H : Type) (enc : TypeId × Value → H) (us : List Value) (W : World) (base : Nat) (ds : List (DataW H)) (ps : List MemPlace), (∀ (j : Nat) t v, fn.params[j]? = some t → us[j]? = some v → Value.okWide P W .any base t v) →
    DataW.TrodAll enc P W 0 (fun _ => true) true fn.params.toList us ds ps → (DataW.weightsEach P fn.params.toList ds).all (· ≤ reachBytes) = true → W.noneFrozen ps → Calls P f ⟨us⟩ W fun e w' => e = .returned (.bool true) ∧ Below W.heap.size W w'
theorem law_lift {C : Checked} {os : Os} {f : FuncId} {fn : Func} {s : ChangeSpec} {H : Type} {enc : TypeId × Value → H} (own : ownKnob C.prog.godebug = none) (started : os.Started) (noInit : C.prog.inits.idxOf? f = none) (hfn : C.prog.funcs[f]? = some fn)
    (witness : ∃ (w : World) (tape : Tape) (i : Input), w.os = os ∧ (w.forCall tape i).Shaped C.prog ∧ i.vars = [] ∧ Input.okWide C.prog (w.forCall tape i) .any w.heap.size f i ∧
      s.pre6 enc C.prog fn [] false (w.forCall tape i).memory i.args ∧ Assume.holds {} C.prog (lone (Frame.enter C.prog f i.args .normal) [] (w.forCall tape i)))
    (hs : LawSpec s fn.params.size) (htypes : s.plain.varTypes C.prog = []) {tb : TypeId} (hrt : fn.resultTypes = #[tb]) (hub : C.prog.underlying tb = some .bool) (hlaid : laidOutB C.prog = true)
    (hpar : fn.params.toList.all (fun t => C.prog.readableRec t && decide (t < C.prog.types.size)) = true) (walk : LawWalk C.prog f fn) :
    ReturnsInHanded {} C os f .any (s.pre6 enc C.prog fn [] false) (s.post enc C.prog fn false true false false) := by
  refine returnsInHanded_of_change_sized own started noInit hfn witness ?_
  intro W base args ds gs before hval hW _ hwt _
  have hW' := hW
  obtain ⟨p, q, hA, hV, rfl, hfz, hnd⟩ := hW
  obtain ⟨hs1, hs2⟩ := hs
  rw [hs1] at hV
  obtain ⟨rfl, rfl⟩ := trodVars_none hV
  obtain ⟨l1, l2⟩ := trodAll_len hA
  rw [htypes, List.append_nil, List.append_nil] at hwt
  have e : args = ⟨args.toList⟩ := rfl
  rw [e]
  refine (walk H enc args.toList W base ds p (fun j t v h1 h2 => hval j t v h1 (by simpa using h2)) hA hwt (by simpa using hfz)).mono fun e W' ⟨he, bel⟩ => ?_
  subst he
  have hds : ds.length = fn.params.size := by rw [l2]; simp
  obtain ⟨r1, r2, r3⟩ := hs2 H (ds ++ []) (by rw [List.append_nil]; exact hds)
  refine ⟨_, rfl, ds, [], p ++ [], [], p, [], hW', ?_, ?_, ?_, bel.frame _, fun h => by cases h⟩
  · rw [r1, hrt]
    exact trodAll_mk1 (Go.RowKit.shut_bool hub _)
  · rw [r2, List.append_nil]
    exact trodAll_below hlaid bel hpar hA
  · rw [r3, hs1]; rfl
end Go.Proofs.Ytoemaicabljpfaa.Ex
