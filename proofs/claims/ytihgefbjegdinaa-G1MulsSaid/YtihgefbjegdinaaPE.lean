/- Part 5 of the proof: Kg, Kh, Ki, Kj, Kk, Kl, Km, Kn. -/
import Derived.Test.YtihgefbjegdinaaPD
/- Points told by their cells; g1: b, Base, Reduce, Neg, On. -/
namespace Go.Proofs.Ytihgefbjegdinaa
open Ex Num Rg
set_option maxRecDepth 100000

def g1A (x y : Nat) (i : Bool) : AV := .val true [.num 6 x, .num 6 y, .v (.bool i)]
def asG1 (cs : List Ch) : Option (Nat × Nat × Bool) := match splitCh cs 6 with
  | some (a, r) => match splitCh r 6 with
    | some (b, [c]) => match asNum 6 a, asNum 6 b, asB (some (.val false [c])) with
      | some x, some y, some (_, i) => some (x, y, i)
      | _, _, _ => none
    | _ => none
  | none => none
theorem asG1_rel {β β' : Env} {cs : List Ch} {x y : Nat} {i : Bool} {u : Value} (h : asG1 cs = some (x, y, i)) (hr : relA β (.val true cs) u) : relA β' (g1A x y i) u ∧ x < RR ∧ y < RR := by
  unfold asG1 at h
  split at h
  case h_2 => cases h
  rename_i a r h1
  split at h
  case h_2 => cases h
  rename_i b c h2
  split at h
  case h_2 => cases h
  rename_i x' y' c0 i' h3 h4 h5
  injection h with h; injection h with e1 h; injection h with e2 e3
  subst e1; subst e2; subst e3
  obtain ⟨l, hl, rfl⟩ := hr
  obtain ⟨q1, q2, q3⟩ := split_rel h1 hl
  obtain ⟨r1, r2, r3⟩ := split_rel h2 q2
  obtain ⟨ea, la⟩ := asNum_rel h3 q1
  obtain ⟨eb, lb⟩ := asNum_rel h4 r1
  obtain ⟨l1, l2, hc1, hc2, hc3⟩ := r2
  simp only [relL] at hc2
  subst hc2
  have hlen := relC_length hc1
  have hsz : szC c = 1 := by
    unfold asB at h5
    split at h5
    · rename_i _ _ hq; injection hq with hq; injection hq with _ hq; injection hq with hq _; rw [hq]; rfl
    · rename_i _ _ hq; injection hq with hq; injection hq with _ hq; injection hq with hq _; rw [hq]; rfl
    · cases h5
  rw [hsz] at hlen
  obtain ⟨w, rfl⟩ := List.length_eq_one_iff.1 hlen
  have hw : w = .bool i' := asB_rel (β := β) (u := w) (fun A hA => by injection hA with hA; subst hA; exact ⟨[w], [], hc1, rfl, rfl⟩) h5
  subst hw
  rw [RR_eq]
  refine ⟨⟨l, ⟨_, _, ⟨la, rfl⟩, ⟨_, _, ⟨lb, rfl⟩, ⟨[.bool i'], [], ⟨rfl, rfl, trivial⟩, rfl, rfl⟩, rfl⟩, ?_⟩, rfl⟩, la, lb⟩
  rw [← ea, ← eb, ← hc3, List.take_append_drop, List.take_append_drop]

/- points -/
def toPt (x y : Nat) (i : Bool) : Pt FP := match i with
  | true => .inf
  | false => .pt (tf x) (tf y)
def ptX : Pt FP → Nat
  | .inf => 0
  | .pt a _ => a.val
def ptY : Pt FP → Nat
  | .inf => 0
  | .pt _ b => b.val
def ptI : Pt FP → Bool
  | .inf => true
  | .pt _ _ => false
def g1V (P : Pt FP) : AV := g1A (ptX P) (ptY P) (ptI P)
theorem ptX_lt (P : Pt FP) : ptX P < pN := by cases P with | inf => exact pN_pos | pt a b => exact a.isLt
theorem ptY_lt (P : Pt FP) : ptY P < pN := by cases P with | inf => exact pN_pos | pt a b => exact b.isLt
theorem toPt_of (P : Pt FP) : toPt (ptX P) (ptY P) (ptI P) = P := by
  cases P with
  | inf => rfl
  | pt a b => show Pt.pt (tf a.val) (tf b.val) = _; rw [tf_val, tf_val]
theorem g1V_pt (x y : Nat) : g1V (.pt (tf x) (tf y)) = g1A (x % pN) (y % pN) false := rfl
theorem g1V_inf : g1V .inf = g1A 0 0 true := rfl
theorem g1V_mk {x y : Nat} {a b : FP} (hx : x < pN) (hy : y < pN) (ha : tf x = a) (hb : tf y = b) : g1A x y false = g1V (.pt a b) := by
  rw [← ha, ← hb, g1V_pt, Nat.mod_eq_of_lt hx, Nat.mod_eq_of_lt hy]
theorem pure_g1 {P : Program} {f : FuncId} {args : List AV} {cs : List Ch} {x y : Nat} {i : Bool} (h : PureOk P f args (.val true cs)) (hc : asG1 cs = some (x, y, i)) : PureOk P f args (g1A x y i) := pure_val h fun _ hu => (asG1_rel hc hu).1
/- contracts of functions of points -/
def spG (g : Pt FP → AV) : List AV → Option AV
  | [.val true a] => match asG1 a with
    | some (x, y, i) => some (g (toPt x y i))
    | none => none
  | _ => none
theorem spG_ok {f : FuncId} {g : Pt FP → AV} (h : ∀ x y i, PureOk Try.prog f [g1A x y i] (g (toPt x y i))) : ∀ args v, spG g args = some v → PureOk Try.prog f args v := by
  intro args v hs us w ha
  unfold spG at hs
  split at hs
  case h_2 => cases hs
  rename_i a
  split at hs
  case h_2 => cases hs
  rename_i x y i hx
  injection hs with hs; subst hs
  obtain ⟨u1, us1, r1, ha, rfl⟩ := ha
  exact h x y i _ w ⟨u1, _, (asG1_rel hx r1).1, ha, rfl⟩
def spGG (g : Pt FP → Pt FP → AV) : List AV → Option AV
  | [.val true a, .val true b] => match asG1 a, asG1 b with
    | some (x, y, i), some (x', y', i') => some (g (toPt x y i) (toPt x' y' i'))
    | _, _ => none
  | _ => none
theorem spGG_ok {f : FuncId} {g : Pt FP → Pt FP → AV} (h : ∀ x y i x' y' i', PureOk Try.prog f [g1A x y i, g1A x' y' i'] (g (toPt x y i) (toPt x' y' i'))) : ∀ args v, spGG g args = some v → PureOk Try.prog f args v := by
  intro args v hs us w ha
  unfold spGG at hs
  split at hs
  case h_2 => cases hs
  rename_i a b
  split at hs
  case h_2 => cases hs
  rename_i x y i x' y' i' hx hy
  injection hs with hs; subst hs
  obtain ⟨u1, us1, r1, ⟨u2, us2, r2, ha, rfl⟩, rfl⟩ := ha
  exact h x y i x' y' i' _ w ⟨u1, _, (asG1_rel hx r1).1, ⟨u2, _, (asG1_rel hy r2).1, ha, rfl⟩, rfl⟩

/- b, Base, Reduce -/
theorem g1b_run : pureRun Try.prog (orc S0 K0) Try.f96 [] [] 100 = some ([], .val true [.n .u64 4, .n .u64 0, .n .u64 0, .n .u64 0, .n .u64 0, .n .u64 0]) := by kernel_rfl
theorem g1b_ok : PureOk Try.prog 96 [] (num6 4) := pure_val (pure_ok (orc_ok S0ok K0ok) mixed Try.func96 g1b_run trivial rfl) fun u hu => num6_of (by kernel_rfl) hu
def gX : Nat := 0x17f1d3a73197d7942695638c4fa9ac0fc3688c4f9774b905a14e3a3f171bac586c55e83ff97a1aeffb3af00adb22c6bb
def gY : Nat := 0x08b3f481e3aaa0f1a09e30ed741d8ae4fcf5e095d5d00af600db18cb2c04b3edd03cc744a2888ae40caa232946c5e7e1
def gC : List Ch := [.n .u64 0xfb3af00adb22c6bb, .n .u64 0x6c55e83ff97a1aef, .n .u64 0xa14e3a3f171bac58, .n .u64 0xc3688c4f9774b905, .n .u64 0x2695638c4fa9ac0f, .n .u64 0x17f1d3a73197d794,
  .n .u64 0xcaa232946c5e7e1, .n .u64 0xd03cc744a2888ae4, .n .u64 0xdb18cb2c04b3ed, .n .u64 0xfcf5e095d5d00af6, .n .u64 0xa09e30ed741d8ae4, .n .u64 0x8b3f481e3aaa0f1, .b false]
theorem base_run : pureRun Try.prog (orc S0 K0) Try.f54 [] [] 100 = some ([], .val true gC) := by kernel_rfl
def G1B : Pt FP := .pt (tf gX) (tf gY)
theorem gX_lt : Nat.blt gX pN = true := by kernel_rfl
theorem gY_lt : Nat.blt gY pN = true := by kernel_rfl
theorem G1B_A : g1A gX gY false = g1V G1B := g1V_mk (nblt.1 gX_lt) (nblt.1 gY_lt) rfl rfl
theorem base_ok : PureOk Try.prog 54 [] (g1V G1B) := by
  rw [← G1B_A]
  exact pure_g1 (pure_ok (orc_ok S0ok K0ok) mixed Try.func54 base_run trivial rfl) (by kernel_rfl)
def zero12 (i : Bool) : List Ch := [.n .u64 0, .n .u64 0, .n .u64 0, .n .u64 0, .n .u64 0, .n .u64 0, .n .u64 0, .n .u64 0, .n .u64 0, .n .u64 0, .n .u64 0, .n .u64 0, .b i]
theorem gred_inf (x y : Nat) (i : Bool) : pureRun Try.prog (orc SE K0) Try.f60 [g1A x y i] [true] 300 = some ([(i, true)], .val true (zero12 true)) := by kernel_rfl
theorem gred_pt (x y : Nat) (i : Bool) : pureRun Try.prog (orc SE K0) Try.f60 [g1A x y i] [false] 300 = some ([(i, false)], .val true [.num 6 (x % pN), .num 6 (y % pN), .b false]) := by kernel_rfl
theorem gred_ok (x y : Nat) (i : Bool) : PureOk Try.prog 60 [g1A x y i] (g1V (toPt x y i)) := by
  cases i with
  | true => exact pure_g1 (pure_ok (orc_ok SEok K0ok) mixed Try.func60 (gred_inf x y true) ⟨rfl, trivial⟩ rfl) (by kernel_rfl)
  | false => exact pure_g1 (pure_ok (orc_ok SEok K0ok) mixed Try.func60 (gred_pt x y false) ⟨rfl, trivial⟩ rfl) (by kernel_rfl)
noncomputable def SG0 : List (FuncId × ASpec) := (96, pureSpec fun args => match args with | [] => some (num6 4) | _ => none) :: (54, pureSpec fun args => match args with | [] => some (g1V G1B) | _ => none) :: (60, pureSpec (spG g1V)) :: SE
theorem SG0ok : SpecsOk Try.prog SG0 := ⟨pureSpec_ok Try.func96 (by kernel_rfl) (by kernel_rfl) (sp0_ok g1b_ok fun u h => h), pureSpec_ok Try.func54 (by kernel_rfl) (by kernel_rfl) (sp0_ok base_ok fun u h => h),
  pureSpec_ok Try.func60 (by kernel_rfl) (by kernel_rfl) (spG_ok gred_ok), SEok⟩
end Go.Proofs.Ytihgefbjegdinaa
/- g1: Neg, On, Add: the contracts. -/
namespace Go.Proofs.Ytihgefbjegdinaa
open Ex Num Rg
set_option maxRecDepth 100000

theorem tf_inv {n : Nat} (h : n < pN) : tf (invN n) = invF (tf n) := by unfold invF; rw [val_tf h]
theorem ptX_eq {a b c d : FP} : ptX (.pt a b) = ptX (.pt c d) ↔ a = c := by rw [Fin.ext_iff]; exact Iff.rfl
theorem ptY_eq {a b c d : FP} : ptY (.pt a b) = ptY (.pt c d) ↔ b = d := by rw [Fin.ext_iff]; exact Iff.rfl
theorem val_zero {b : FP} : b.val = 0 ↔ b = 0 := by rw [Fin.ext_iff]; exact Iff.rfl
theorem gneg_run (x y : Nat) (i : Bool) : pureRun Try.prog (orc SG0 K0) Try.f59 [g1A x y i] [] 300 = some ([], g1A (ptX (toPt x y i)) (negN (ptY (toPt x y i))) (ptI (toPt x y i))) := by kernel_rfl
theorem g1V_neg (P : Pt FP) : g1A (ptX P) (negN (ptY P)) (ptI P) = g1V (Rg.neg P) := by
  cases P with
  | inf =>
    have : negN 0 = 0 := negN_zero rfl
    show g1A 0 (negN 0) true = g1A 0 0 true
    rw [this]
  | pt a b => exact g1V_mk a.isLt (negN_lt _) (tf_val a) (by rw [tf_negN]; show -tf b.val = _; rw [tf_val])
theorem gneg_ok (x y : Nat) (i : Bool) : PureOk Try.prog 59 [g1A x y i] (g1V (Rg.neg (toPt x y i))) := by
  rw [← g1V_neg]
  exact pure_ok (orc_ok SG0ok K0ok) mixed Try.func59 (gneg_run x y i) trivial rfl
noncomputable def onP : Pt FP → Bool
  | .inf => true
  | .pt a b => decide (b * b = a * a * a + four)
theorem onP_iff (P : Pt FP) : onP P = true ↔ Rg.On C1.b P := by
  cases P with
  | inf => exact ⟨fun _ => trivial, fun _ => rfl⟩
  | pt a b => exact decide_eq_true_iff
theorem on_inf_run (x y : Nat) (i : Bool) : pureRun Try.prog (orc SG0 K0) Try.f56 [g1A x y i] [true] 300 = some ([(i, true)], .val false [.b true]) := by kernel_rfl
theorem on_pt_run (x y : Nat) (i : Bool) : pureRun Try.prog (orc SG0 K0) Try.f56 [g1A x y i] [false] 300 = some ([(i, false)], boolA (decide (mulN y y = addN (mulN (mulN x x) x) 4))) := by kernel_rfl
theorem on_eqN (x y : Nat) : decide (mulN y y = addN (mulN (mulN x x) x) 4) = onP (toPt x y false) := by
  have e : (mulN y y = addN (mulN (mulN x x) x) 4) ↔ (tf y * tf y = tf x * tf x * tf x + four) := by
    constructor
    · intro h
      have := congrArg tf h
      simpa [tf_mulN, tf_addN, four] using this
    · intro h
      exact tf_lt (mulN_lt _ _) (addN_lt _ _) (by simpa [tf_mulN, tf_addN, four] using h)
  show _ = decide (tf y * tf y = tf x * tf x * tf x + four)
  by_cases h : mulN y y = addN (mulN (mulN x x) x) 4
  · rw [decide_eq_true h, decide_eq_true (e.1 h)]
  · rw [decide_eq_false h, decide_eq_false fun q => h (e.2 q)]
theorem gon_ok (x y : Nat) (i : Bool) : PureOk Try.prog 56 [g1A x y i] (boolA (onP (toPt x y i))) := by
  cases i with
  | true => exact pure_val (pure_ok (orc_ok SG0ok K0ok) mixed Try.func56 (on_inf_run x y true) ⟨rfl, trivial⟩ rfl) fun u hu => bv_one rfl hu
  | false => rw [← on_eqN]; exact pure_ok (orc_ok SG0ok K0ok) mixed Try.func56 (on_pt_run x y false) ⟨rfl, trivial⟩ rfl

/- Add -/
noncomputable def chL (px py qx qy : Nat) : Nat := mulN (subN qy py) (invN (subN qx px))
noncomputable def tgL (px py : Nat) : Nat := mulN (addN (addN (mulN px px) (mulN px px)) (mulN px px)) (invN (addN py py))
def smX (l px qx : Nat) : Nat := subN (subN (mulN l l) px) qx
def smY (l px py x : Nat) : Nat := subN (mulN l (subN px x)) py
section
variable (x y : Nat) (i : Bool) (x' y' : Nat) (i' : Bool)
theorem gadd_1 : pureRun Try.prog (orc SG0 K0) Try.f57 [g1A x y i, g1A x' y' i'] [true] 300 = some ([(ptI (toPt x y i), true)], g1V (toPt x' y' i')) := by kernel_rfl
theorem gadd_2 : pureRun Try.prog (orc SG0 K0) Try.f57 [g1A x y i, g1A x' y' i'] [false, true] 300 = some ([(ptI (toPt x y i), false), (ptI (toPt x' y' i'), true)], g1V (toPt x y i)) := by kernel_rfl
def gaC (P Q : Pt FP) (d : Bool) (r : List (Bool × Bool)) : List (Bool × Bool) := (ptI P, false) :: (ptI Q, false) :: (!decide (ptX P = ptX Q), d) :: r
theorem gadd_3 : pureRun Try.prog (orc SG0 K0) Try.f57 [g1A x y i, g1A x' y' i'] [false, false, true] 300 =
  some (gaC (toPt x y i) (toPt x' y' i') true [], .val true [.num 6 (smX (chL (ptX (toPt x y i)) (ptY (toPt x y i)) (ptX (toPt x' y' i')) (ptY (toPt x' y' i'))) (ptX (toPt x y i)) (ptX (toPt x' y' i'))), .num 6 (smY (chL (ptX (toPt x y i)) (ptY (toPt x y i)) (ptX (toPt x' y' i')) (ptY (toPt x' y' i'))) (ptX (toPt x y i)) (ptY (toPt x y i)) (smX (chL (ptX (toPt x y i)) (ptY (toPt x y i)) (ptX (toPt x' y' i')) (ptY (toPt x' y' i'))) (ptX (toPt x y i)) (ptX (toPt x' y' i')))), .b false]) := by kernel_rfl
theorem gadd_4 : pureRun Try.prog (orc SG0 K0) Try.f57 [g1A x y i, g1A x' y' i'] [false, false, false, true] 300 =
  some (gaC (toPt x y i) (toPt x' y' i') false [(!decide (ptY (toPt x y i) = ptY (toPt x' y' i')), true)], .val true (zero12 true)) := by kernel_rfl
theorem gadd_5 : pureRun Try.prog (orc SG0 K0) Try.f57 [g1A x y i, g1A x' y' i'] [false, false, false, false, true] 300 =
  some (gaC (toPt x y i) (toPt x' y' i') false [(!decide (ptY (toPt x y i) = ptY (toPt x' y' i')), false), (decide (ptY (toPt x y i) = 0), true)], .val true (zero12 true)) := by kernel_rfl
theorem gadd_6 : pureRun Try.prog (orc SG0 K0) Try.f57 [g1A x y i, g1A x' y' i'] [false, false, false, false, false] 300 =
  some (gaC (toPt x y i) (toPt x' y' i') false [(!decide (ptY (toPt x y i) = ptY (toPt x' y' i')), false), (decide (ptY (toPt x y i) = 0), false)], .val true [.num 6 (smX (tgL (ptX (toPt x y i)) (ptY (toPt x y i))) (ptX (toPt x y i)) (ptX (toPt x' y' i'))), .num 6 (smY (tgL (ptX (toPt x y i)) (ptY (toPt x y i))) (ptX (toPt x y i)) (ptY (toPt x y i)) (smX (tgL (ptX (toPt x y i)) (ptY (toPt x y i))) (ptX (toPt x y i)) (ptX (toPt x' y' i')))), .b false]) := by kernel_rfl
end
theorem sm_pt {l : Nat} {L a b c : FP} (hl : tf l = L) : g1A (smX l a.val c.val) (smY l a.val b.val (smX l a.val c.val)) false = g1V (sumAt a b c L) := by
  have hX : tf (smX l a.val c.val) = L * L - a - c := by unfold smX; simp only [tf_subN, tf_mulN, tf_val, hl]
  refine g1V_mk (subN_lt _ _) (subN_lt _ _) hX ?_
  unfold smY
  rw [tf_subN, tf_mulN, tf_subN, hX, tf_val, tf_val, hl]
theorem tf_chL (a b c d : FP) : tf (chL a.val b.val c.val d.val) = (d - b) * FD.inv (c - a) := by
  unfold chL
  rw [tf_mulN, tf_subN, tf_inv (subN_lt _ _), tf_subN, tf_val, tf_val, tf_val, tf_val]; rfl
theorem tf_tgL (a b : FP) : tf (tgL a.val b.val) = (a * a + a * a + a * a) * FD.inv (b + b) := by
  unfold tgL
  rw [tf_mulN, tf_addN, tf_addN, tf_mulN, tf_inv (addN_lt _ _), tf_addN, tf_val, tf_val]; rfl
theorem gadd_ok (x y : Nat) (i : Bool) (x' y' : Nat) (i' : Bool) : PureOk Try.prog 57 [g1A x y i, g1A x' y' i'] (g1V (Rg.add (toPt x y i) (toPt x' y' i'))) := by
  have r1 := gadd_1 x y i x' y' i'
  have r2 := gadd_2 x y i x' y' i'
  have r3 := gadd_3 x y i x' y' i'
  have r4 := gadd_4 x y i x' y' i'
  have r5 := gadd_5 x y i x' y' i'
  have r6 := gadd_6 x y i x' y' i'
  generalize toPt x y i = P at *
  generalize toPt x' y' i' = Q at *
  cases P with
  | inf => exact pure_ok (orc_ok SG0ok K0ok) mixed Try.func57 r1 ⟨rfl, trivial⟩ rfl
  | pt a b => cases Q with
    | inf => exact pure_ok (orc_ok SG0ok K0ok) mixed Try.func57 r2 ⟨rfl, rfl, trivial⟩ rfl
    | pt c d =>
      rw [add_pt]
      by_cases hx : a = c
      · rw [if_pos hx]
        have hx' : (!decide (ptX (.pt a b) = ptX (.pt c d))) = false := by rw [decide_eq_true (ptX_eq.2 hx)]; rfl
        by_cases hy : b = d
        · have hy' : (!decide (ptY (.pt a b) = ptY (.pt c d))) = false := by rw [decide_eq_true (ptY_eq.2 hy)]; rfl
          by_cases h0 : b = 0
          · rw [if_neg (fun h => h.2 h0)]
            exact pure_g1 (pure_ok (orc_ok SG0ok K0ok) mixed Try.func57 r5 ⟨rfl, rfl, hx', hy', decide_eq_true (val_zero.2 h0), trivial⟩ rfl) (by kernel_rfl)
          · rw [if_pos ⟨hy, h0⟩, ← sm_pt (tf_tgL a b)]
            exact pure_g1 (pure_ok (orc_ok SG0ok K0ok) mixed Try.func57 r6 ⟨rfl, rfl, hx', hy', decide_eq_false fun h => h0 (val_zero.1 h), trivial⟩ rfl) rfl
        · rw [if_neg (fun h => hy h.1)]
          exact pure_g1 (pure_ok (orc_ok SG0ok K0ok) mixed Try.func57 r4 ⟨rfl, rfl, hx', by rw [decide_eq_false fun h => hy (ptY_eq.1 h)]; rfl, trivial⟩ rfl) (by kernel_rfl)
      · rw [if_neg hx, ← sm_pt (tf_chL a b c d)]
        exact pure_g1 (pure_ok (orc_ok SG0ok K0ok) mixed Try.func57 r3 ⟨rfl, rfl, by rw [decide_eq_false fun h => hx (ptX_eq.1 h)]; rfl, trivial⟩ rfl) rfl
noncomputable def SG1 : List (FuncId × ASpec) := (59, pureSpec (spG fun P => g1V (Rg.neg P))) :: (56, pureSpec (spG fun P => boolA (onP P))) :: (57, pureSpec (spGG fun P Q => g1V (Rg.add P Q))) :: SG0
theorem SG1ok : SpecsOk Try.prog SG1 := ⟨pureSpec_ok Try.func59 (by kernel_rfl) (by kernel_rfl) (spG_ok gneg_ok), pureSpec_ok Try.func56 (by kernel_rfl) (by kernel_rfl) (spG_ok gon_ok),
  pureSpec_ok Try.func57 (by kernel_rfl) (by kernel_rfl) (spGG_ok gadd_ok), SG0ok⟩
end Go.Proofs.Ytihgefbjegdinaa
/- g1: points as fractions: twice, plus, point: the contracts. -/
namespace Go.Proofs.Ytihgefbjegdinaa
open Ex Num Rg
set_option maxRecDepth 100000

def f3A (x y z : Nat) : AV := .val true [.num 6 x, .num 6 y, .num 6 z]
def f3V (j : J FP) : AV := f3A j.x.val j.y.val j.z.val
def toJ (x y z : Nat) : J FP := ⟨tf x, tf y, tf z⟩
def asF3 (cs : List Ch) : Option (Nat × Nat × Nat) := match splitCh cs 6 with
  | some (a, r) => match splitCh r 6 with
    | some (b, c) => match asNum 6 a, asNum 6 b, asNum 6 c with
      | some x, some y, some z => some (x, y, z)
      | _, _, _ => none
    | _ => none
  | none => none
theorem asF3_rel {β β' : Env} {cs : List Ch} {x y z : Nat} {u : Value} (h : asF3 cs = some (x, y, z)) (hr : relA β (.val true cs) u) : relA β' (f3A x y z) u := by
  unfold asF3 at h
  split at h
  case h_2 => cases h
  rename_i a r h1
  split at h
  case h_2 => cases h
  rename_i b c h2
  split at h
  case h_2 => cases h
  rename_i x' y' z' h3 h4 h5
  injection h with h; injection h with e1 h; injection h with e2 e3
  subst e1; subst e2; subst e3
  obtain ⟨l, hl, rfl⟩ := hr
  obtain ⟨q1, q2, q3⟩ := split_rel h1 hl
  obtain ⟨r1, r2, r3⟩ := split_rel h2 q2
  obtain ⟨ea, la⟩ := asNum_rel h3 q1
  obtain ⟨eb, lb⟩ := asNum_rel h4 r1
  obtain ⟨ec, lc⟩ := asNum_rel h5 r2
  refine ⟨l, ⟨_, _, ⟨la, rfl⟩, ⟨_, _, ⟨lb, rfl⟩, ⟨_, [], ⟨lc, rfl⟩, rfl, rfl⟩, rfl⟩, ?_⟩, rfl⟩
  rw [← ea, ← eb, ← ec, List.append_nil, List.take_append_drop, List.take_append_drop]
theorem f3V_mk {x y z : Nat} {j : J FP} (hx : x < pN) (hy : y < pN) (hz : z < pN) (ex : tf x = j.x) (ey : tf y = j.y) (ez : tf z = j.z) : f3A x y z = f3V j := by
  unfold f3V
  rw [← val_eq hx ex, ← val_eq hy ey, ← val_eq hz ez]

/- twice -/
def nE (x : Nat) : Nat := addN (addN (mulN x x) (mulN x x)) (mulN x x)
def nD (x y : Nat) : Nat := addN (addN (mulN x (mulN y y)) (mulN x (mulN y y))) (addN (mulN x (mulN y y)) (mulN x (mulN y y)))
def nC2 (y : Nat) : Nat := addN (mulN (mulN y y) (mulN y y)) (mulN (mulN y y) (mulN y y))
def nC4 (y : Nat) : Nat := addN (nC2 y) (nC2 y)
def nC8 (y : Nat) : Nat := addN (nC4 y) (nC4 y)
def nX (x y : Nat) : Nat := subN (mulN (nE x) (nE x)) (addN (nD x y) (nD x y))
def nY (x y : Nat) : Nat := subN (mulN (nE x) (subN (nD x y) (nX x y))) (nC8 y)
theorem tw_run (x y z : Nat) : pureRun Try.prog (orc SG1 K0) Try.f97 [f3A x y z] [] 500 = some ([], f3A (nX x y) (nY x y) (addN (mulN y z) (mulN y z))) := by kernel_rfl
theorem tf_nX (x y : Nat) : tf (nX x y) = jX (tf x) (tf y) := by
  unfold nX nE nD jX jE jD
  simp only [tf_subN, tf_mulN, tf_addN]
theorem tf_nY (x y : Nat) : tf (nY x y) = jE (tf x) * (jD (tf x) (tf y) - jX (tf x) (tf y)) - jC8 (tf y) := by
  unfold nY
  rw [tf_subN, tf_mulN, tf_subN, tf_nX]
  unfold nE nD nC8 nC4 nC2 jE jD jC8 jC4 jC2
  simp only [tf_mulN, tf_addN]
theorem tw_ok (x y z : Nat) : PureOk Try.prog 97 [f3A x y z] (f3V (twJ (toJ x y z))) := by
  rw [← f3V_mk (j := twJ (toJ x y z)) (subN_lt _ _) (subN_lt _ _) (addN_lt _ _) (tf_nX x y) (tf_nY x y) (by rw [tf_addN, tf_mulN]; rfl)]
  exact pure_ok (orc_ok SG1ok K0ok) mixed Try.func97 (tw_run x y z) trivial rfl
def spF (g : J FP → AV) : List AV → Option AV
  | [.val true a] => match asF3 a with
    | some (x, y, z) => some (g (toJ x y z))
    | none => none
  | _ => none
theorem spF_ok {f : FuncId} {g : J FP → AV} (h : ∀ x y z, PureOk Try.prog f [f3A x y z] (g (toJ x y z))) : ∀ args v, spF g args = some v → PureOk Try.prog f args v := by
  intro args v hs us w ha
  unfold spF at hs
  split at hs
  case h_2 => cases hs
  rename_i a
  split at hs
  case h_2 => cases hs
  rename_i x y z hx
  injection hs with hs; subst hs
  obtain ⟨u1, us1, r1, ha, rfl⟩ := ha
  exact h x y z _ w ⟨u1, _, asF3_rel hx r1, ha, rfl⟩
noncomputable def SG2 : List (FuncId × ASpec) := (97, pureSpec (spF fun j => f3V (twJ j))) :: SG1
theorem SG2ok : SpecsOk Try.prog SG2 := ⟨pureSpec_ok Try.func97 (by kernel_rfl) (by kernel_rfl) (spF_ok tw_ok), SG1ok⟩

/- plus -/
def nH (x z a : Nat) : Nat := subN (mulN a (mulN z z)) x
def nR (y z b : Nat) : Nat := subN (mulN b (mulN (mulN z z) z)) y
def nPX (x h r : Nat) : Nat := subN (subN (mulN r r) (mulN (mulN h h) h)) (addN (mulN x (mulN h h)) (mulN x (mulN h h)))
def nPY (x y h r : Nat) : Nat := subN (mulN r (subN (mulN x (mulN h h)) (nPX x h r))) (mulN y (mulN (mulN h h) h))
section
variable (x y z a b : Nat) (i : Bool)
theorem pl_1 : pureRun Try.prog (orc SG2 K0) Try.f98 [f3A x y z, g1A a b i] [true] 500 = some ([(decide (z = 0), true)], .val true (.num 6 a :: .num 6 b :: one6)) := by kernel_rfl
theorem pl_2 : pureRun Try.prog (orc SG2 K0) Try.f98 [f3A x y z, g1A a b i] [false, true, true] 500 = some ([(decide (z = 0), false), (decide (nH x z a = 0), true), (decide (nR y z b = 0), true)], f3V (twJ (toJ x y z))) := by kernel_rfl
theorem pl_3 : pureRun Try.prog (orc SG2 K0) Try.f98 [f3A x y z, g1A a b i] [false, true, false, true] 500 = some ([(decide (z = 0), false), (decide (nH x z a = 0), true), (decide (nR y z b = 0), false), (decide (nH x z a = 0), true)], .val true (List.replicate 18 (.n .u64 0))) := by kernel_rfl
theorem pl_4 : pureRun Try.prog (orc SG2 K0) Try.f98 [f3A x y z, g1A a b i] [false, false, false] 500 = some ([(decide (z = 0), false), (decide (nH x z a = 0), false), (decide (nH x z a = 0), false)], f3A (nPX x (nH x z a) (nR y z b)) (nPY x y (nH x z a) (nR y z b)) (mulN z (nH x z a))) := by kernel_rfl
end
theorem tf_nH (x y z a : Nat) : tf (nH x z a) = pH (toJ x y z) (tf a) := by unfold nH pH toJ; simp only [tf_subN, tf_mulN]
theorem tf_nR (x y z b : Nat) : tf (nR y z b) = pR (toJ x y z) (tf b) := by unfold nR pR toJ; simp only [tf_subN, tf_mulN]
theorem tf_z0 {n : Nat} (h : n < pN) : n = 0 ↔ tf n = 0 := by
  constructor
  · rintro rfl; exact tf_zero
  · intro e; exact tf_lt h pN_pos (e.trans tf_zero.symm)
theorem pure_f3 {P : Program} {f : FuncId} {args : List AV} {cs : List Ch} {x y z : Nat} (h : PureOk P f args (.val true cs)) (hc : asF3 cs = some (x, y, z)) : PureOk P f args (f3A x y z) := pure_val h fun _ hu => asF3_rel hc hu
theorem pl_ok {x y z a b : Nat} {i : Bool} (hz : z < pN) (ha : a < pN) (hb : b < pN) : PureOk Try.prog 98 [f3A x y z, g1A a b i] (f3V (plJ (toJ x y z) (tf a) (tf b))) := by
  have eh := tf_nH x y z a
  have er := tf_nR x y z b
  have zh := tf_z0 (n := nH x z a) (subN_lt _ _)
  have zr := tf_z0 (n := nR y z b) (subN_lt _ _)
  rw [eh] at zh
  rw [er] at zr
  unfold plJ
  by_cases h0 : z = 0
  · rw [if_pos (show (toJ x y z).z = 0 from (tf_z0 hz).1 h0), ← f3V_mk (j := ⟨tf a, tf b, 1⟩) ha hb (show 1 < pN by decide) rfl rfl tf_one]
    exact pure_f3 (pure_ok (orc_ok SG2ok K0ok) mixed Try.func98 (pl_1 x y z a b i) ⟨decide_eq_true h0, trivial⟩ rfl) rfl
  · rw [if_neg (show ¬ (toJ x y z).z = 0 from fun e => h0 ((tf_z0 hz).2 e))]
    by_cases hh : nH x z a = 0
    · rw [if_pos (zh.1 hh)]
      by_cases hr : nR y z b = 0
      · rw [if_pos (zr.1 hr)]
        exact pure_ok (orc_ok SG2ok K0ok) mixed Try.func98 (pl_2 x y z a b i) ⟨decide_eq_false h0, decide_eq_true hh, decide_eq_true hr, trivial⟩ rfl
      · rw [if_neg (fun e => hr (zr.2 e)), ← f3V_mk (j := ⟨0, 0, 0⟩) pN_pos pN_pos pN_pos tf_zero tf_zero tf_zero]
        exact pure_f3 (pure_ok (orc_ok SG2ok K0ok) mixed Try.func98 (pl_3 x y z a b i) ⟨decide_eq_false h0, decide_eq_true hh, decide_eq_false hr, decide_eq_true hh, trivial⟩ rfl) (by kernel_rfl)
    · rw [if_neg (fun e => hh (zh.2 e)), ← f3V_mk (j := ⟨pX (toJ x y z).x (pH (toJ x y z) (tf a)) (pR (toJ x y z) (tf b)), pY (toJ x y z).x (toJ x y z).y (pH (toJ x y z) (tf a)) (pR (toJ x y z) (tf b)), (toJ x y z).z * pH (toJ x y z) (tf a)⟩)
        (x := nPX x (nH x z a) (nR y z b)) (y := nPY x y (nH x z a) (nR y z b)) (z := mulN z (nH x z a)) (subN_lt _ _) (subN_lt _ _) (mulN_lt _ _) ?_ ?_ ?_]
      · exact pure_ok (orc_ok SG2ok K0ok) mixed Try.func98 (pl_4 x y z a b i) ⟨decide_eq_false h0, decide_eq_false hh, decide_eq_false hh, trivial⟩ rfl
      · unfold nPX pX; simp only [tf_subN, tf_mulN, tf_addN, eh, er]; rfl
      · unfold nPY nPX pY pX; simp only [tf_subN, tf_mulN, tf_addN, eh, er]; rfl
      · rw [tf_mulN, eh]; rfl
noncomputable def plSp : List AV → Option (List (Bool × Bool) × AV)
  | [.val true a, .val true b] => match asF3 a, asG1 b with
    | some (x, y, z), some (p, q, _) => some ([(decide (z < pN), true), (decide (p < pN), true), (decide (q < pN), true)], f3V (plJ (toJ x y z) (tf p) (tf q)))
    | _, _ => none
  | _ => none
theorem plSp_ok : ∀ args c v, plSp args = some (c, v) → okConds c → PureOk Try.prog 98 args v := by
  intro args c v hs hc us w ha
  unfold plSp at hs
  split at hs
  case h_2 => cases hs
  rename_i a b
  split at hs
  case h_2 => cases hs
  rename_i x y z p q i hx hy
  injection hs with hs; injection hs with h1 h2; subst h1; subst h2
  obtain ⟨u1, us1, r1, ⟨u2, us2, r2, ha, rfl⟩, rfl⟩ := ha
  exact pl_ok (of_decide_eq_true hc.1) (of_decide_eq_true hc.2.1) (of_decide_eq_true hc.2.2.1) _ w ⟨u1, _, asF3_rel hx r1, ⟨u2, _, (asG1_rel hy r2).1, ha, rfl⟩, rfl⟩

/- point -/
def KG : List (TypeId × List (Option IntKind)) := (82, List.replicate 18 (some .u64)) :: K0
theorem KGok : KindsOk Try.prog KG := ⟨⟨by kernel_rfl, by kernel_rfl, by kernel_rfl⟩, K0ok⟩
def z3 (x y z : Nat) : Bool := decide (x = 0) && (decide (y = 0) && decide (z = 0))
theorem po_1 (x y z : Nat) : pureRun Try.prog (orc SG2 KG) Try.f99 [f3A x y z] [true] 500 = some ([(z3 x y z, true)], .val true (zero12 true)) := by kernel_rfl
theorem po_2 (x y z : Nat) : pureRun Try.prog (orc SG2 KG) Try.f99 [f3A x y z] [false, true] 500 = some ([(z3 x y z, false), (decide (z = 0), true)], .val true (zero12 true)) := by kernel_rfl
theorem po_3 (x y z : Nat) : pureRun Try.prog (orc SG2 KG) Try.f99 [f3A x y z] [false, false] 500 = some ([(z3 x y z, false), (decide (z = 0), false)], .val true [.num 6 (mulN x (mulN (invN z) (invN z))), .num 6 (mulN y (mulN (mulN (invN z) (invN z)) (invN z))), .b false]) := by kernel_rfl
theorem po_ok {x y z : Nat} (hz : z < pN) : PureOk Try.prog 99 [f3A x y z] (g1V (ptJ (toJ x y z))) := by
  by_cases h0 : z = 0
  · rw [ptJ_zero (j := toJ x y z) ((tf_z0 hz).1 h0)]
    cases h3 : z3 x y z with
    | true => exact pure_g1 (pure_ok (orc_ok SG2ok KGok) mixed Try.func99 (po_1 x y z) ⟨h3, trivial⟩ rfl) (by kernel_rfl)
    | false => exact pure_g1 (pure_ok (orc_ok SG2ok KGok) mixed Try.func99 (po_2 x y z) ⟨h3, decide_eq_true h0, trivial⟩ rfl) (by kernel_rfl)
  · have h3 : z3 x y z = false := by unfold z3; rw [decide_eq_false h0, Bool.and_false, Bool.and_false]
    rw [ptJ_ne (j := toJ x y z) (fun e => h0 ((tf_z0 hz).2 e))]
    have ei : tf (invN z) = FD.inv (tf z) := tf_inv hz
    rw [← g1V_mk (x := mulN x (mulN (invN z) (invN z))) (y := mulN y (mulN (mulN (invN z) (invN z)) (invN z))) (mulN_lt _ _) (mulN_lt _ _) (by rw [tf_mulN, tf_mulN, ei]; rfl) (by rw [tf_mulN, tf_mulN, tf_mulN, ei]; rfl)]
    exact pure_g1 (pure_ok (orc_ok SG2ok KGok) mixed Try.func99 (po_3 x y z) ⟨h3, decide_eq_false h0, trivial⟩ rfl) rfl
noncomputable def poSp : List AV → Option (List (Bool × Bool) × AV)
  | [.val true a] => match asF3 a with
    | some (x, y, z) => some ([(decide (z < pN), true)], g1V (ptJ (toJ x y z)))
    | _ => none
  | _ => none
theorem poSp_ok : ∀ args c v, poSp args = some (c, v) → okConds c → PureOk Try.prog 99 args v := by
  intro args c v hs hc us w ha
  unfold poSp at hs
  split at hs
  case h_2 => cases hs
  rename_i a
  split at hs
  case h_2 => cases hs
  rename_i x y z hx
  injection hs with hs; injection hs with h1 h2; subst h1; subst h2
  obtain ⟨u1, us1, r1, ha, rfl⟩ := ha
  exact po_ok (of_decide_eq_true hc.1) _ w ⟨u1, _, asF3_rel hx r1, ha, rfl⟩
noncomputable def SG3 : List (FuncId × ASpec) := (98, condSpec plSp) :: (99, condSpec poSp) :: SG2
theorem SG3ok : SpecsOk Try.prog SG3 := ⟨condSpec_ok Try.func98 (by kernel_rfl) (by kernel_rfl) plSp_ok, condSpec_ok Try.func99 (by kernel_rfl) (by kernel_rfl) poSp_ok, SG2ok⟩
end Go.Proofs.Ytihgefbjegdinaa
/- g1.Mul: the contract. -/
namespace Go.Proofs.Ytihgefbjegdinaa
open Ex Num Rg
set_option maxRecDepth 100000

/- What is known of a block of memory may be told in other words. -/
theorem hget_last {H0 : Heap} {k b : Nat} {blk blk' x : Blk} (h : hget (H0 ++ [(k, some blk')]) b = some x) : hget (H0 ++ [(k, some blk)]) b = some x ∨ (x = blk' ∧ hget (H0 ++ [(k, some blk)]) b = some blk) := by
  induction H0 with
  | nil =>
    simp only [List.nil_append, hget] at h ⊢
    cases e : Nat.beq k b with
    | true => rw [e] at h; injection h with h; exact .inr ⟨h.symm, rfl⟩
    | false => rw [e] at h; cases h
  | cons y r ih =>
    obtain ⟨j, z⟩ := y
    simp only [List.cons_append, hget] at h ⊢
    cases e : Nat.beq j b with
    | true => rw [e] at h; exact .inl h
    | false => rw [e] at h; exact ih h
theorem relB_imp {β : Env} {ty : TypeId} {cs cs' : List Ch} {o : Bool} {k : Nat} {w : World} (h : ∀ β l, relL β cs l → relL β cs' l) (hr : relB β ⟨ty, cs, o⟩ k w) : relB β ⟨ty, cs', o⟩ k w := by
  rcases hr with ⟨B, n, l, t, pre, ty', fz, q1, q2, q3⟩ | ⟨q1, q2, q3⟩
  · exact .inl ⟨B, n, l, t, pre, ty', fz, q1, h _ _ q2, q3⟩
  · exact .inr ⟨q1, q2, h _ _ q3⟩
theorem good_imp {β : Env} {H0 : Heap} {k : Nat} {ty : TypeId} {cs cs' : List Ch} {o : Bool} {w : World} (h : ∀ β l, relL β cs l → relL β cs' l) (g : Ex.Good β (H0 ++ [(k, some ⟨ty, cs, o⟩)]) w) : Ex.Good β (H0 ++ [(k, some ⟨ty, cs', o⟩)]) w := by
  have hs : ∀ b x, hget (H0 ++ [(k, some ⟨ty, cs', o⟩)]) b = some x → ∃ y, hget (H0 ++ [(k, some ⟨ty, cs, o⟩)]) b = some y ∧ y.ty = x.ty := fun b x hb => by
    rcases hget_last (blk := ⟨ty, cs, o⟩) hb with e | ⟨rfl, e⟩
    · exact ⟨x, e, rfl⟩
    · exact ⟨_, e, rfl⟩
  refine ⟨fun b blk hb => ?_, fun b b' B n n' h1 h2 h3 h4 => ?_, g.lt⟩
  · rcases hget_last (blk := ⟨ty, cs, o⟩) hb with e | ⟨rfl, e⟩
    · exact g.heap b blk e
    · exact relB_imp h (g.heap b _ e)
  · obtain ⟨x, hx, hr⟩ := rwK_some h1
    obtain ⟨y, hy, e⟩ := hs b x hx
    obtain ⟨x', hx'⟩ := Option.isSome_iff_exists.1 h2
    obtain ⟨y', hy', _⟩ := hs b' x' hx'
    exact g.inj b b' B n n' (rwK_mk hy (by rw [e]; exact hr)) (by rw [hy']; rfl) h3 h4
theorem heap_safe {P : Program} {f : FuncId} {β0 : Env} {w0 : World} {R : Ending → World → Prop} {n : Nat} {W : List Nat} {todo : List Item} {T : List AV} {H0 : Heap} {k : Nat} {ty : TypeId} {cs cs' : List Ch} {o : Bool} {fr : Nat} {p : List Bool} (h : ∀ β l, relL β cs l → relL β cs' l)
    (hs : ASafe P f β0 w0 R n W ⟨todo, ⟨T, H0 ++ [(k, some ⟨ty, cs', o⟩)], fr, p⟩⟩) : ASafe P f β0 w0 R n W ⟨todo, ⟨T, H0 ++ [(k, some ⟨ty, cs, o⟩)], fr, p⟩⟩ :=
  fun β a w hi hf => hs β a w { hi with good := good_imp h hi.good } hf

/- the walk -/
noncomputable def gmTodo : List Item := todoOf (aSeg Try.prog (orc SG3 KG) (some 0) 500 1 none (entry Try.f58 [slA 0 0 0 0, g1A 0 0 false] (seqH []) 1 [false, false]))
noncomputable def gmT (off n m : Nat) (i : Int) : List AV := .val false [.sl 0 off n m] :: .any :: .any :: .val false [.p 1 0] :: .val false [.p 2 0] :: .val false [.n .i64 0] :: .val false [.p 3 0] :: .val false [.v (.int .i64 i)] :: List.replicate (Try.f58.ntmps - 8) .any
noncomputable def gmH (xs : List Int) (P : Pt FP) : Heap := [(0, some (roB [.seq .u64 xs])), (1, some ⟨49, [.num 6 (ptX P), .num 6 (ptY P), .v (.bool (ptI P))], false⟩), (2, some ⟨49, zero12 false, false⟩)]
noncomputable def gmS (off n m : Nat) (xs : List Int) (P : Pt FP) (out : List Ch) (i : Int) (path : List Bool) : ASt := ⟨gmTodo, ⟨gmT off n m i, List.append (gmH xs P) [(3, some ⟨82, out, false⟩)], 4, path⟩⟩
def jC (j : J FP) : List Ch := [.num 6 j.x.val, .num 6 j.y.val, .num 6 j.z.val]
def zero18 : List Ch := [.n .u64 0, .n .u64 0, .n .u64 0, .n .u64 0, .n .u64 0, .n .u64 0, .n .u64 0, .n .u64 0, .n .u64 0, .n .u64 0, .n .u64 0, .n .u64 0, .n .u64 0, .n .u64 0, .n .u64 0, .n .u64 0, .n .u64 0, .n .u64 0]
def toJ' (j : J FP) : J FP := toJ j.x.val j.y.val j.z.val
theorem toJ'_eq (j : J FP) : toJ' j = j := by
  unfold toJ' toJ
  rw [tf_val, tf_val, tf_val]
noncomputable def plP (j : J FP) (P : Pt FP) : J FP := plJ (toJ' (twJ (toJ' j))) (tf (ptX P)) (tf (ptY P))
def gmArgs (x y : Nat) (i : Bool) (off n m : Nat) : List AV := [slA 0 off n m, g1A x y i]
def toPt' (P : Pt FP) : Pt FP := toPt (ptX P) (ptY P) (ptI P)
theorem gm_entry (x y : Nat) (i : Bool) (off n m : Nat) (xs : List Int) : aSeg Try.prog (orc SG3 KG) (some 0) 500 1 (some ([0, 3, 4, 5, 6, 7], [0, 1, 2, 3], 4)) (entry Try.f58 (gmArgs x y i off n m) (seqH xs) 1 [false, false]) =
  some ([(!onP (toPt' (toPt x y i)), false), (ptI (toPt x y i), false), (hasB .i64 n, true)], [], gmS off n m xs (toPt x y i) zero18 (wI (wI (64 * (n : Int)) - 1)) []) := by kernel_rfl
def gmA (Q : Pt FP) (e : Int) : AV := .tup [(true, [.num 6 (ptX Q), .num 6 (ptY Q), .v (.bool (ptI Q))]), (false, [.v (.int .i64 e)])]
def gmN (Q : Pt FP) (e : Int) : AV := .tup [(true, [.num 6 (ptX Q), .num 6 (ptY Q), .v (.bool (ptI Q))]), (false, [.n .i64 e])]
theorem gm_off (x y : Nat) (i : Bool) (off n m : Nat) (xs : List Int) : segOut Try.prog (orc SG3 KG) Try.f58 500 1 [] (entry Try.f58 (gmArgs x y i off n m) (seqH xs) 1 [true]) =
  some ([(!onP (toPt' (toPt x y i)), true)], [], .tup [(true, zero12 false), (false, [.n .i64 120])], []) := by kernel_rfl
theorem gm_inf (x y : Nat) (i : Bool) (off n m : Nat) (xs : List Int) : segOut Try.prog (orc SG3 KG) Try.f58 500 1 [] (entry Try.f58 (gmArgs x y i off n m) (seqH xs) 1 [false, true]) =
  some ([(!onP (toPt' (toPt x y i)), false), (ptI (toPt x y i), true)], [], gmN (toPt x y i) 0, []) := by kernel_rfl
def gmC (off n : Nat) (xs : List Int) (i : Int) (bit : Bool) (r : List (Bool × Bool)) : List (Bool × Bool) := (decide (0 ≤ i), true) :: (true, true) :: (decide (0 ≤ wI (Int.tdiv i 64) ∧ wI (Int.tdiv i 64) < n), true) ::
  (decide (off + (wI (Int.tdiv i 64)).toNat * 1 < xs.length), true) :: (decide (0 ≤ i ∧ (0 : Int) < 64), true) :: (decide (0 ≤ Int.tmod i 64 ∧ 0 ≤ powW xs off i), true) :: (decide (bitI (powW xs off i) (Int.tmod i 64) = 0), bit) :: r
section
variable (off n m : Nat) (xs : List Int) (P : Pt FP) (j : J FP) (i : Int)
theorem gm_zero : aSeg Try.prog (orc SG3 KG) (some 0) 500 1 (some ([0, 3, 4, 5, 6, 7], [0, 1, 2, 3], 4)) (gmS off n m xs P (jC j) i [true, true]) =
  some (gmC off n xs i true [], [], gmS off n m xs P (jC (twJ (toJ' j))) (wI (i - 1)) []) := by kernel_rfl
theorem gm_one : aSeg Try.prog (orc SG3 KG) (some 0) 500 1 (some ([0, 3, 4, 5, 6, 7], [0, 1, 2, 3], 4)) (gmS off n m xs P (jC j) i [true, false]) =
  some (gmC off n xs i false [(decide ((twJ (toJ' j)).z.val < pN), true), (decide (ptX P < pN), true), (decide (ptY P < pN), true)], [], gmS off n m xs P (jC (plP j P)) (wI (i - 1)) []) := by kernel_rfl
theorem gm_exit : segOut Try.prog (orc SG3 KG) Try.f58 500 1 [] (gmS off n m xs P (jC j) i [false]) =
  some ([(decide (0 ≤ i), false), (decide (j.z.val < pN), true)], [], gmN (ptJ (toJ' j)) 0, []) := by kernel_rfl
end
theorem gm_wf (off n m : Nat) (xs : List Int) (P : Pt FP) (j : J FP) (i : Int) (p : List Bool) : wfSt Try.f58.ntmps (gmS off n m xs P (jC j) i p).s := wfB_ok (by kernel_rfl)
theorem zero18_rel (β : Env) (l : List Value) (h : relL β zero18 l) : relL β (jC ⟨0, 0, 0⟩) l := by
  have h3 : asF3 zero18 = some (0, 0, 0) := by kernel_rfl
  obtain ⟨l', q, e⟩ := asF3_rel (β' := β) (u := .agg ⟨l⟩) h3 ⟨l, h, rfl⟩
  injection e with e; injection e with e; subst e
  exact q
def accJ (P : Pt FP) (E c : Nat) (j : J FP) : Prop := ptJ j = smul (E / 2 ^ c) P
section
variable {off n m : Nat} {xs : List Int} (hall : ∀ d ∈ xs, 0 ≤ d ∧ d < 18446744073709551616) (hlen : off + n ≤ xs.length) (hn : n ≤ 1125899906842624) {P : Pt FP} (hP : Rg.On C1.b P) (hI : ptI P = false) {β0 : Env} {w0 : World} (hb : ∀ b, 1 ≤ b → β0 b = none)
include hall hlen hn hb hP hI
theorem gm_safe : ∀ (c : Nat) (j : J FP), accJ P (natL (win xs off n)) c j → c ≤ 64 * n → ASafe Try.prog 58 β0 w0 (Outs β0 w0 [] (gmN (smul (natL (win xs off n)) P) 0) []) Try.f58.ntmps [] (gmS off n m xs P (jC j) ((c : Int) - 1) []) := by
  intro c
  induction c with
  | zero =>
    intro j hj _
    have h : ASafe Try.prog 58 β0 w0 (Outs β0 w0 [] (gmN (ptJ (toJ' j)) 0) []) Try.f58.ntmps [] (gmS off n m xs P (jC j) (((0 : Nat) : Int) - 1) [false]) :=
      out_safe (orc_ok SG3ok KGok) mixed Try.func58 (gm_exit ..) ⟨rfl, decide_eq_true j.z.isLt, trivial⟩ (gm_wf ..) hb (fun _ h => by cases h)
    unfold accJ at hj
    rw [toJ'_eq, hj, Nat.pow_zero, Nat.div_one] at h
    exact path_safe [false] h
  | succ c ih =>
    intro j hj hc
    have hi : ((c + 1 : Nat) : Int) - 1 = (c : Int) := by omega
    rw [hi]
    have hlt : ∀ d ∈ win xs off n, 0 ≤ d ∧ d < 18446744073709551616 := win_has hall
    have hq : Int.tdiv (c : Int) 64 = ((c / 64 : Nat) : Int) := by rw [Int.tdiv_eq_ediv_of_nonneg (by omega)]; rfl
    have hr : Int.tmod (c : Int) 64 = ((c % 64 : Nat) : Int) := by rw [Int.tmod_eq_emod_of_nonneg (by omega)]; rfl
    have hw : wI (Int.tdiv (c : Int) 64) = ((c / 64 : Nat) : Int) := by rw [hq]; exact wI_eq (by omega)
    have hjn : c / 64 < n := by omega
    have hv : powW xs off c = (win xs off n).getD (c / 64) 0 := by
      unfold powW
      rw [hw, Int.toNat_natCast, Nat.mul_one]
      exact (bit_word hjn).symm
    have hvb : 0 ≤ powW xs off c ∧ powW xs off c < 18446744073709551616 := by
      rw [hv, List.getD_eq_getElem?_getD]
      cases h : (win xs off n)[c / 64]? with
      | none => simp
      | some d => exact hlt d (List.mem_of_getElem? h)
    have hbit : bitI (powW xs off c) (Int.tmod c 64) = ((natL (win xs off n) / 2 ^ c % 2 : Nat) : Int) := by
      obtain ⟨V, hV⟩ := Int.eq_ofNat_of_zero_le hvb.1
      rw [hr, ← natL_bit _ c hlt, ← hv, hV, Int.toNat_natCast]
      exact bitI_eq V _ (by omega) (by omega)
    have hnext : wI ((c : Int) - 1) = (c : Int) - 1 := wI_eq (by omega)
    have hconds : ∀ bit r, decide (bitI (powW xs off c) (Int.tmod c 64) = 0) = bit → okConds r → okConds (gmC off n xs c bit r) := by
      intro bit r hbt hr'
      refine ⟨by simp, rfl, ?_, ?_, ?_, ?_, hbt, hr'⟩
      · rw [hw]; simp; omega
      · rw [hw]; simp; omega
      · simp
      · simp only [decide_eq_true_eq]; rw [hr]; exact ⟨by omega, hvb.1⟩
    have hdiv : natL (win xs off n) / 2 ^ c = 2 * (natL (win xs off n) / 2 ^ (c + 1)) + natL (win xs off n) / 2 ^ c % 2 := by
      rw [Nat.pow_succ, ← Nat.div_div_eq_div_mul]; omega
    unfold accJ at hj
    have hoj : Rg.On C1.b (ptJ j) := by rw [hj]; exact on_smul C1 hP _
    have htw : ptJ (twJ (toJ' j)) = smul (2 * (natL (win xs off n) / 2 ^ (c + 1))) P := by
      rw [toJ'_eq, ptJ_tw C1 hoj, hj, ← smul_add C1 hP, Nat.two_mul]
    rcases Nat.mod_two_eq_zero_or_one (natL (win xs off n) / 2 ^ c) with h0 | h1
    · refine path_safe [true, true] (seg_safe (orc_ok SG3ok KGok) mixed (gm_zero ..) (hconds true [] (by rw [hbit, h0]; rfl) trivial) (gm_wf ..) hb (fun _ h => by cases h) fun _ => ?_)
      rw [hnext]
      refine ih _ ?_ (by omega)
      unfold accJ
      rw [htw, hdiv, h0]; rfl
    · refine path_safe [true, false] (seg_safe (orc_ok SG3ok KGok) mixed (gm_one ..) (hconds false _ (by rw [hbit, h1]; rfl) ⟨decide_eq_true (twJ (toJ' j)).z.isLt, decide_eq_true (ptX_lt P), decide_eq_true (ptY_lt P), trivial⟩) (gm_wf ..) hb (fun _ h => by cases h) fun _ => ?_)
      rw [hnext]
      refine ih _ ?_ (by omega)
      unfold accJ plP
      rw [toJ'_eq (twJ (toJ' j)), ptJ_pl C1 (by rw [htw]; exact on_smul C1 hP _), htw, hdiv, h1]
      cases P with
      | inf => cases hI
      | pt a b =>
        show add _ (.pt (tf a.val) (tf b.val)) = _
        rw [tf_val, tf_val]; rfl
end
/-- What Mul answers. -/
noncomputable def mulP (N : Nat) (P : Pt FP) : Pt FP := if onP P = true then smul N P else .pt 0 0
noncomputable def mulE (P : Pt FP) : Int := if onP P = true then 0 else 120
theorem toPt'_eq (P : Pt FP) : toPt' P = P := toPt_of P
theorem gmN_A {β : Env} {Q : Pt FP} {e : Int} {u : Value} (h : relA β (gmN Q e) u) : relA β (gmA Q e) u := relT2 (fun _ q => q) (fun _ q => gval rfl q) h
theorem gm_can {off n m : Nat} {xs : List Int} (hall : ∀ d ∈ xs, 0 ≤ d ∧ d < 18446744073709551616) (hlen : off + n ≤ xs.length) (hn : n ≤ 1125899906842624) (x y : Nat) (i : Bool) :
    CanOk Try.prog 58 (gmArgs x y i off n m) (seqH xs) 1 [] (gmA (mulP (natL (win xs off n)) (toPt x y i)) (mulE (toPt x y i))) [] := by
  have e1 := gm_entry x y i off n m xs
  have e2 := gm_off x y i off n m xs
  have e3 := gm_inf x y i off n m xs
  rw [toPt'_eq] at e1 e2 e3
  generalize toPt x y i = P at *
  cases ho : onP P with
  | false =>
    unfold mulP mulE
    rw [if_neg (by rw [ho]; exact Bool.false_ne_true), if_neg (by rw [ho]; exact Bool.false_ne_true)]
    refine can_val (can_entry (path := [true]) Try.func58 (by kernel_rfl) (by kernel_rfl) fun β0 w0 hb =>
      out_safe (orc_ok SG3ok KGok) mixed Try.func58 e2 ⟨by rw [ho]; rfl, trivial⟩ (wfB_ok (by kernel_rfl)) hb (fun _ h => by cases h)) fun β u hu => ?_
    exact relT2 (fun _ q => (asG1_rel (x := 0) (y := 0) (i := false) (by kernel_rfl) q).1) (fun _ q => gval rfl q) hu
  | true =>
    have hP := (onP_iff P).1 ho
    unfold mulP mulE
    rw [if_pos ho, if_pos ho]
    cases hI : ptI P with
    | true =>
      have hp : P = .inf := by cases P with | inf => rfl | pt a b => cases hI
      have hs : smul (natL (win xs off n)) P = P := by rw [hp, smul_inf]
      rw [hs]
      exact can_val (can_entry (path := [false, true]) Try.func58 (by kernel_rfl) (by kernel_rfl) fun β0 w0 hb =>
        out_safe (orc_ok SG3ok KGok) mixed Try.func58 e3 ⟨by rw [ho]; rfl, hI, trivial⟩ (wfB_ok (by kernel_rfl)) hb (fun _ h => by cases h)) fun β u hu => gmN_A hu
    | false =>
      refine can_val (can_entry (path := [false, false]) Try.func58 (by kernel_rfl) (by kernel_rfl) fun β0 w0 hb => ?_) fun β u hu => gmN_A hu
      refine seg_safe (orc_ok SG3ok KGok) mixed e1 ⟨by rw [ho]; rfl, hI, ?_, trivial⟩ (wfB_ok (by kernel_rfl)) hb (fun _ h => by cases h) fun _ => ?_
      · simp only [hasB, Bool.and_eq_true, decide_eq_true_eq]; omega
      · have e4 : wI (wI (64 * (n : Int)) - 1) = ((64 * n : Nat) : Int) - 1 := by
          rw [wI_eq (z := 64 * (n : Int)) (by omega), wI_eq (by omega)]; omega
        rw [e4]
        refine heap_safe zero18_rel (gm_safe hall hlen hn hP hI hb (64 * n) ⟨0, 0, 0⟩ ?_ (Nat.le_refl _))
        unfold accJ
        have hl := natL_lt (win xs off n) (win_has hall)
        have hl2 : natL (win xs off n) < 2 ^ (64 * n) := by
          unfold win at hl ⊢
          rwa [List.length_take, List.length_drop, Nat.min_eq_left (by omega)] at hl
        rw [ptJ_zero rfl, Nat.div_eq_of_lt hl2]; rfl
/-- Contracts of functions of a list of words and a point. -/
def wgSp (g : List Int → Pt FP → AV) : ASpec := fun args H fr path =>
  match args with
  | [S, .val true a] => match asSl S with
    | some (k, off, n) => match asG1 a, hget H k with
      | some (x, y, i), some ⟨_, cs, _⟩ => match toSeq .u64 cs with
        | some xs => some (trR [k] 1 fr 0 [] (g (win xs off n) (toPt x y i)) [] [(Nat.ble (off + n) xs.length, true), (Nat.ble n 1125899906842624, true)] path)
        | none => none
      | _, _ => none
    | none => none
  | _ => none
theorem wgSp_ok {f : FuncId} {fn : Func} {g : List Int → Pt FP → AV} (hfn : Try.prog.funcs[f]? = some fn) (hb : fn.body.isSome = true) (hname : (fn.name == "runtime.NumGoroutine") = false) (hk : ∀ l P, canB 1 0 [] (g l P) [] = true)
    (h : ∀ (off n m : Nat) (xs : List Int) (x y : Nat) (i : Bool), (∀ d ∈ xs, 0 ≤ d ∧ d < 18446744073709551616) → off + n ≤ xs.length → n ≤ 1125899906842624 → CanOk Try.prog f (gmArgs x y i off n m) (seqH xs) 1 [] (g (win xs off n) (toPt x y i)) []) : SpecOk Try.prog f (wgSp g) := by
  refine can_spec2 hfn hb hname fun args H fr path r hs => ?_
  unfold wgSp at hs
  split at hs
  case h_2 => cases hs
  rename_i S a
  split at hs
  case h_2 => cases hs
  rename_i k off n hS
  split at hs
  case h_2 => cases hs
  rename_i x y i ty cs o hx hk'
  split at hs
  case h_2 => cases hs
  rename_i xs hxs
  injection hs with hs
  refine ⟨[k], 1, 0, [], _, _, _, path, hs.symm, fun β us w ha hg hc => ?_⟩
  obtain ⟨u1, us1, r1, ⟨u2, us2, r2, ha, rfl⟩, rfl⟩ := ha
  obtain ⟨m, r1⟩ := asSl_rel hS r1
  obtain ⟨g1, g2, g3⟩ := good_seq hg hk' hxs
  exact ⟨gmArgs x y i off n m, seqH xs, h off n m xs x y i g1 (Nat.le_of_ble_eq_true hc.1) (Nat.le_of_ble_eq_true hc.2.1), hk _ _, ⟨u1, _, sl_in (by omega) rfl r1, ⟨u2, us2, (asG1_rel hx r2).1, ha, rfl⟩, rfl⟩, g2, g3⟩
noncomputable def SG4 : List (FuncId × ASpec) := (58, nilSpec (wgSp fun l P => gmA (mulP (natL l) P) (mulE P))) :: SG3
theorem SG4ok : SpecsOk Try.prog SG4 := ⟨nilSpec_ok (wgSp_ok Try.func58 (by kernel_rfl) (by kernel_rfl) (fun _ _ => by kernel_rfl) fun _ _ _ _ x y i hx hl hn => gm_can hx hl hn x y i), SG3ok⟩
end Go.Proofs.Ytihgefbjegdinaa
/- sigilref12: number, b, Base, Reduce, On, Neg, Slope, Add, twice, plus: the contracts. -/
namespace Go.Proofs.Ytihgefbjegdinaa
open Ex Num Rg
set_option maxRecDepth 100000

def numSp : List AV → Option AV
  | [.val false [.n .u64 i]] => some (.val true [.n .u64 i, .n .u64 0, .n .u64 0, .n .u64 0, .n .u64 0, .n .u64 0])
  | _ => none
theorem rnum_run (i : Int) : pureRun Try.prog (orc SG4 KG) Try.f105 [.val false [.n .u64 i]] [] 100 = some ([], .val true [.n .u64 i, .n .u64 0, .n .u64 0, .n .u64 0, .n .u64 0, .n .u64 0]) := by kernel_rfl
theorem numSp_ok : ∀ args v, numSp args = some v → PureOk Try.prog 105 args v := by
  intro args v hs
  unfold numSp at hs
  split at hs
  case h_2 => cases hs
  rename_i i
  injection hs with hs; subst hs
  exact pure_ok (orc_ok SG4ok KGok) mixed Try.func105 (rnum_run i) trivial rfl
theorem rb12_run : pureRun Try.prog (orc SG4 KG) Try.f102 [] [] 100 = some ([], .val true [.n .u64 4, .n .u64 0, .n .u64 0, .n .u64 0, .n .u64 0, .n .u64 0]) := by kernel_rfl
theorem rb12_ok : PureOk Try.prog 102 [] (num6 4) := pure_val (pure_ok (orc_ok SG4ok KGok) mixed Try.func102 rb12_run trivial rfl) fun u hu => num6_of (by kernel_rfl) hu
theorem rbase_run : pureRun Try.prog (orc SG4 KG) Try.f55 [] [] 100 = some ([], .val true gC) := by kernel_rfl
theorem rbase_ok : PureOk Try.prog 55 [] (g1V G1B) := by
  rw [← G1B_A]
  exact pure_g1 (pure_ok (orc_ok SG4ok KGok) mixed Try.func55 rbase_run trivial rfl) (by kernel_rfl)
theorem rred_inf (x y : Nat) (i : Bool) : pureRun Try.prog (orc SG4 KG) Try.f69 [g1A x y i] [true] 300 = some ([(i, true)], .val true (zero12 true)) := by kernel_rfl
theorem rred_pt (x y : Nat) (i : Bool) : pureRun Try.prog (orc SG4 KG) Try.f69 [g1A x y i] [false] 300 = some ([(i, false)], .val true [.num 6 (x % pN), .num 6 (y % pN), .b false]) := by kernel_rfl
theorem rred12_ok (x y : Nat) (i : Bool) : PureOk Try.prog 69 [g1A x y i] (g1V (toPt x y i)) := by
  cases i with
  | true => exact pure_g1 (pure_ok (orc_ok SG4ok KGok) mixed Try.func69 (rred_inf x y true) ⟨rfl, trivial⟩ rfl) (by kernel_rfl)
  | false => exact pure_g1 (pure_ok (orc_ok SG4ok KGok) mixed Try.func69 (rred_pt x y false) ⟨rfl, trivial⟩ rfl) (by kernel_rfl)
noncomputable def SR0 : List (FuncId × ASpec) := (105, pureSpec numSp) :: (102, pureSpec fun args => match args with | [] => some (num6 4) | _ => none) :: (55, pureSpec fun args => match args with | [] => some (g1V G1B) | _ => none) :: (69, pureSpec (spG g1V)) :: SG4
theorem SR0ok : SpecsOk Try.prog SR0 := ⟨pureSpec_ok Try.func105 (by kernel_rfl) (by kernel_rfl) numSp_ok, pureSpec_ok Try.func102 (by kernel_rfl) (by kernel_rfl) (sp0_ok rb12_ok fun u h => h),
  pureSpec_ok Try.func55 (by kernel_rfl) (by kernel_rfl) (sp0_ok rbase_ok fun u h => h), pureSpec_ok Try.func69 (by kernel_rfl) (by kernel_rfl) (spG_ok rred12_ok), SG4ok⟩

theorem ron_inf (x y : Nat) (i : Bool) : pureRun Try.prog (orc SR0 KG) Try.f70 [g1A x y i] [true] 300 = some ([(i, true)], .val false [.b true]) := by kernel_rfl
theorem ron_pt (x y : Nat) (i : Bool) : pureRun Try.prog (orc SR0 KG) Try.f70 [g1A x y i] [false] 300 = some ([(i, false)], boolA (decide (mulN y y = addN (mulN (mulN x x) x) 4))) := by kernel_rfl
theorem ron_ok (x y : Nat) (i : Bool) : PureOk Try.prog 70 [g1A x y i] (boolA (onP (toPt x y i))) := by
  cases i with
  | true => exact pure_val (pure_ok (orc_ok SR0ok KGok) mixed Try.func70 (ron_inf x y true) ⟨rfl, trivial⟩ rfl) fun u hu => bv_one rfl hu
  | false => rw [← on_eqN]; exact pure_ok (orc_ok SR0ok KGok) mixed Try.func70 (ron_pt x y false) ⟨rfl, trivial⟩ rfl
theorem rneg12_inf (x y : Nat) (i : Bool) : pureRun Try.prog (orc SR0 KG) Try.f68 [g1A x y i] [true] 300 = some ([(i, true)], .val true (zero12 true)) := by kernel_rfl
theorem rneg12_pt (x y : Nat) (i : Bool) : pureRun Try.prog (orc SR0 KG) Try.f68 [g1A x y i] [false] 300 = some ([(i, false)], .val true [.num 6 (x % pN), .num 6 (negN y), .b false]) := by kernel_rfl
theorem rneg12_ok (x y : Nat) (i : Bool) : PureOk Try.prog 68 [g1A x y i] (g1V (Rg.neg (toPt x y i))) := by
  cases i with
  | true => exact pure_g1 (pure_ok (orc_ok SR0ok KGok) mixed Try.func68 (rneg12_inf x y true) ⟨rfl, trivial⟩ rfl) (by kernel_rfl)
  | false =>
    rw [show Rg.neg (toPt x y false) = .pt (tf x) (-tf y) from rfl, ← g1V_mk (x := x % pN) (y := negN y) (modp_lt x) (negN_lt y) (tf_mod x) (tf_negN y)]
    exact pure_g1 (pure_ok (orc_ok SR0ok KGok) mixed Try.func68 (rneg12_pt x y false) ⟨rfl, trivial⟩ rfl) rfl

/- Slope -/
noncomputable def tgR (px py : Nat) : Nat := mulN (mulN 3 (mulN px px)) (invN (mulN 2 py))
noncomputable def chR (px py qx qy : Nat) : Nat := mulN (subN qy py) (invN (subN qx px))
def sgB (P Q : Pt FP) : Bool := !(decide (ptX P = ptX Q) && (!decide (ptY P = ptY Q) || decide (ptY P = 0)))
noncomputable def sgN (P Q : Pt FP) : Nat := if ptX P = ptX Q then (if ptY P = ptY Q ∧ ptY P ≠ 0 then tgR (ptX P) (ptY P) else 0) else chR (ptX P) (ptY P) (ptX Q) (ptY Q)
noncomputable def sgA (P Q : Pt FP) : AV := .tup [(true, [.num 6 (sgN P Q)]), (false, [.v (.bool (sgB P Q))])]
section
variable (x y : Nat) (i : Bool) (x' y' : Nat) (i' : Bool)
theorem sl_1 : pureRun Try.prog (orc SR0 KG) Try.f101 [g1A x y i, g1A x' y' i'] [true, true, true] 300 = some ([(decide (ptX (toPt x y i) = ptX (toPt x' y' i')), true), (!decide (ptY (toPt x y i) = ptY (toPt x' y' i')), true)], .tup [(true, zero6), (false, [.b false])]) := by kernel_rfl
theorem sl_2 : pureRun Try.prog (orc SR0 KG) Try.f101 [g1A x y i, g1A x' y' i'] [true, false, true] 300 = some ([(decide (ptX (toPt x y i) = ptX (toPt x' y' i')), true), (!decide (ptY (toPt x y i) = ptY (toPt x' y' i')), false), (decide (ptY (toPt x y i) = 0), true)], .tup [(true, zero6), (false, [.b false])]) := by kernel_rfl
theorem sl_3 : pureRun Try.prog (orc SR0 KG) Try.f101 [g1A x y i, g1A x' y' i'] [true, false, false] 300 = some ([(decide (ptX (toPt x y i) = ptX (toPt x' y' i')), true), (!decide (ptY (toPt x y i) = ptY (toPt x' y' i')), false), (decide (ptY (toPt x y i) = 0), false)], .tup [(true, [.num 6 (tgR (ptX (toPt x y i)) (ptY (toPt x y i)))]), (false, [.b true])]) := by kernel_rfl
theorem sl_4 : pureRun Try.prog (orc SR0 KG) Try.f101 [g1A x y i, g1A x' y' i'] [false] 300 = some ([(decide (ptX (toPt x y i) = ptX (toPt x' y' i')), false)], .tup [(true, [.num 6 (chR (ptX (toPt x y i)) (ptY (toPt x y i)) (ptX (toPt x' y' i')) (ptY (toPt x' y' i')))]), (false, [.b true])]) := by kernel_rfl
theorem sl_ok : PureOk Try.prog 101 [g1A x y i, g1A x' y' i'] (sgA (toPt x y i) (toPt x' y' i')) := by
  have r1 := sl_1 x y i x' y' i'
  have r2 := sl_2 x y i x' y' i'
  have r3 := sl_3 x y i x' y' i'
  have r4 := sl_4 x y i x' y' i'
  generalize toPt x y i = P at *
  generalize toPt x' y' i' = Q at *
  have ok : ∀ {path c v}, pureRun Try.prog (orc SR0 KG) Try.f101 [g1A x y i, g1A x' y' i'] path 300 = some (c, v) → okConds c → noKeys v = true → PureOk Try.prog 101 [g1A x y i, g1A x' y' i'] v := fun h hc hk => pure_ok (orc_ok SR0ok KGok) mixed Try.func101 h hc hk
  unfold sgA sgN sgB
  by_cases hx : ptX P = ptX Q
  · rw [if_pos hx, decide_eq_true hx]
    by_cases hy : ptY P = ptY Q
    · by_cases h0 : ptY P = 0
      · rw [if_neg (fun h => h.2 h0), decide_eq_true hy, decide_eq_true h0]
        exact pure_val (ok r2 ⟨decide_eq_true hx, by rw [decide_eq_true hy]; rfl, decide_eq_true h0, trivial⟩ rfl) fun u hu => relT2 (fun _ q => zero_num q) (fun _ q => bv_one rfl q) hu
      · rw [if_pos ⟨hy, h0⟩, decide_eq_true hy, decide_eq_false h0]
        exact pure_val (ok r3 ⟨decide_eq_true hx, by rw [decide_eq_true hy]; rfl, decide_eq_false h0, trivial⟩ rfl) fun u hu => relT2 (fun _ q => q) (fun _ q => bv_one rfl q) hu
    · rw [if_neg (fun h => hy h.1), decide_eq_false hy]
      exact pure_val (ok r1 ⟨decide_eq_true hx, by rw [decide_eq_false hy]; rfl, trivial⟩ rfl) fun u hu => relT2 (fun _ q => zero_num q) (fun _ q => bv_one rfl q) hu
  · rw [if_neg hx, decide_eq_false hx]
    exact pure_val (ok r4 ⟨decide_eq_false hx, trivial⟩ rfl) fun u hu => relT2 (fun _ q => q) (fun _ q => bv_one rfl q) hu
end
noncomputable def SR1 : List (FuncId × ASpec) := (70, pureSpec (spG fun P => boolA (onP P))) :: (68, pureSpec (spG fun P => g1V (Rg.neg P))) :: (101, pureSpec (spGG sgA)) :: SR0
theorem SR1ok : SpecsOk Try.prog SR1 := ⟨pureSpec_ok Try.func70 (by kernel_rfl) (by kernel_rfl) (spG_ok ron_ok), pureSpec_ok Try.func68 (by kernel_rfl) (by kernel_rfl) (spG_ok rneg12_ok),
  pureSpec_ok Try.func101 (by kernel_rfl) (by kernel_rfl) (spGG_ok sl_ok), SR0ok⟩
end Go.Proofs.Ytihgefbjegdinaa
/- sigilref12: Add, twice, plus: the contracts. -/
namespace Go.Proofs.Ytihgefbjegdinaa
open Ex Num Rg
set_option maxRecDepth 100000

theorem tf_k2 : tf 2 = 1 + 1 := by rw [← tf_one, ← tf_add]
theorem tf_k3 : tf 3 = 1 + 1 + 1 := by rw [← tf_one, ← tf_add, ← tf_add]
theorem tf_k4 : tf 4 = 1 + 1 + (1 + 1) := by rw [← tf_k2, ← tf_add]
theorem tf_k8 : tf 8 = 1 + 1 + (1 + 1) + (1 + 1 + (1 + 1)) := by rw [← tf_k4, ← tf_add]

/- Add -/
section
variable (x y : Nat) (i : Bool) (x' y' : Nat) (i' : Bool)
theorem radd_1 : pureRun Try.prog (orc SR1 KG) Try.f67 [g1A x y i, g1A x' y' i'] [true] 300 = some ([(i, true)], g1V (toPt x' y' i')) := by kernel_rfl
theorem radd_2 : pureRun Try.prog (orc SR1 KG) Try.f67 [g1A x y i, g1A x' y' i'] [false, true] 300 = some ([(i, false), (i', true)], g1V (toPt x y i)) := by kernel_rfl
theorem radd_3 : pureRun Try.prog (orc SR1 KG) Try.f67 [g1A x y i, g1A x' y' i'] [false, false, true] 300 = some ([(i, false), (i', false), (!sgB (toPt x y i) (toPt x' y' i'), true)], .val true (zero12 true)) := by kernel_rfl
theorem radd_4 : pureRun Try.prog (orc SR1 KG) Try.f67 [g1A x y i, g1A x' y' i'] [false, false, false] 300 = some ([(i, false), (i', false), (!sgB (toPt x y i) (toPt x' y' i'), false)],
  .val true [.num 6 (smX (sgN (toPt x y i) (toPt x' y' i')) x x'), .num 6 (smY (sgN (toPt x y i) (toPt x' y' i')) x y (smX (sgN (toPt x y i) (toPt x' y' i')) x x')), .b false]) := by kernel_rfl
end
theorem sm_raw {l x y x' : Nat} {L : FP} (hl : tf l = L) : g1A (smX l x x') (smY l x y (smX l x x')) false = g1V (sumAt (tf x) (tf y) (tf x') L) := by
  have hX : tf (smX l x x') = L * L - tf x - tf x' := by unfold smX; simp only [tf_subN, tf_mulN, hl]
  refine g1V_mk (subN_lt _ _) (subN_lt _ _) hX ?_
  unfold smY
  rw [tf_subN, tf_mulN, tf_subN, hX, hl]
theorem tf_tgR (a b : FP) : tf (tgR a.val b.val) = (a * a + a * a + a * a) * FD.inv (b + b) := by
  unfold tgR
  have e1 : tf (mulN 3 (mulN a.val a.val)) = a * a + a * a + a * a := by rw [tf_mulN, tf_mulN, tf_val, tf_k3]; grind
  have e2 : tf (mulN 2 b.val) = b + b := by rw [tf_mulN, tf_val, tf_k2]; grind
  rw [tf_mulN, tf_inv (mulN_lt _ _), e1, e2]; rfl
theorem radd12_ok (x y : Nat) (i : Bool) (x' y' : Nat) (i' : Bool) : PureOk Try.prog 67 [g1A x y i, g1A x' y' i'] (g1V (Rg.add (toPt x y i) (toPt x' y' i'))) := by
  have r1 := radd_1 x y i x' y' i'
  have r2 := radd_2 x y i x' y' i'
  have r3 := radd_3 x y i x' y' i'
  have r4 := radd_4 x y i x' y' i'
  cases i with
  | true => exact pure_ok (orc_ok SR1ok KGok) mixed Try.func67 r1 ⟨rfl, trivial⟩ rfl
  | false => cases i' with
    | true => exact pure_ok (orc_ok SR1ok KGok) mixed Try.func67 r2 ⟨rfl, rfl, trivial⟩ rfl
    | false =>
      have hs : ∀ {l : Nat} {L : FP}, sgN (toPt x y false) (toPt x' y' false) = l → sgB (toPt x y false) (toPt x' y' false) = true → tf l = L → PureOk Try.prog 67 [g1A x y false, g1A x' y' false] (g1V (sumAt (tf x) (tf y) (tf x') L)) := by
        intro l L h1 h2 h3
        rw [h1] at r4
        rw [← sm_raw h3]
        exact pure_g1 (pure_ok (orc_ok SR1ok KGok) mixed Try.func67 r4 ⟨rfl, rfl, by rw [h2]; rfl, trivial⟩ rfl) rfl
      have h0 : sgB (toPt x y false) (toPt x' y' false) = false → PureOk Try.prog 67 [g1A x y false, g1A x' y' false] (g1V .inf) := fun h =>
        pure_g1 (pure_ok (orc_ok SR1ok KGok) mixed Try.func67 r3 ⟨rfl, rfl, by rw [h]; rfl, trivial⟩ rfl) (by kernel_rfl)
      show PureOk _ _ _ (g1V (Rg.add (.pt (tf x) (tf y)) (.pt (tf x') (tf y'))))
      rw [add_pt]
      change ∀ {l : Nat} {L : FP}, sgN (.pt (tf x) (tf y)) (.pt (tf x') (tf y')) = l → sgB (.pt (tf x) (tf y)) (.pt (tf x') (tf y')) = true → _ at hs
      change sgB (.pt (tf x) (tf y)) (.pt (tf x') (tf y')) = false → _ at h0
      generalize tf x = a at *
      generalize tf y = b at *
      generalize tf x' = c at *
      generalize tf y' = d at *
      by_cases hx : a = c
      · have hx' := decide_eq_true (ptX_eq (b := b) (d := d) |>.2 hx)
        rw [if_pos hx]
        by_cases hy : b = d
        · have hy' := decide_eq_true (ptY_eq (a := a) (c := c) |>.2 hy)
          by_cases hb : b = 0
          · rw [if_neg (fun h => h.2 hb)]
            refine h0 ?_
            unfold sgB
            rw [hx', hy', decide_eq_true (show ptY (.pt a b) = 0 from val_zero.2 hb)]; rfl
          · rw [if_pos ⟨hy, hb⟩]
            refine hs ?_ ?_ (tf_tgR a b)
            · unfold sgN
              rw [if_pos (ptX_eq.2 hx), if_pos ⟨ptY_eq.2 hy, fun h => hb (val_zero.1 h)⟩]; rfl
            · unfold sgB
              rw [hx', hy', decide_eq_false (show ¬ ptY (.pt a b) = 0 from fun h => hb (val_zero.1 h))]; rfl
        · rw [if_neg (fun h => hy h.1)]
          refine h0 ?_
          unfold sgB
          rw [hx', decide_eq_false (show ¬ ptY (.pt a b) = ptY (.pt c d) from fun h => hy (ptY_eq.1 h))]; rfl
      · rw [if_neg hx]
        refine hs ?_ ?_ (tf_chL a b c d)
        · unfold sgN
          rw [if_neg (fun h => hx (ptX_eq.1 h))]; rfl
        · unfold sgB
          rw [decide_eq_false (show ¬ ptX (.pt a b) = ptX (.pt c d) from fun h => hx (ptX_eq.1 h))]; rfl

/- twice -/
def sD (x y : Nat) : Nat := mulN 4 (mulN x (mulN y y))
def sE (x : Nat) : Nat := mulN 3 (mulN x x)
def sX (x y : Nat) : Nat := subN (mulN (sE x) (sE x)) (addN (sD x y) (sD x y))
def sY (x y : Nat) : Nat := subN (mulN (sE x) (subN (sD x y) (sX x y))) (mulN 8 (mulN (mulN y y) (mulN y y)))
theorem rtw_run (x y z : Nat) : pureRun Try.prog (orc SR1 KG) Try.f103 [f3A x y z] [] 500 = some ([], f3A (sX x y) (sY x y) (mulN 2 (mulN y z))) := by kernel_rfl
theorem tf_sD (x y : Nat) : tf (sD x y) = jD (tf x) (tf y) := by unfold sD jD; rw [tf_mulN, tf_mulN, tf_mulN, tf_k4]; grind
theorem tf_sE (x : Nat) : tf (sE x) = jE (tf x) := by unfold sE jE; rw [tf_mulN, tf_mulN, tf_k3]; grind
theorem tf_sX (x y : Nat) : tf (sX x y) = jX (tf x) (tf y) := by unfold sX jX; rw [tf_subN, tf_mulN, tf_addN, tf_sD, tf_sE]
theorem tf_s8 (y : Nat) : tf (mulN 8 (mulN (mulN y y) (mulN y y))) = jC8 (tf y) := by unfold jC8 jC4 jC2; rw [tf_mulN, tf_mulN, tf_mulN, tf_k8]; grind
theorem rtw_ok (x y z : Nat) : PureOk Try.prog 103 [f3A x y z] (f3V (twJ (toJ x y z))) := by
  rw [← f3V_mk (j := twJ (toJ x y z)) (x := sX x y) (y := sY x y) (z := mulN 2 (mulN y z)) (subN_lt _ _) (subN_lt _ _) (mulN_lt _ _) (tf_sX x y) (by unfold sY; rw [tf_subN, tf_mulN, tf_subN, tf_sX, tf_sD, tf_sE, tf_s8]; rfl)
    (by rw [tf_mulN, tf_mulN, tf_k2]; show _ = tf y * tf z + tf y * tf z; grind)]
  exact pure_ok (orc_ok SR1ok KGok) mixed Try.func103 (rtw_run x y z) trivial rfl
noncomputable def SR2 : List (FuncId × ASpec) := (67, pureSpec (spGG fun P Q => g1V (Rg.add P Q))) :: (103, pureSpec (spF fun j => f3V (twJ j))) :: SR1
theorem SR2ok : SpecsOk Try.prog SR2 := ⟨pureSpec_ok Try.func67 (by kernel_rfl) (by kernel_rfl) (spGG_ok radd12_ok), pureSpec_ok Try.func103 (by kernel_rfl) (by kernel_rfl) (spF_ok rtw_ok), SR1ok⟩

/- plus -/
section
variable (x y z a b : Nat) (i : Bool)
theorem rpl_1 : pureRun Try.prog (orc SR2 KG) Try.f104 [f3A x y z, g1A a b i] [true] 500 = some ([(decide (z = 0), true)], .val true (.num 6 a :: .num 6 b :: one6)) := by kernel_rfl
theorem rpl_2 : pureRun Try.prog (orc SR2 KG) Try.f104 [f3A x y z, g1A a b i] [false, true, true] 500 = some ([(decide (z = 0), false), (decide (nH x z a = 0), true), (decide (nR y z b = 0), true)], f3V (twJ (toJ x y z))) := by kernel_rfl
theorem rpl_3 : pureRun Try.prog (orc SR2 KG) Try.f104 [f3A x y z, g1A a b i] [false, true, false] 500 = some ([(decide (z = 0), false), (decide (nH x z a = 0), true), (decide (nR y z b = 0), false)], .val true (List.replicate 18 (.n .u64 0))) := by kernel_rfl
theorem rpl_4 : pureRun Try.prog (orc SR2 KG) Try.f104 [f3A x y z, g1A a b i] [false, false] 500 = some ([(decide (z = 0), false), (decide (nH x z a = 0), false)], f3A (nPX x (nH x z a) (nR y z b)) (nPY x y (nH x z a) (nR y z b)) (mulN z (nH x z a))) := by kernel_rfl
end
theorem rpl_ok {x y z a b : Nat} {i : Bool} (hz : z < pN) (ha : a < pN) (hb : b < pN) : PureOk Try.prog 104 [f3A x y z, g1A a b i] (f3V (plJ (toJ x y z) (tf a) (tf b))) := by
  have eh := tf_nH x y z a
  have er := tf_nR x y z b
  have zh := tf_z0 (n := nH x z a) (subN_lt _ _)
  have zr := tf_z0 (n := nR y z b) (subN_lt _ _)
  rw [eh] at zh
  rw [er] at zr
  unfold plJ
  by_cases h0 : z = 0
  · rw [if_pos (show (toJ x y z).z = 0 from (tf_z0 hz).1 h0), ← f3V_mk (j := ⟨tf a, tf b, 1⟩) ha hb (show 1 < pN by decide) rfl rfl tf_one]
    exact pure_f3 (pure_ok (orc_ok SR2ok KGok) mixed Try.func104 (rpl_1 x y z a b i) ⟨decide_eq_true h0, trivial⟩ rfl) rfl
  · rw [if_neg (show ¬ (toJ x y z).z = 0 from fun e => h0 ((tf_z0 hz).2 e))]
    by_cases hh : nH x z a = 0
    · rw [if_pos (zh.1 hh)]
      by_cases hr : nR y z b = 0
      · rw [if_pos (zr.1 hr)]
        exact pure_ok (orc_ok SR2ok KGok) mixed Try.func104 (rpl_2 x y z a b i) ⟨decide_eq_false h0, decide_eq_true hh, decide_eq_true hr, trivial⟩ rfl
      · rw [if_neg (fun e => hr (zr.2 e)), ← f3V_mk (j := ⟨0, 0, 0⟩) pN_pos pN_pos pN_pos tf_zero tf_zero tf_zero]
        exact pure_f3 (pure_ok (orc_ok SR2ok KGok) mixed Try.func104 (rpl_3 x y z a b i) ⟨decide_eq_false h0, decide_eq_true hh, decide_eq_false hr, trivial⟩ rfl) (by kernel_rfl)
    · rw [if_neg (fun e => hh (zh.2 e)), ← f3V_mk (j := ⟨pX (toJ x y z).x (pH (toJ x y z) (tf a)) (pR (toJ x y z) (tf b)), pY (toJ x y z).x (toJ x y z).y (pH (toJ x y z) (tf a)) (pR (toJ x y z) (tf b)), (toJ x y z).z * pH (toJ x y z) (tf a)⟩)
        (x := nPX x (nH x z a) (nR y z b)) (y := nPY x y (nH x z a) (nR y z b)) (z := mulN z (nH x z a)) (subN_lt _ _) (subN_lt _ _) (mulN_lt _ _) ?_ ?_ ?_]
      · exact pure_ok (orc_ok SR2ok KGok) mixed Try.func104 (rpl_4 x y z a b i) ⟨decide_eq_false h0, decide_eq_false hh, trivial⟩ rfl
      · unfold nPX pX; simp only [tf_subN, tf_mulN, tf_addN, eh, er]; rfl
      · unfold nPY nPX pY pX; simp only [tf_subN, tf_mulN, tf_addN, eh, er]; rfl
      · rw [tf_mulN, eh]; rfl
theorem plSp_gen {f : FuncId} (h : ∀ (x y z a b : Nat) (i : Bool), z < pN → a < pN → b < pN → PureOk Try.prog f [f3A x y z, g1A a b i] (f3V (plJ (toJ x y z) (tf a) (tf b)))) : ∀ args c v, plSp args = some (c, v) → okConds c → PureOk Try.prog f args v := by
  intro args c v hs hc us w ha
  unfold plSp at hs
  split at hs
  case h_2 => cases hs
  rename_i a b
  split at hs
  case h_2 => cases hs
  rename_i x y z p q i hx hy
  injection hs with hs; injection hs with h1 h2; subst h1; subst h2
  obtain ⟨u1, us1, r1, ⟨u2, us2, r2, ha, rfl⟩, rfl⟩ := ha
  exact h x y z p q i (of_decide_eq_true hc.1) (of_decide_eq_true hc.2.1) (of_decide_eq_true hc.2.2.1) _ w ⟨u1, _, asF3_rel hx r1, ⟨u2, _, (asG1_rel hy r2).1, ha, rfl⟩, rfl⟩
noncomputable def SR3 : List (FuncId × ASpec) := (104, condSpec plSp) :: SR2
theorem SR3ok : SpecsOk Try.prog SR3 := ⟨condSpec_ok Try.func104 (by kernel_rfl) (by kernel_rfl) (plSp_gen fun _ _ _ _ _ _ => rpl_ok), SR2ok⟩
end Go.Proofs.Ytihgefbjegdinaa
/- sigillaw12: none, awake. -/
namespace Go.Proofs.Ytihgefbjegdinaa
open Ex Num Rg
set_option maxRecDepth 100000

def eqP (P Q : Pt FP) : Bool := decide (ptX P = ptX Q) && (decide (ptY P = ptY Q) && (ptI P == ptI Q))
theorem eqP_rfl (P : Pt FP) : eqP P P = true := by
  unfold eqP
  rw [decide_eq_true rfl, decide_eq_true rfl]
  cases ptI P <;> rfl
theorem eqP_of {P Q : Pt FP} (h : P = Q) : eqP P Q = true := by rw [h]; exact eqP_rfl Q
theorem eqP_eq {P Q : Pt FP} (h : eqP P Q = true) : P = Q := by
  unfold eqP at h
  simp only [Bool.and_eq_true, decide_eq_true_eq, beq_iff_eq] at h
  rw [← toPt_of P, ← toPt_of Q, h.1, h.2.1, h.2.2]
theorem none12_run : pureRun Try.prog (orc SR3 KG) Try.f61 [] [] 100 = some ([], .val true (zero12 true)) := by kernel_rfl
theorem none12_ok : PureOk Try.prog 61 [] (g1V .inf) := pure_g1 (pure_ok (orc_ok SR3ok KGok) mixed Try.func61 none12_run trivial rfl) (by kernel_rfl)
noncomputable def SN : List (FuncId × ASpec) := (61, pureSpec fun args => match args with | [] => some (g1V .inf) | _ => none) :: SR3
theorem SNok : SpecsOk Try.prog SN := ⟨pureSpec_ok Try.func61 (by kernel_rfl) (by kernel_rfl) (sp0_ok none12_ok fun u h => h), SR3ok⟩
noncomputable def aw12C : List (Bool × Bool) := [(true, true), (true, true), (true, true), (true, true), (onP (toPt' G1B), true), (!onP (toPt 0 0 false), true), (onP (toPt' .inf), true), (eqP (add (toPt' G1B) (toPt' (neg (toPt' G1B)))) .inf, true),
  (eqP (add (toPt' G1B) (toPt' G1B)) (mulP (natL (win [2] 0 1)) (toPt' G1B)), true), (decide (mulE (toPt' G1B) = 0), true)]
theorem aw12_run : pureRun Try.prog (orc SN KG) Try.f53 [] [true, true, true, true, true, true] 500 = some (aw12C, boolA (decide (mulE (toPt 0 0 false) = 120))) := by kernel_rfl
theorem on_G1B : onP G1B = true := (on_eqN gX gY).symm.trans (by kernel_rfl)
theorem on_00 : onP (toPt 0 0 false) = false := (on_eqN 0 0).symm.trans (by kernel_rfl)
theorem add_neg_any (P : Pt FP) : add P (neg P) = .inf := by
  cases P with
  | inf => rfl
  | pt a b =>
    show add (.pt a b) (.pt a (-b)) = .inf
    rw [add_pt, if_pos rfl, if_neg]
    rintro ⟨h1, h2⟩
    refine two_ne C1 h2 ?_
    have h3 : b + b = b + -b := congrArg (fun t => b + t) h1
    rw [h3]
    grind
theorem aw12_ok : PureOk Try.prog 53 [] (.val false [.b true]) := by
  have hP := (onP_iff G1B).1 on_G1B
  refine bool_true (pure_ok (orc_ok SNok KGok) mixed Try.func53 aw12_run ⟨rfl, rfl, rfl, rfl, ?_, ?_, rfl, eqP_of ?_, eqP_of ?_, decide_eq_true ?_, trivial⟩ rfl) (decide_eq_true ?_)
  · rw [toPt'_eq]; exact on_G1B
  · rw [on_00]; rfl
  · rw [toPt'_eq, toPt'_eq]; exact add_neg_any _
  · rw [toPt'_eq]
    unfold mulP
    rw [if_pos on_G1B]; rfl
  · rw [toPt'_eq]; unfold mulE; rw [if_pos on_G1B]
  · unfold mulE; rw [if_neg (by rw [on_00]; exact Bool.false_ne_true)]
def yes12 : List AV → Option AV
  | [] => some (.val false [.b true])
  | _ => none
noncomputable def SA12 : List (FuncId × ASpec) := (53, pureSpec yes12) :: SN
theorem SA12ok : SpecsOk Try.prog SA12 := ⟨pureSpec_ok Try.func53 (by kernel_rfl) (by kernel_rfl) (sp0_ok aw12_ok fun u h => h), SNok⟩
end Go.Proofs.Ytihgefbjegdinaa
/- sigilref12.Mul: the contract. -/
namespace Go.Proofs.Ytihgefbjegdinaa
open Ex Num Rg
set_option maxRecDepth 100000

noncomputable def qmTodo : List Item := todoOf (aSeg Try.prog (orc SR3 KG) (some 0) 500 1 none (entry Try.f71 [slA 0 0 0 0, g1A 0 0 false] (seqH []) 1 [false, false]))
noncomputable def qmT (off n m : Nat) (i : Int) : List AV := .val false [.sl 0 off n m] :: .any :: .any :: .val false [.p 1 0] :: .val false [.p 2 0] :: .val false [.n .i64 0] :: .any :: .val false [.p 3 0] :: .val false [.p 4 0] :: .val false [.v (.int .i64 i)] :: List.replicate (Try.f71.ntmps - 10) .any
noncomputable def qmH (xs : List Int) (x y : Nat) (b : Bool) (P : Pt FP) : Heap := [(0, some (roB [.seq .u64 xs])), (1, some ⟨49, [.num 6 x, .num 6 y, .v (.bool b)], false⟩), (2, some ⟨49, zero12 false, false⟩), (3, some ⟨49, [.num 6 (ptX P), .num 6 (ptY P), .v (.bool (ptI P))], false⟩)]
noncomputable def qmS (x y : Nat) (b : Bool) (off n m : Nat) (xs : List Int) (P : Pt FP) (out : List Ch) (i : Int) (path : List Bool) : ASt := ⟨qmTodo, ⟨qmT off n m i, List.append (qmH xs x y b P) [(4, some ⟨90, out, false⟩)], 5, path⟩⟩
theorem qm_entry (x y : Nat) (i : Bool) (off n m : Nat) (xs : List Int) : aSeg Try.prog (orc SR3 KG) (some 0) 500 1 (some ([0, 3, 4, 5, 7, 8, 9], [0, 1, 2, 3, 4], 5)) (entry Try.f71 (gmArgs x y i off n m) (seqH xs) 1 [false, false]) =
  some ([(!onP (toPt x y i), false), (i, false), (hasB .i64 n, true)], [], qmS x y i off n m xs (toPt x y i) zero18 (wI (wI (64 * (n : Int)) - 1)) []) := by kernel_rfl
theorem qm_off (x y : Nat) (i : Bool) (off n m : Nat) (xs : List Int) : segOut Try.prog (orc SR3 KG) Try.f71 500 1 [] (entry Try.f71 (gmArgs x y i off n m) (seqH xs) 1 [true]) =
  some ([(!onP (toPt x y i), true)], [], .tup [(true, zero12 false), (false, [.n .i64 120])], []) := by kernel_rfl
theorem qm_inf (x y : Nat) (i : Bool) (off n m : Nat) (xs : List Int) : segOut Try.prog (orc SR3 KG) Try.f71 500 1 [] (entry Try.f71 (gmArgs x y i off n m) (seqH xs) 1 [false, true]) =
  some ([(!onP (toPt x y i), false), (i, true)], [], .tup [(true, zero12 true), (false, [.n .i64 0])], []) := by kernel_rfl
def qmC (off n : Nat) (xs : List Int) (i : Int) (bit : Bool) (r : List (Bool × Bool)) : List (Bool × Bool) := (decide (0 ≤ i), true) :: (true, true) :: (decide (0 ≤ wI (Int.tdiv i 64) ∧ wI (Int.tdiv i 64) < n), true) ::
  (decide (off + (wI (Int.tdiv i 64)).toNat * 1 < xs.length), true) :: (decide (0 ≤ i ∧ (0 : Int) < 64), true) :: (decide (0 ≤ wrapc false .u64 (Int.tmod i 64) ∧ 0 ≤ powW xs off i), true) :: (decide (rpB xs off i = 1), bit) :: r
section
variable (x y : Nat) (b : Bool) (off n m : Nat) (xs : List Int) (P : Pt FP) (j : J FP) (i : Int)
theorem qm_zero : aSeg Try.prog (orc SR3 KG) (some 0) 500 1 (some ([0, 3, 4, 5, 7, 8, 9], [0, 1, 2, 3, 4], 5)) (qmS x y b off n m xs P (jC j) i [true, false]) =
  some (qmC off n xs i false [], [], qmS x y b off n m xs P (jC (twJ (toJ' j))) (wI (i - 1)) []) := by kernel_rfl
theorem qm_one : aSeg Try.prog (orc SR3 KG) (some 0) 500 1 (some ([0, 3, 4, 5, 7, 8, 9], [0, 1, 2, 3, 4], 5)) (qmS x y b off n m xs P (jC j) i [true, true]) =
  some (qmC off n xs i true [(decide ((twJ (toJ' j)).z.val < pN), true), (decide (ptX P < pN), true), (decide (ptY P < pN), true)], [], qmS x y b off n m xs P (jC (plP j P)) (wI (i - 1)) []) := by kernel_rfl
theorem qm_exit0 : segOut Try.prog (orc SR3 KG) Try.f71 500 1 [] (qmS x y b off n m xs P (jC j) i [false, true]) =
  some ([(decide (0 ≤ i), false), (decide (j.z.val = 0), true)], [], .tup [(true, zero12 true), (false, [.n .i64 0])], []) := by kernel_rfl
theorem qm_exit1 : segOut Try.prog (orc SR3 KG) Try.f71 500 1 [] (qmS x y b off n m xs P (jC j) i [false, false]) =
  some ([(decide (0 ≤ i), false), (decide (j.z.val = 0), false)], [], .tup [(true, [.num 6 (mulN j.x.val (mulN (invN j.z.val) (invN j.z.val))), .num 6 (mulN j.y.val (mulN (mulN (invN j.z.val) (invN j.z.val)) (invN j.z.val))), .b false]), (false, [.n .i64 0])], []) := by kernel_rfl
end
theorem qm_wf (x y : Nat) (b : Bool) (off n m : Nat) (xs : List Int) (P : Pt FP) (j : J FP) (i : Int) (p : List Bool) : wfSt Try.f71.ntmps (qmS x y b off n m xs P (jC j) i p).s := wfB_ok (by kernel_rfl)
def qmV (Q : Pt FP) : AV := match Q with
  | .inf => .tup [(true, zero12 true), (false, [.n .i64 0])]
  | .pt a b => .tup [(true, [.num 6 a.val, .num 6 b.val, .b false]), (false, [.n .i64 0])]
section
variable {off n m : Nat} {xs : List Int} (hall : ∀ d ∈ xs, 0 ≤ d ∧ d < 18446744073709551616) (hlen : off + n ≤ xs.length) (hn : n ≤ 1125899906842624) {x y : Nat} {b : Bool} {P : Pt FP} (hP : Rg.On C1.b P) (hI : ptI P = false) {β0 : Env} {w0 : World} (hb : ∀ b, 1 ≤ b → β0 b = none)
include hall hlen hn hb hP hI
theorem qm_safe : ∀ (c : Nat) (j : J FP), accJ P (natL (win xs off n)) c j → c ≤ 64 * n → ASafe Try.prog 71 β0 w0 (Outs β0 w0 [] (qmV (smul (natL (win xs off n)) P)) []) Try.f71.ntmps [] (qmS x y b off n m xs P (jC j) ((c : Int) - 1) []) := by
  intro c
  induction c with
  | zero =>
    intro j hj _
    unfold accJ at hj
    rw [Nat.pow_zero, Nat.div_one] at hj
    rw [← hj]
    by_cases h0 : j.z.val = 0
    · have hz : j.z = 0 := val_zero.1 h0
      rw [ptJ_zero hz]
      exact path_safe [false, true] (out_safe (orc_ok SR3ok KGok) mixed Try.func71 (qm_exit0 ..) ⟨rfl, decide_eq_true h0, trivial⟩ (qm_wf ..) hb (fun _ h => by cases h))
    · have hz : j.z ≠ 0 := fun e => h0 (val_zero.2 e)
      rw [ptJ_ne hz]
      have e : qmV (.pt (j.x * (FD.inv j.z * FD.inv j.z)) (j.y * ((FD.inv j.z * FD.inv j.z) * FD.inv j.z))) = .tup [(true, [.num 6 (mulN j.x.val (mulN (invN j.z.val) (invN j.z.val))), .num 6 (mulN j.y.val (mulN (mulN (invN j.z.val) (invN j.z.val)) (invN j.z.val))), .b false]), (false, [.n .i64 0])] := by
        have ei : tf (invN j.z.val) = FD.inv j.z := by rw [tf_inv j.z.isLt, tf_val]; rfl
        have e1 : mulN j.x.val (mulN (invN j.z.val) (invN j.z.val)) = (j.x * (FD.inv j.z * FD.inv j.z) : FP).val := tf_lt (mulN_lt _ _) (Fin.isLt _) (by rw [tf_mulN, tf_mulN, ei, tf_val, tf_val])
        have e2 : mulN j.y.val (mulN (mulN (invN j.z.val) (invN j.z.val)) (invN j.z.val)) = (j.y * ((FD.inv j.z * FD.inv j.z) * FD.inv j.z) : FP).val := tf_lt (mulN_lt _ _) (Fin.isLt _) (by rw [tf_mulN, tf_mulN, tf_mulN, ei, tf_val, tf_val])
        rw [e1, e2]; rfl
      rw [e]
      exact path_safe [false, false] (out_safe (orc_ok SR3ok KGok) mixed Try.func71 (qm_exit1 ..) ⟨rfl, decide_eq_false h0, trivial⟩ (qm_wf ..) hb (fun _ h => by cases h))
  | succ c ih =>
    intro j hj hc
    have hi : ((c + 1 : Nat) : Int) - 1 = (c : Int) := by omega
    rw [hi]
    have hlt : ∀ d ∈ win xs off n, 0 ≤ d ∧ d < 18446744073709551616 := win_has hall
    have hq : Int.tdiv (c : Int) 64 = ((c / 64 : Nat) : Int) := by rw [Int.tdiv_eq_ediv_of_nonneg (by omega)]; rfl
    have hr : Int.tmod (c : Int) 64 = ((c % 64 : Nat) : Int) := by rw [Int.tmod_eq_emod_of_nonneg (by omega)]; rfl
    have hw : wI (Int.tdiv (c : Int) 64) = ((c / 64 : Nat) : Int) := by rw [hq]; exact wI_eq (by omega)
    have hjn : c / 64 < n := by omega
    have hv : powW xs off c = (win xs off n).getD (c / 64) 0 := by
      unfold powW
      rw [hw, Int.toNat_natCast, Nat.mul_one]
      exact (bit_word hjn).symm
    have hvb : 0 ≤ powW xs off c ∧ powW xs off c < 18446744073709551616 := by
      rw [hv, List.getD_eq_getElem?_getD]
      cases h : (win xs off n)[c / 64]? with
      | none => simp
      | some d => exact hlt d (List.mem_of_getElem? h)
    obtain ⟨hq1, hq2⟩ := rpB_eq xs off c
    have hbit : rpB xs off c = ((natL (win xs off n) / 2 ^ c % 2 : Nat) : Int) := by
      rw [hq1]
      obtain ⟨V, hV⟩ := Int.eq_ofNat_of_zero_le hvb.1
      rw [hr, ← natL_bit _ c hlt, ← hv, hV, Int.toNat_natCast]
      exact bitI_eq V _ (by omega) (by omega)
    have hnext : wI ((c : Int) - 1) = (c : Int) - 1 := wI_eq (by omega)
    have hconds : ∀ bit r, decide (rpB xs off c = 1) = bit → okConds r → okConds (qmC off n xs c bit r) := by
      intro bit r hbt hr'
      refine ⟨by simp, rfl, ?_, ?_, ?_, ?_, hbt, hr'⟩
      · rw [hw]; simp; omega
      · rw [hw]; simp; omega
      · simp
      · simp only [decide_eq_true_eq]; rw [hq2, hr]; exact ⟨by omega, hvb.1⟩
    have hdiv : natL (win xs off n) / 2 ^ c = 2 * (natL (win xs off n) / 2 ^ (c + 1)) + natL (win xs off n) / 2 ^ c % 2 := by
      rw [Nat.pow_succ, ← Nat.div_div_eq_div_mul]; omega
    unfold accJ at hj
    have hoj : Rg.On C1.b (ptJ j) := by rw [hj]; exact on_smul C1 hP _
    have htw : ptJ (twJ (toJ' j)) = smul (2 * (natL (win xs off n) / 2 ^ (c + 1))) P := by
      rw [toJ'_eq, ptJ_tw C1 hoj, hj, ← smul_add C1 hP, Nat.two_mul]
    rcases Nat.mod_two_eq_zero_or_one (natL (win xs off n) / 2 ^ c) with h0 | h1
    · refine path_safe [true, false] (seg_safe (orc_ok SR3ok KGok) mixed (qm_zero ..) (hconds false [] (by rw [hbit, h0]; rfl) trivial) (qm_wf ..) hb (fun _ h => by cases h) fun _ => ?_)
      rw [hnext]
      refine ih _ ?_ (by omega)
      unfold accJ
      rw [htw, hdiv, h0]; rfl
    · refine path_safe [true, true] (seg_safe (orc_ok SR3ok KGok) mixed (qm_one ..) (hconds true _ (by rw [hbit, h1]; rfl) ⟨decide_eq_true (twJ (toJ' j)).z.isLt, decide_eq_true (ptX_lt P), decide_eq_true (ptY_lt P), trivial⟩) (qm_wf ..) hb (fun _ h => by cases h) fun _ => ?_)
      rw [hnext]
      refine ih _ ?_ (by omega)
      unfold accJ plP
      rw [toJ'_eq (twJ (toJ' j)), ptJ_pl C1 (by rw [htw]; exact on_smul C1 hP _), htw, hdiv, h1]
      cases P with
      | inf => cases hI
      | pt a b =>
        show add _ (.pt (tf a.val) (tf b.val)) = _
        rw [tf_val, tf_val]; rfl
end
theorem qmV_A {β : Env} {Q : Pt FP} {u : Value} (h : relA β (qmV Q) u) : relA β (gmA Q 0) u := by
  cases Q with
  | inf => exact relT2 (fun _ q => (asG1_rel (x := 0) (y := 0) (i := true) (by kernel_rfl) q).1) (fun _ q => gval rfl q) h
  | pt a b => exact relT2 (fun _ q => (asG1_rel (x := a.val) (y := b.val) (i := false) rfl q).1) (fun _ q => gval rfl q) h
theorem qm_can {off n m : Nat} {xs : List Int} (hall : ∀ d ∈ xs, 0 ≤ d ∧ d < 18446744073709551616) (hlen : off + n ≤ xs.length) (hn : n ≤ 1125899906842624) (x y : Nat) (i : Bool) :
    CanOk Try.prog 71 (gmArgs x y i off n m) (seqH xs) 1 [] (gmA (mulP (natL (win xs off n)) (toPt x y i)) (mulE (toPt x y i))) [] := by
  have e1 := qm_entry x y i off n m xs
  have e2 := qm_off x y i off n m xs
  have e3 := qm_inf x y i off n m xs
  cases ho : onP (toPt x y i) with
  | false =>
    unfold mulP mulE
    rw [if_neg (by rw [ho]; exact Bool.false_ne_true), if_neg (by rw [ho]; exact Bool.false_ne_true)]
    refine can_val (can_entry (path := [true]) Try.func71 (by kernel_rfl) (by kernel_rfl) fun β0 w0 hb =>
      out_safe (orc_ok SR3ok KGok) mixed Try.func71 e2 ⟨by rw [ho]; rfl, trivial⟩ (wfB_ok (by kernel_rfl)) hb (fun _ h => by cases h)) fun β u hu => ?_
    exact relT2 (fun _ q => (asG1_rel (x := 0) (y := 0) (i := false) (by kernel_rfl) q).1) (fun _ q => gval rfl q) hu
  | true =>
    have hP := (onP_iff _).1 ho
    unfold mulP mulE
    rw [if_pos ho, if_pos ho]
    cases i with
    | true =>
      rw [show toPt x y true = .inf from rfl, smul_inf]
      exact can_val (can_entry (path := [false, true]) Try.func71 (by kernel_rfl) (by kernel_rfl) fun β0 w0 hb =>
        out_safe (orc_ok SR3ok KGok) mixed Try.func71 e3 ⟨by rw [ho]; rfl, rfl, trivial⟩ (wfB_ok (by kernel_rfl)) hb (fun _ h => by cases h)) fun β u hu => qmV_A (Q := .inf) hu
    | false =>
      refine can_val (can_entry (path := [false, false]) Try.func71 (by kernel_rfl) (by kernel_rfl) fun β0 w0 hb => ?_) fun β u hu => qmV_A hu
      refine seg_safe (orc_ok SR3ok KGok) mixed e1 ⟨by rw [ho]; rfl, rfl, ?_, trivial⟩ (wfB_ok (by kernel_rfl)) hb (fun _ h => by cases h) fun _ => ?_
      · simp only [hasB, Bool.and_eq_true, decide_eq_true_eq]; omega
      · have e4 : wI (wI (64 * (n : Int)) - 1) = ((64 * n : Nat) : Int) - 1 := by
          rw [wI_eq (z := 64 * (n : Int)) (by omega), wI_eq (by omega)]; omega
        rw [e4]
        refine heap_safe zero18_rel (qm_safe hall hlen hn hP rfl hb (64 * n) ⟨0, 0, 0⟩ ?_ (Nat.le_refl _))
        unfold accJ
        have hl := natL_lt (win xs off n) (win_has hall)
        have hl2 : natL (win xs off n) < 2 ^ (64 * n) := by
          unfold win at hl ⊢
          rwa [List.length_take, List.length_drop, Nat.min_eq_left (by omega)] at hl
        rw [ptJ_zero rfl, Nat.div_eq_of_lt hl2]; rfl
noncomputable def SR4 : List (FuncId × ASpec) := (71, nilSpec (wgSp fun l P => gmA (mulP (natL l) P) (mulE P))) :: SA12
theorem SR4ok : SpecsOk Try.prog SR4 := ⟨nilSpec_ok (wgSp_ok Try.func71 (by kernel_rfl) (by kernel_rfl) (fun _ _ => by kernel_rfl) fun _ _ _ _ x y i hx hl hn => qm_can hx hl hn x y i), SA12ok⟩
end Go.Proofs.Ytihgefbjegdinaa
