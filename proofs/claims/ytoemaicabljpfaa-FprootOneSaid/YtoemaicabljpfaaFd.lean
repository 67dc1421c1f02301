/- The contracts of fp.Add, fp.Neg, fp.Sub, fp.minusOf. -/
import Derived.Test.YtoemaicabljpfaaFc
namespace Go.Proofs.Ytoemaicabljpfaa
open Ex
set_option maxRecDepth 100000

def nest6 (d0 d1 d2 d3 d4 d5 : Int) : Nat := d0.toNat + 18446744073709551616 * (d1.toNat + 18446744073709551616 * (d2.toNat + 18446744073709551616 * (d3.toNat + 18446744073709551616 * (d4.toNat + 18446744073709551616 * (d5.toNat + 18446744073709551616 * 0)))))
def cch (x y : Nat) : Nat → Int
  | 0 => 0
  | i + 1 => carW (wordN x i) (wordN y i) (cch x y i)
def bch (x y : Nat) : Nat → Int
  | 0 => 0
  | i + 1 => borW (wordN x i) (wordN y i) (bch x y i)
def sumD (x y i : Nat) : Int := sumW (wordN x i) (wordN y i) (cch x y i)
def difD (x y i : Nat) : Int := difW (wordN x i) (wordN y i) (bch x y i)
theorem cch_bd (x y : Nat) : ∀ i, 0 ≤ cch x y i ∧ cch x y i ≤ 1
  | 0 => by simp [cch]
  | i + 1 => (sum_eq (word_bd x i) (word_bd y i) (cch_bd x y i)).2.2
theorem bch_bd (x y : Nat) : ∀ i, 0 ≤ bch x y i ∧ bch x y i ≤ 1
  | 0 => by simp [bch]
  | i + 1 => (dif_eq (word_bd x i) (word_bd y i) (bch_bd x y i)).2.2
theorem sumD_bd (x y i : Nat) : 0 ≤ sumD x y i ∧ sumD x y i < 18446744073709551616 := (sum_eq (word_bd x i) (word_bd y i) (cch_bd x y i)).2.1
theorem difD_bd (x y i : Nat) : 0 ≤ difD x y i ∧ difD x y i < 18446744073709551616 := (dif_eq (word_bd x i) (word_bd y i) (bch_bd x y i)).2.1
theorem sumD_eq (x y i : Nat) : wordN x i + wordN y i + cch x y i = sumD x y i + 18446744073709551616 * cch x y (i + 1) := (sum_eq (word_bd x i) (word_bd y i) (cch_bd x y i)).1
theorem difD_eq (x y i : Nat) : difD x y i = wordN x i - wordN y i - bch x y i + 18446744073709551616 * bch x y (i + 1) := (dif_eq (word_bd x i) (word_bd y i) (bch_bd x y i)).1

theorem sum6_chain {x y : Nat} (hx : x < RR) (hy : y < RR) : sum6 (sumD x y 0) (sumD x y 1) (sumD x y 2) (sumD x y 3) (sumD x y 4) (sumD x y 5) + (RR : Nat) * cch x y 6 = x + y := by
  have h1 := digits6 (x := x) (by rw [← RR_eq]; exact hx)
  have h2 := digits6 (x := y) (by rw [← RR_eq]; exact hy)
  have e0 : wordN x 0 + wordN y 0 + cch x y 0 = sumD x y 0 + 18446744073709551616 * cch x y 1 := sumD_eq x y 0
  have e1 : wordN x 1 + wordN y 1 + cch x y 1 = sumD x y 1 + 18446744073709551616 * cch x y 2 := sumD_eq x y 1
  have e2 : wordN x 2 + wordN y 2 + cch x y 2 = sumD x y 2 + 18446744073709551616 * cch x y 3 := sumD_eq x y 2
  have e3 : wordN x 3 + wordN y 3 + cch x y 3 = sumD x y 3 + 18446744073709551616 * cch x y 4 := sumD_eq x y 3
  have e4 : wordN x 4 + wordN y 4 + cch x y 4 = sumD x y 4 + 18446744073709551616 * cch x y 5 := sumD_eq x y 4
  have e5 : wordN x 5 + wordN y 5 + cch x y 5 = sumD x y 5 + 18446744073709551616 * cch x y 6 := sumD_eq x y 5
  have z : cch x y 0 = 0 := rfl
  unfold sum6 at *
  unfold RR
  omega
theorem dif6_chain {x y : Nat} (hx : x < RR) (hy : y < RR) : sum6 (difD x y 0) (difD x y 1) (difD x y 2) (difD x y 3) (difD x y 4) (difD x y 5) = x - y + (RR : Nat) * bch x y 6 := by
  have h1 := digits6 (x := x) (by rw [← RR_eq]; exact hx)
  have h2 := digits6 (x := y) (by rw [← RR_eq]; exact hy)
  have e0 : difD x y 0 = wordN x 0 - wordN y 0 - bch x y 0 + 18446744073709551616 * bch x y 1 := difD_eq x y 0
  have e1 : difD x y 1 = wordN x 1 - wordN y 1 - bch x y 1 + 18446744073709551616 * bch x y 2 := difD_eq x y 1
  have e2 : difD x y 2 = wordN x 2 - wordN y 2 - bch x y 2 + 18446744073709551616 * bch x y 3 := difD_eq x y 2
  have e3 : difD x y 3 = wordN x 3 - wordN y 3 - bch x y 3 + 18446744073709551616 * bch x y 4 := difD_eq x y 3
  have e4 : difD x y 4 = wordN x 4 - wordN y 4 - bch x y 4 + 18446744073709551616 * bch x y 5 := difD_eq x y 4
  have e5 : difD x y 5 = wordN x 5 - wordN y 5 - bch x y 5 + 18446744073709551616 * bch x y 6 := difD_eq x y 5
  have z : bch x y 0 = 0 := rfl
  unfold sum6 at *
  unfold RR
  omega
theorem nest6_eq {d0 d1 d2 d3 d4 d5 : Int} (b0 : 0 ≤ d0 ∧ d0 < 18446744073709551616) (b1 : 0 ≤ d1 ∧ d1 < 18446744073709551616) (b2 : 0 ≤ d2 ∧ d2 < 18446744073709551616) (b3 : 0 ≤ d3 ∧ d3 < 18446744073709551616) (b4 : 0 ≤ d4 ∧ d4 < 18446744073709551616) (b5 : 0 ≤ d5 ∧ d5 < 18446744073709551616) :
    (nest6 d0 d1 d2 d3 d4 d5 : Int) = sum6 d0 d1 d2 d3 d4 d5 ∧ nest6 d0 d1 d2 d3 d4 d5 < RR := by
  unfold nest6 sum6 RR
  omega
def sumN (x y : Nat) : Nat := nest6 (sumD x y 0) (sumD x y 1) (sumD x y 2) (sumD x y 3) (sumD x y 4) (sumD x y 5)
def difN (x y : Nat) : Nat := nest6 (difD x y 0) (difD x y 1) (difD x y 2) (difD x y 3) (difD x y 4) (difD x y 5)
theorem sumN_eq {x y : Nat} (hx : x < RR) (hy : y < RR) : sumN x y + RR * (cch x y 6).toNat = x + y ∧ sumN x y < RR := by
  obtain ⟨h1, h2⟩ := nest6_eq (sumD_bd x y 0) (sumD_bd x y 1) (sumD_bd x y 2) (sumD_bd x y 3) (sumD_bd x y 4) (sumD_bd x y 5)
  have h3 := sum6_chain hx hy
  have h4 := cch_bd x y 6
  unfold sumN
  refine ⟨?_, h2⟩
  rw [← h1] at h3
  have h01 : cch x y 6 = 0 ∨ cch x y 6 = 1 := by omega
  unfold RR at *
  rcases h01 with e | e <;> rw [e] at h3 ⊢ <;> simp only [Int.toNat_zero, Int.toNat_one] <;> omega
theorem difN_eq {x y : Nat} (hx : x < RR) (hy : y < RR) : difN x y = (x + (RR - y)) % RR := by
  obtain ⟨h1, h2⟩ := nest6_eq (difD_bd x y 0) (difD_bd x y 1) (difD_bd x y 2) (difD_bd x y 3) (difD_bd x y 4) (difD_bd x y 5)
  have h3 := dif6_chain hx hy
  have h4 := bch_bd x y 6
  unfold difN
  rw [← h1] at h3
  have h01 : bch x y 6 = 0 ∨ bch x y 6 = 1 := by omega
  unfold RR at *
  rcases h01 with e | e <;> rw [e] at h3 <;> omega
theorem difD_chain_num {x y : Nat} (hx : x < RR) (hy : y < RR) : (((x + (RR - y)) % RR : Nat) : Int) = sum6 (difD x y 0) (difD x y 1) (difD x y 2) (difD x y 3) (difD x y 4) (difD x y 5) := by
  rw [← difN_eq hx hy]
  exact (nest6_eq (difD_bd x y 0) (difD_bd x y 1) (difD_bd x y 2) (difD_bd x y 3) (difD_bd x y 4) (difD_bd x y 5)).1

theorem modp_lt (x : Nat) : x % pN < pN := Nat.mod_lt _ pN_pos
theorem pN_RR : pN + pN < RR := by decide
theorem lessN_sum {x : Nat} (h : x < pN + pN) : lessN x 0 = x % pN := by
  rcases Nat.lt_or_ge x pN with h1 | h1
  · rw [lessN_lt h1, Nat.mod_eq_of_lt h1]
  · have := pN_RR
    rw [lessN_ge h1 (by omega), Nat.mod_eq_sub_mod h1, Nat.mod_eq_of_lt (by omega)]

theorem add_run (x y : Nat) : pureRun Try.prog (orc S3 K0) Try.f40 [.val true [.num 6 x], .val true [.num 6 y]] [] 300 =
  some ([(is01 0, true), (is01 (cch (x % pN) (y % pN) 1), true), (is01 (cch (x % pN) (y % pN) 2), true), (is01 (cch (x % pN) (y % pN) 3), true), (is01 (cch (x % pN) (y % pN) 4), true), (is01 (cch (x % pN) (y % pN) 5), true)],
    .val true [.num 6 (lessN (sumN (x % pN) (y % pN)) (cch (x % pN) (y % pN) 6).toNat)]) := by kernel_rfl
theorem neg_run (x : Nat) : pureRun Try.prog (orc S3 K0) Try.f30 [.val true [.num 6 x]] [] 300 =
  some ([(is01 0, true), (is01 (bch pN (x % pN) 1), true), (is01 (bch pN (x % pN) 2), true), (is01 (bch pN (x % pN) 3), true), (is01 (bch pN (x % pN) 4), true), (is01 (bch pN (x % pN) 5), true)],
    .val true [.num 6 (lessN (difN pN (x % pN)) 0)]) := by kernel_rfl
theorem minusOf_run (x y : Nat) : pureRun Try.prog (orc S3 K0) Try.f91 [.val true [.num 6 x], .val true [.num 6 y]] [] 300 =
  some ([(is01 0, true), (is01 (bch x y 1), true), (is01 (bch x y 2), true), (is01 (bch x y 3), true), (is01 (bch x y 4), true), (is01 (bch x y 5), true)],
    .val true (w6 (difD x y 0) (difD x y 1) (difD x y 2) (difD x y 3) (difD x y 4) (difD x y 5))) := by kernel_rfl

def addN (x y : Nat) : Nat := (x % pN + y % pN) % pN
def negN (x : Nat) : Nat := (pN - x % pN) % pN
def subN (x y : Nat) : Nat := addN x (negN y)

/- one and two numbers handed over -/
def sp1 (g : Nat → AV) : List AV → Option AV
  | [.val true a] => match asNum 6 a with
    | some x => some (g x)
    | none => none
  | _ => none
def sp2 (g : Nat → Nat → AV) : List AV → Option AV
  | [.val true a, .val true b] => match asNum 6 a, asNum 6 b with
    | some x, some y => some (g x y)
    | _, _ => none
  | _ => none
theorem sp1_ok {f : FuncId} {g : Nat → AV} (h : ∀ x, x < RR → PureOk Try.prog f [.val true [.num 6 x]] (g x)) : ∀ args v, sp1 g args = some v → PureOk Try.prog f args v := by
  intro args v hs us w ha
  unfold sp1 at hs
  split at hs
  case h_2 => cases hs
  rename_i a
  split at hs
  case h_2 => cases hs
  rename_i x hx
  injection hs with hs; subst hs
  obtain ⟨u1, us1, r1, ha, rfl⟩ := ha
  simp only [relAs] at ha
  subst ha
  obtain ⟨q0, q1, hlt⟩ := normN hx r1
  exact h x (by rw [RR_eq]; exact hlt) _ w ⟨u1, _, q0, rfl, rfl⟩
theorem sp2_ok {f : FuncId} {g : Nat → Nat → AV} (h : ∀ x y, x < RR → y < RR → PureOk Try.prog f [.val true [.num 6 x], .val true [.num 6 y]] (g x y)) : ∀ args v, sp2 g args = some v → PureOk Try.prog f args v := by
  intro args v hs us w ha
  unfold sp2 at hs
  split at hs
  case h_2 => cases hs
  rename_i a b
  split at hs
  case h_2 => cases hs
  rename_i x y hx hy
  injection hs with hs; subst hs
  obtain ⟨u1, us1, r1, ha, rfl⟩ := ha
  obtain ⟨u2, us2, r2, ha, rfl⟩ := ha
  simp only [relAs] at ha
  subst ha
  obtain ⟨q0, q1, hlt⟩ := normN hx r1
  obtain ⟨p0, p1, hlt2⟩ := normN hy r2
  exact h x y (by rw [RR_eq]; exact hlt) (by rw [RR_eq]; exact hlt2) _ w ⟨u1, _, q0, ⟨u2, _, p0, rfl, rfl⟩, rfl⟩

theorem lt_RR_mod (x : Nat) : x % pN < RR := Nat.lt_trans (modp_lt x) (by decide)
theorem add_ok (x y : Nat) : PureOk Try.prog 40 [.val true [.num 6 x], .val true [.num 6 y]] (.val true [.num 6 (addN x y)]) := by
  have h := pure_ok (orc_ok S3ok K0ok) mixed Try.func40 (add_run x y) ⟨rfl, is01_of (cch_bd _ _ _), is01_of (cch_bd _ _ _), is01_of (cch_bd _ _ _), is01_of (cch_bd _ _ _), is01_of (cch_bd _ _ _), trivial⟩ rfl
  obtain ⟨h1, h2⟩ := sumN_eq (lt_RR_mod x) (lt_RR_mod y)
  have h3 := modp_lt x
  have h4 := modp_lt y
  have h5 := pN_RR
  have hc : (cch (x % pN) (y % pN) 6).toNat = 0 := by
    have := cch_bd (x % pN) (y % pN) 6
    have h01 : (cch (x % pN) (y % pN) 6).toNat = 0 ∨ (cch (x % pN) (y % pN) 6).toNat = 1 := by omega
    rcases h01 with e | e
    · exact e
    · rw [e] at h1; omega
  rw [hc] at h h1
  rw [lessN_sum (by omega)] at h
  have : sumN (x % pN) (y % pN) = x % pN + y % pN := by omega
  rw [this] at h
  exact h
theorem neg_ok (x : Nat) : PureOk Try.prog 30 [.val true [.num 6 x]] (.val true [.num 6 (negN x)]) := by
  have h := pure_ok (orc_ok S3ok K0ok) mixed Try.func30 (neg_run x) ⟨rfl, is01_of (bch_bd _ _ _), is01_of (bch_bd _ _ _), is01_of (bch_bd _ _ _), is01_of (bch_bd _ _ _), is01_of (bch_bd _ _ _), trivial⟩ rfl
  have h3 := modp_lt x
  have h5 := pN_RR
  have : difN pN (x % pN) = pN - x % pN := by
    rw [difN_eq (by omega) (by omega), show pN + (RR - x % pN) = (pN - x % pN) + RR by omega, Nat.add_mod_right, Nat.mod_eq_of_lt (by omega)]
  rw [this, lessN_sum (by omega)] at h
  exact h
theorem minusOf_ok (x y : Nat) (hx : x < RR) (hy : y < RR) : PureOk Try.prog 91 [.val true [.num 6 x], .val true [.num 6 y]] (.val true [.num 6 ((x + (RR - y)) % RR)]) := by
  intro us w ha
  have h := pure_ok (orc_ok S3ok K0ok) mixed Try.func91 (minusOf_run x y) ⟨rfl, is01_of (bch_bd _ _ _), is01_of (bch_bd _ _ _), is01_of (bch_bd _ _ _), is01_of (bch_bd _ _ _), is01_of (bch_bd _ _ _), trivial⟩ rfl us w ha
  refine Calls.mono h ?_
  rintro e w' ⟨u, rfl, hu, hbl⟩
  exact ⟨u, rfl, num_of_w6 (difD_bd x y 0) (difD_bd x y 1) (difD_bd x y 2) (difD_bd x y 3) (difD_bd x y 4) (difD_bd x y 5) (difD_chain_num hx hy) hu, hbl⟩
def num6 (x : Nat) : AV := .val true [.num 6 x]
def S4 : List (FuncId × ASpec) := (40, pureSpec (sp2 fun x y => num6 (addN x y))) :: (30, pureSpec (sp1 fun x => num6 (negN x))) :: (91, pureSpec (sp2 fun x y => num6 ((x + (RR - y)) % RR))) :: S3
theorem S4ok : SpecsOk Try.prog S4 := ⟨pureSpec_ok Try.func40 (by kernel_rfl) (by kernel_rfl) (sp2_ok fun x y _ _ => add_ok x y),
  pureSpec_ok Try.func30 (by kernel_rfl) (by kernel_rfl) (sp1_ok fun x _ => neg_ok x),
  pureSpec_ok Try.func91 (by kernel_rfl) (by kernel_rfl) (sp2_ok minusOf_ok), S3ok⟩
theorem sub_run (x y : Nat) : pureRun Try.prog (orc S4 K0) Try.f42 [num6 x, num6 y] [] 300 = some ([], num6 (subN x y)) := by kernel_rfl
theorem sub_ok (x y : Nat) : PureOk Try.prog 42 [num6 x, num6 y] (num6 (subN x y)) := pure_ok (orc_ok S4ok K0ok) mixed Try.func42 (sub_run x y) trivial rfl
def S5 : List (FuncId × ASpec) := (42, pureSpec (sp2 fun x y => num6 (subN x y))) :: S4
theorem S5ok : SpecsOk Try.prog S5 := ⟨pureSpec_ok Try.func42 (by kernel_rfl) (by kernel_rfl) (sp2_ok fun x y _ _ => sub_ok x y), S4ok⟩
end Go.Proofs.Ytoemaicabljpfaa
