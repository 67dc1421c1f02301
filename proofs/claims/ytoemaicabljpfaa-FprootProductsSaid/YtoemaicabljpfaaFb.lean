/- Numbers of six words; the contracts of fp's sums: less, Reduce. -/
import Derived.Test.YtoemaicabljpfaaFa
namespace Go.Proofs.Ytoemaicabljpfaa
open Ex
set_option maxRecDepth 100000

def pN : Nat := 0x1a0111ea397fe69a4b1ba7b6434bacd764774b84f38512bf6730d2a0f6b0f6241eabfffeb153ffffb9feffffffffaaab
def RR : Nat := 39402006196394479212279040100143613805079739270465446667948293404245721771497210611414266254884915640806627990306816
theorem RR_eq : RR = 2 ^ (64 * 6) := by kernel_rfl
theorem pow6 : 2 ^ (64 * 6) = 2 ^ 64 * (2 ^ 64 * (2 ^ 64 * (2 ^ 64 * (2 ^ 64 * 2 ^ 64)))) := by kernel_rfl

theorem word_step (x : Nat) : (x : Int) = wordN x 0 + 18446744073709551616 * ((x / 2 ^ 64 : Nat) : Int) := by
  simp only [wordN, Nat.mul_zero, Nat.pow_zero, Nat.div_one]; omega
theorem word_bd (x i : Nat) : 0 ≤ wordN x i ∧ wordN x i < 18446744073709551616 := u64_bounds (wordN_has x i)
theorem word_lt {x : Nat} (h : x < 18446744073709551616) : wordN x 0 = x := by
  simp only [wordN, Nat.mul_zero, Nat.pow_zero, Nat.div_one]; omega

/-- A number out of its six words. -/
def sum6 (a0 a1 a2 a3 a4 a5 : Int) : Int := a0 + 18446744073709551616 * (a1 + 18446744073709551616 * (a2 + 18446744073709551616 * (a3 + 18446744073709551616 * (a4 + 18446744073709551616 * a5))))
theorem digits6 {x : Nat} (h : x < 2 ^ (64 * 6)) : (x : Int) = sum6 (wordN x 0) (wordN x 1) (wordN x 2) (wordN x 3) (wordN x 4) (wordN x 5) := by
  rw [pow6] at h
  have s0 := word_step x
  have s1 := word_step (x / 2 ^ 64)
  have s2 := word_step (x / 2 ^ 64 / 2 ^ 64)
  have s3 := word_step (x / 2 ^ 64 / 2 ^ 64 / 2 ^ 64)
  have s4 := word_step (x / 2 ^ 64 / 2 ^ 64 / 2 ^ 64 / 2 ^ 64)
  have s5 : wordN (x / 2 ^ 64 / 2 ^ 64 / 2 ^ 64 / 2 ^ 64 / 2 ^ 64) 0 = ((x / 2 ^ 64 / 2 ^ 64 / 2 ^ 64 / 2 ^ 64 / 2 ^ 64 : Nat) : Int) := by
    apply word_lt
    have l1 := Nat.div_lt_of_lt_mul h
    have l2 := Nat.div_lt_of_lt_mul l1
    have l3 := Nat.div_lt_of_lt_mul l2
    have l4 := Nat.div_lt_of_lt_mul l3
    exact Nat.div_lt_of_lt_mul l4
  simp only [sum6, wordN_succ]
  rw [s5]
  rw [← s4, ← s3, ← s2, ← s1, ← s0]
theorem of_digits6 {y : Nat} {d0 d1 d2 d3 d4 d5 : Int} (b0 : 0 ≤ d0 ∧ d0 < 18446744073709551616) (b1 : 0 ≤ d1 ∧ d1 < 18446744073709551616) (b2 : 0 ≤ d2 ∧ d2 < 18446744073709551616) (b3 : 0 ≤ d3 ∧ d3 < 18446744073709551616) (b4 : 0 ≤ d4 ∧ d4 < 18446744073709551616) (b5 : 0 ≤ d5 ∧ d5 < 18446744073709551616)
    (h : (y : Int) = sum6 d0 d1 d2 d3 d4 d5) : d0 = wordN y 0 ∧ d1 = wordN y 1 ∧ d2 = wordN y 2 ∧ d3 = wordN y 3 ∧ d4 = wordN y 4 ∧ d5 = wordN y 5 ∧ y < 2 ^ (64 * 6) := by
  unfold sum6 at h
  have step : ∀ (z : Nat) (d K : Int), 0 ≤ d ∧ d < 18446744073709551616 → (z : Int) = d + 18446744073709551616 * K → d = wordN z 0 ∧ ((z / 2 ^ 64 : Nat) : Int) = K := by
    intro z d K hd hz
    have := word_step z
    have hb := word_bd z 0
    omega
  obtain ⟨e0, k0⟩ := step y d0 _ b0 h
  obtain ⟨e1, k1⟩ := step _ d1 _ b1 k0
  obtain ⟨e2, k2⟩ := step _ d2 _ b2 k1
  obtain ⟨e3, k3⟩ := step _ d3 _ b3 k2
  obtain ⟨e4, k4⟩ := step _ d4 _ b4 k3
  have e5 : d5 = wordN (y / 2 ^ 64 / 2 ^ 64 / 2 ^ 64 / 2 ^ 64 / 2 ^ 64) 0 := by rw [word_lt (by omega)]; exact k4.symm
  refine ⟨e0, by rw [e1, wordN_succ], by rw [e2, wordN_succ, wordN_succ], by rw [e3, wordN_succ, wordN_succ, wordN_succ], by rw [e4, wordN_succ, wordN_succ, wordN_succ, wordN_succ], by rw [e5, wordN_succ, wordN_succ, wordN_succ, wordN_succ, wordN_succ], ?_⟩
  rw [← RR_eq]
  unfold RR
  omega
def w6 (a0 a1 a2 a3 a4 a5 : Int) : List Ch := [.v (.int .u64 a0), .v (.int .u64 a1), .v (.int .u64 a2), .v (.int .u64 a3), .v (.int .u64 a4), .v (.int .u64 a5)]
theorem wordsCh6 (x : Nat) : wordsCh 6 x = w6 (wordN x 0) (wordN x 1) (wordN x 2) (wordN x 3) (wordN x 4) (wordN x 5) := rfl
theorem num_of_w6 {β : Env} {u : Value} {y : Nat} {d0 d1 d2 d3 d4 d5 : Int} (b0 : 0 ≤ d0 ∧ d0 < 18446744073709551616) (b1 : 0 ≤ d1 ∧ d1 < 18446744073709551616) (b2 : 0 ≤ d2 ∧ d2 < 18446744073709551616) (b3 : 0 ≤ d3 ∧ d3 < 18446744073709551616) (b4 : 0 ≤ d4 ∧ d4 < 18446744073709551616) (b5 : 0 ≤ d5 ∧ d5 < 18446744073709551616)
    (h : (y : Int) = sum6 d0 d1 d2 d3 d4 d5) (hr : relA β (.val true (w6 d0 d1 d2 d3 d4 d5)) u) : relA β (.val true [.num 6 y]) u := by
  obtain ⟨e0, e1, e2, e3, e4, e5, hlt⟩ := of_digits6 b0 b1 b2 b3 b4 b5 h
  rw [e0, e1, e2, e3, e4, e5, ← wordsCh6] at hr
  exact toNum hlt hr
/-- The number of six words. -/
theorem numL6 (a0 a1 a2 a3 a4 a5 : Int) (h0 : 0 ≤ a0) (h1 : 0 ≤ a1) (h2 : 0 ≤ a2) (h3 : 0 ≤ a3) (h4 : 0 ≤ a4) (h5 : 0 ≤ a5) : ∃ y : Nat, asNum 6 (w6 a0 a1 a2 a3 a4 a5) = some y ∧ (y : Int) = sum6 a0 a1 a2 a3 a4 a5 := by
  refine ⟨_, rfl, ?_⟩
  unfold sum6
  omega

/- carries -/
theorem dif_eq {a b c : Int} (ha : 0 ≤ a ∧ a < 18446744073709551616) (hb : 0 ≤ b ∧ b < 18446744073709551616) (hc : 0 ≤ c ∧ c ≤ 1) :
    difW a b c = a - b - c + 18446744073709551616 * borW a b c ∧ (0 ≤ difW a b c ∧ difW a b c < 18446744073709551616) ∧ (0 ≤ borW a b c ∧ borW a b c ≤ 1) := by
  unfold difW borW
  split <;> omega
theorem sum_eq {a b c : Int} (ha : 0 ≤ a ∧ a < 18446744073709551616) (hb : 0 ≤ b ∧ b < 18446744073709551616) (hc : 0 ≤ c ∧ c ≤ 1) :
    a + b + c = sumW a b c + 18446744073709551616 * carW a b c ∧ (0 ≤ sumW a b c ∧ sumW a b c < 18446744073709551616) ∧ (0 ≤ carW a b c ∧ carW a b c ≤ 1) := by
  unfold sumW carW
  omega
theorem is01_of {c : Int} (h : 0 ≤ c ∧ c ≤ 1) : is01 c = true := by simp [is01, h.1, h.2]

/- less -/
def lb1 (a0 : Int) : Int := borW a0 0xb9feffffffffaaab 0
def lb2 (a0 a1 : Int) : Int := borW a1 0x1eabfffeb153ffff (lb1 a0)
def lb3 (a0 a1 a2 : Int) : Int := borW a2 0x6730d2a0f6b0f624 (lb2 a0 a1)
def lb4 (a0 a1 a2 a3 : Int) : Int := borW a3 0x64774b84f38512bf (lb3 a0 a1 a2)
def lb5 (a0 a1 a2 a3 a4 : Int) : Int := borW a4 0x4b1ba7b6434bacd7 (lb4 a0 a1 a2 a3)
def lb6 (a0 a1 a2 a3 a4 a5 : Int) : Int := borW a5 0x1a0111ea397fe69a (lb5 a0 a1 a2 a3 a4)
def ldif (a0 a1 a2 a3 a4 a5 : Int) : List Ch := w6 (difW a0 0xb9feffffffffaaab 0) (difW a1 0x1eabfffeb153ffff (lb1 a0)) (difW a2 0x6730d2a0f6b0f624 (lb2 a0 a1)) (difW a3 0x64774b84f38512bf (lb3 a0 a1 a2)) (difW a4 0x4b1ba7b6434bacd7 (lb4 a0 a1 a2 a3)) (difW a5 0x1a0111ea397fe69a (lb5 a0 a1 a2 a3 a4))
def lconds (a0 a1 a2 a3 a4 : Int) (r : List (Bool × Bool)) : List (Bool × Bool) := (is01 0, true) :: (is01 (lb1 a0), true) :: (is01 (lb2 a0 a1), true) :: (is01 (lb3 a0 a1 a2), true) :: (is01 (lb4 a0 a1 a2 a3), true) :: (is01 (lb5 a0 a1 a2 a3 a4), true) :: r
theorem less_no (a0 a1 a2 a3 a4 a5 h : Int) : pureRun Try.prog (orc S1 K0) Try.f82 [.val true (w6 a0 a1 a2 a3 a4 a5), .val false [.v (.int .u64 h)]] [true] 300 =
  some (lconds a0 a1 a2 a3 a4 [(decide (h < lb6 a0 a1 a2 a3 a4 a5), true)], .val true (w6 a0 a1 a2 a3 a4 a5)) := by kernel_rfl
theorem less_yes (a0 a1 a2 a3 a4 a5 h : Int) : pureRun Try.prog (orc S1 K0) Try.f82 [.val true (w6 a0 a1 a2 a3 a4 a5), .val false [.v (.int .u64 h)]] [false] 300 =
  some (lconds a0 a1 a2 a3 a4 [(decide (h < lb6 a0 a1 a2 a3 a4 a5), false)], .val true (ldif a0 a1 a2 a3 a4 a5)) := by kernel_rfl

def lessN (x h : Nat) : Nat := if x < pN ∧ h = 0 then x else (x + (RR - pN)) % RR
def lessSp : List AV → Option AV
  | [.val true a, B] => match asNum 6 a, asI (some B) with
    | some x, some (_, .u64, h) => some (.val true [.num 6 (lessN x h.toNat)])
    | _, _ => none
  | _ => none

theorem less_ok : ∀ args v, lessSp args = some v → PureOk Try.prog 82 args v := by
  intro args v h us w ha
  unfold lessSp at h
  split at h
  case h_2 => cases h
  rename_i a B
  split at h
  case h_2 => cases h
  rename_i x c h0 hx hy
  injection h with h; subst h
  obtain ⟨u1, us1, r1, ha, rfl⟩ := ha
  obtain ⟨u2, us2, r2, ha, rfl⟩ := ha
  simp only [relAs] at ha
  subst ha
  obtain ⟨q0, q1, hlt⟩ := normN hx r1
  obtain ⟨q2, h2⟩ := normI hy r2
  have bh := u64_bounds h2
  rw [wordsCh6] at q1
  have hX := digits6 hlt
  have w0 := word_bd x 0
  have w1 := word_bd x 1
  have w2 := word_bd x 2
  have w3 := word_bd x 3
  have w4 := word_bd x 4
  have w5 := word_bd x 5
  generalize wordN x 0 = a0 at *
  generalize wordN x 1 = a1 at *
  generalize wordN x 2 = a2 at *
  generalize wordN x 3 = a3 at *
  generalize wordN x 4 = a4 at *
  generalize wordN x 5 = a5 at *
  obtain ⟨d0, e0, f0⟩ := dif_eq (b := 0xb9feffffffffaaab) (c := 0) w0 (by omega) (by omega)
  obtain ⟨d1, e1, f1⟩ := dif_eq (b := 0x1eabfffeb153ffff) (c := lb1 a0) w1 (by omega) f0
  obtain ⟨d2, e2, f2⟩ := dif_eq (b := 0x6730d2a0f6b0f624) (c := lb2 a0 a1) w2 (by omega) f1
  obtain ⟨d3, e3, f3⟩ := dif_eq (b := 0x64774b84f38512bf) (c := lb3 a0 a1 a2) w3 (by omega) f2
  obtain ⟨d4, e4, f4⟩ := dif_eq (b := 0x4b1ba7b6434bacd7) (c := lb4 a0 a1 a2 a3) w4 (by omega) f3
  obtain ⟨d5, e5, f5⟩ := dif_eq (b := 0x1a0111ea397fe69a) (c := lb5 a0 a1 a2 a3 a4) w5 (by omega) f4
  have hconds : ∀ r, okConds r → okConds (lconds a0 a1 a2 a3 a4 r) := fun r hr =>
    ⟨rfl, is01_of f0, is01_of f1, is01_of f2, is01_of f3, is01_of f4, hr⟩
  change difW a0 0xb9feffffffffaaab 0 = a0 - 0xb9feffffffffaaab - 0 + 18446744073709551616 * lb1 a0 at d0
  change difW a1 0x1eabfffeb153ffff (lb1 a0) = a1 - 0x1eabfffeb153ffff - lb1 a0 + 18446744073709551616 * lb2 a0 a1 at d1
  change difW a2 0x6730d2a0f6b0f624 (lb2 a0 a1) = a2 - 0x6730d2a0f6b0f624 - lb2 a0 a1 + 18446744073709551616 * lb3 a0 a1 a2 at d2
  change difW a3 0x64774b84f38512bf (lb3 a0 a1 a2) = a3 - 0x64774b84f38512bf - lb3 a0 a1 a2 + 18446744073709551616 * lb4 a0 a1 a2 a3 at d3
  change difW a4 0x4b1ba7b6434bacd7 (lb4 a0 a1 a2 a3) = a4 - 0x4b1ba7b6434bacd7 - lb4 a0 a1 a2 a3 + 18446744073709551616 * lb5 a0 a1 a2 a3 a4 at d4
  change difW a5 0x1a0111ea397fe69a (lb5 a0 a1 a2 a3 a4) = a5 - 0x1a0111ea397fe69a - lb5 a0 a1 a2 a3 a4 + 18446744073709551616 * lb6 a0 a1 a2 a3 a4 a5 at d5
  change 0 ≤ lb6 a0 a1 a2 a3 a4 a5 ∧ lb6 a0 a1 a2 a3 a4 a5 ≤ 1 at f5
  unfold sum6 at hX
  have hsum : sum6 (difW a0 0xb9feffffffffaaab 0) (difW a1 0x1eabfffeb153ffff (lb1 a0)) (difW a2 0x6730d2a0f6b0f624 (lb2 a0 a1)) (difW a3 0x64774b84f38512bf (lb3 a0 a1 a2)) (difW a4 0x4b1ba7b6434bacd7 (lb4 a0 a1 a2 a3)) (difW a5 0x1a0111ea397fe69a (lb5 a0 a1 a2 a3 a4)) =
      (x : Int) - (pN : Nat) + (RR : Nat) * lb6 a0 a1 a2 a3 a4 a5 := by
    unfold sum6 pN RR
    omega
  have hbnd : 0 ≤ (x : Int) - (pN : Nat) + (RR : Nat) * lb6 a0 a1 a2 a3 a4 a5 ∧ (x : Int) - (pN : Nat) + (RR : Nat) * lb6 a0 a1 a2 a3 a4 a5 < (RR : Nat) := by
    rw [← hsum]; unfold sum6 RR; omega
  have hltR : x < RR := by rw [RR_eq]; exact hlt
  by_cases hcase : x < pN ∧ h0.toNat = 0
  · have hb6 : h0 < lb6 a0 a1 a2 a3 a4 a5 := by
      unfold pN RR at hbnd; unfold pN at hcase; omega
    have := pure_ok (orc_ok S1ok K0ok) mixed Try.func82 (less_no a0 a1 a2 a3 a4 a5 h0) (hconds _ ⟨by simp [hb6], trivial⟩) rfl _ w ⟨u1, _, q1, ⟨u2, _, q2, rfl, rfl⟩, rfl⟩
    refine Calls.mono this ?_
    rintro e w' ⟨u, rfl, hu, hbl⟩
    refine ⟨u, rfl, ?_, hbl⟩
    unfold lessN
    rw [if_pos hcase]
    exact num_of_w6 w0 w1 w2 w3 w4 w5 hX hu
  · have hb6 : ¬ h0 < lb6 a0 a1 a2 a3 a4 a5 := by
      unfold pN RR at hbnd; unfold pN at hcase; omega
    have := pure_ok (orc_ok S1ok K0ok) mixed Try.func82 (less_yes a0 a1 a2 a3 a4 a5 h0) (hconds _ ⟨by simp [hb6], trivial⟩) rfl _ w ⟨u1, _, q1, ⟨u2, _, q2, rfl, rfl⟩, rfl⟩
    refine Calls.mono this ?_
    rintro e w' ⟨u, rfl, hu, hbl⟩
    refine ⟨u, rfl, ?_, hbl⟩
    unfold lessN
    rw [if_neg hcase]
    refine num_of_w6 e0 e1 e2 e3 e4 e5 ?_ hu
    rw [hsum]
    have h01 : lb6 a0 a1 a2 a3 a4 a5 = 0 ∨ lb6 a0 a1 a2 a3 a4 a5 = 1 := by omega
    unfold pN RR at *
    rcases h01 with h01 | h01 <;> rw [h01] at hbnd ⊢ <;> omega
def S2 : List (FuncId × ASpec) := (82, pureSpec lessSp) :: S1
theorem S2ok : SpecsOk Try.prog S2 := ⟨pureSpec_ok Try.func82 (by kernel_rfl) (by kernel_rfl) less_ok, S1ok⟩
end Go.Proofs.Ytoemaicabljpfaa
