/- The contract of fp.reduced: Montgomery's product. -/
import Derived.Test.YtoemaicabljpfaaFe
namespace Go.Proofs.Ytoemaicabljpfaa
open Ex
set_option maxRecDepth 100000

def mP : Int := 0x89f3fffcfffcfffd
def mont (T : Nat) (x : Int) (b : Nat) : Nat := stepN (stepN T x b) (mW (wordN (stepN T x b) 0 * mP)) pN / 18446744073709551616
def redT (a b : Nat) : Nat → Nat
  | 0 => 0
  | i + 1 => mont (redT a b i) (wordN a i) b
def redOut (T : Nat) : Nat := lessN (nest6 (wordN T 0) (wordN T 1) (wordN T 2) (wordN T 3) (wordN T 4) (wordN T 5)) (wordN T 6).toNat
theorem reduced_run (x y : Nat) : pureRun Try.prog (orc S6 K0) Try.f78 [num6 x, num6 y] [] 3000 = some (allT 2, num6 (redOut (redT x y 6))) := by kernel_rfl

/- what it is -/
def BB : Nat := 18446744073709551616
def RI : Nat := 3231460744492646417066832100176244795738767926513225105051837195607029917124509527734802654356338138714468589979680
theorem RI_eq : RR * RI % pN = 1 := by kernel_rfl
theorem wordN_nat (x i : Nat) : (wordN x i).toNat = x / 2 ^ (64 * i) % 2 ^ 64 := by unfold wordN; omega
theorem mP_pN : 0x89f3fffcfffcfffd * pN % 18446744073709551616 = 18446744073709551615 := by kernel_rfl
theorem mont_arith {s q : Nat} (h : q % 18446744073709551616 = s % 18446744073709551616 * 18446744073709551615 % 18446744073709551616) : (s + q) % 18446744073709551616 = 0 := by omega
theorem mont_zero (s : Nat) : (s + (s % 18446744073709551616 * 0x89f3fffcfffcfffd % 18446744073709551616) * pN) % 18446744073709551616 = 0 := by
  apply mont_arith
  rw [Nat.mod_mul_mod, Nat.mul_assoc, Nat.mul_mod (s % 18446744073709551616) (0x89f3fffcfffcfffd * pN), mP_pN, Nat.mod_mod]
theorem mW_nat (n : Nat) : mW (n : Int) = ((n % 18446744073709551616 : Nat) : Int) := by rw [mW_eq]; omega
theorem mont_spec {T : Nat} {x : Int} {b : Nat} (hx : 0 ≤ x ∧ x < 18446744073709551616) (hb : b < pN) (hT : T < b + pN) : ∃ m, mont T x b * 18446744073709551616 = T + x.toNat * b + m * pN ∧ mont T x b < b + pN := by
  have hp : pN + pN < RR := pN_RR
  have hx2 : x.toNat ≤ 18446744073709551615 := by omega
  have h1 : x.toNat * b ≤ 18446744073709551615 * b := Nat.mul_le_mul_right b hx2
  have s1 : stepN T x b = T + x.toNat * b := by
    unfold stepN
    refine Nat.mod_eq_of_lt ?_
    unfold RR at hp; unfold R8
    omega
  have hm : (mW (wordN (T + x.toNat * b) 0 * mP)).toNat = (T + x.toNat * b) % 18446744073709551616 * 0x89f3fffcfffcfffd % 18446744073709551616 := by
    have e1 : wordN (T + x.toNat * b) 0 = (((T + x.toNat * b) % 18446744073709551616 : Nat) : Int) := by
      simp only [wordN, Nat.mul_zero, Nat.pow_zero, Nat.div_one]
    have e2 : mP = ((0x89f3fffcfffcfffd : Nat) : Int) := rfl
    rw [e1, e2, ← Int.natCast_mul, mW_nat, Int.toNat_natCast]
  have hz := mont_zero (T + x.toNat * b)
  unfold mont
  rw [s1]
  have h2 : stepN (T + x.toNat * b) (mW (wordN (T + x.toNat * b) 0 * mP)) pN = T + x.toNat * b + (T + x.toNat * b) % 18446744073709551616 * 0x89f3fffcfffcfffd % 18446744073709551616 * pN := by
    unfold stepN
    rw [hm]
    refine Nat.mod_eq_of_lt ?_
    have h3 : (T + x.toNat * b) % 18446744073709551616 * 0x89f3fffcfffcfffd % 18446744073709551616 ≤ 18446744073709551615 := by omega
    have h4 := Nat.mul_le_mul_right pN h3
    unfold RR at hp; unfold R8
    omega
  rw [h2]
  refine ⟨(T + x.toNat * b) % 18446744073709551616 * 0x89f3fffcfffcfffd % 18446744073709551616, ?_, ?_⟩
  · omega
  · have h3 : (T + x.toNat * b) % 18446744073709551616 * 0x89f3fffcfffcfffd % 18446744073709551616 ≤ 18446744073709551615 := by omega
    have h4 := Nat.mul_le_mul_right pN h3
    generalize (T + x.toNat * b) % 18446744073709551616 * 0x89f3fffcfffcfffd % 18446744073709551616 * pN = q at *
    generalize x.toNat * b = r at *
    omega
theorem redT_spec {a b : Nat} (hb : b < pN) : ∀ i, ∃ k, redT a b i * 2 ^ (64 * i) = a % 2 ^ (64 * i) * b + k * pN ∧ redT a b i < b + pN
  | 0 => ⟨0, by simp [redT, Nat.mod_one], by have := pN_pos; simp only [redT]; omega⟩
  | i + 1 => by
    obtain ⟨k, h1, h2⟩ := redT_spec (a := a) hb i
    obtain ⟨m, h3, h4⟩ := mont_spec (u64_bounds (wordN_has a i)) hb h2
    refine ⟨k + m * 2 ^ (64 * i), ?_, h4⟩
    rw [wordN_nat] at h3
    have e : 2 ^ (64 * (i + 1)) = 18446744073709551616 * 2 ^ (64 * i) := by rw [show 64 * (i + 1) = 64 + 64 * i by omega, Nat.pow_add]
    have e2 : a % 2 ^ (64 * (i + 1)) = a % 2 ^ (64 * i) + 2 ^ (64 * i) * (a / 2 ^ (64 * i) % 2 ^ 64) := by
      rw [show 64 * (i + 1) = 64 * i + 64 by omega, Nat.pow_add, Nat.mod_mul]
    rw [e2, e]
    show mont (redT a b i) (wordN a i) b * _ = _
    rw [← Nat.mul_assoc, h3, Nat.add_mul, Nat.add_mul, h1, Nat.add_mul, Nat.add_mul]
    rw [Nat.mul_right_comm (a / 2 ^ (64 * i) % 2 ^ 64) b, Nat.mul_comm (a / 2 ^ (64 * i) % 2 ^ 64) (2 ^ (64 * i)), Nat.mul_right_comm m pN]
    omega
def monN (x y : Nat) : Nat := redOut (redT x y 6)
theorem nest6_digits {x : Nat} (h : x < RR) : nest6 (wordN x 0) (wordN x 1) (wordN x 2) (wordN x 3) (wordN x 4) (wordN x 5) = x := by
  have h1 := digits6 (x := x) (by rw [← RR_eq]; exact h)
  have h2 := (nest6_eq (word_bd x 0) (word_bd x 1) (word_bd x 2) (word_bd x 3) (word_bd x 4) (word_bd x 5)).1
  omega
theorem monN_eq {x y : Nat} (hx : x < RR) (hy : y < pN) : monN x y = x * y * RI % pN := by
  obtain ⟨k, h1, h2⟩ := redT_spec (a := x) hy 6
  have hp := pN_RR
  have hlt : redT x y 6 < RR := by omega
  unfold monN redOut
  rw [nest6_digits hlt, wordN_nat, ← RR_eq] at *
  have e6 : redT x y 6 / RR = 0 := Nat.div_eq_of_lt hlt
  rw [e6, Nat.zero_mod, lessN_sum (by omega)]
  try rw [Nat.mod_eq_of_lt hx] at h1
  have h3 : redT x y 6 * RR * RI % pN = x * y * RI % pN := by
    rw [h1, Nat.add_mul, Nat.mul_right_comm k pN, Nat.add_mul_mod_self_right]
  rw [← h3, Nat.mul_assoc, Nat.mul_mod, RI_eq, Nat.mul_one, Nat.mod_mod]
theorem reduced_ok (x y : Nat) : PureOk Try.prog 78 [num6 x, num6 y] (num6 (monN x y)) := pure_ok (orc_ok S6ok K0ok) mixed Try.func78 (reduced_run x y) (allT_ok _) rfl
def sqN : Nat := 2708263910654730174793787626328176511836455197166317677006154293982164122222515399004018013397331347120527951271750
theorem square_run : pureRun Try.prog (orc S6 K0) Try.f79 [] [] 100 = some ([], .val true [.n .u64 0xf4df1f341c341746, .n .u64 0xa76e6a609d104f1, .n .u64 0x8de5476c4c95b6d5, .n .u64 0x67eb88a9939d83c0, .n .u64 0x9a793e85b519952d, .n .u64 0x11988fe592cae3aa]) := by kernel_rfl
theorem sp0_ok {f : FuncId} {v v' : AV} (h : PureOk Try.prog f [] v) (hv : ∀ u, relA noEnv v u → relA noEnv v' u) : ∀ args w, (match args with | [] => some v' | _ => none) = some w → PureOk Try.prog f args w := by
  intro args w hs
  split at hs
  · injection hs with hs; subst hs
    intro us w ha
    refine Calls.mono (h us w ha) ?_
    rintro e w' ⟨u, h1, h2, h3⟩
    exact ⟨u, h1, hv u h2, h3⟩
  · cases hs
theorem square_ok : PureOk Try.prog 79 [] (.val true [.n .u64 0xf4df1f341c341746, .n .u64 0xa76e6a609d104f1, .n .u64 0x8de5476c4c95b6d5, .n .u64 0x67eb88a9939d83c0, .n .u64 0x9a793e85b519952d, .n .u64 0x11988fe592cae3aa]) := pure_ok (orc_ok S6ok K0ok) mixed Try.func79 square_run trivial rfl
theorem num6_of {β : Env} {a : List Ch} {x : Nat} (h : asNum 6 a = some x) {u : Value} (hr : relA β (.val true a) u) : relA β (num6 x) u := (normN h hr).1
def S7 : List (FuncId × ASpec) := (79, pureSpec fun args => match args with | [] => some (num6 sqN) | _ => none) :: (78, pureSpec (sp2 fun x y => num6 (monN x y))) :: S6
theorem S7ok : SpecsOk Try.prog S7 := ⟨pureSpec_ok Try.func79 (by kernel_rfl) (by kernel_rfl) (sp0_ok square_ok fun u h => num6_of (by kernel_rfl) h),
  pureSpec_ok Try.func78 (by kernel_rfl) (by kernel_rfl) (sp2_ok fun x y _ _ => reduced_ok x y), S6ok⟩
theorem mul_run (x y : Nat) : pureRun Try.prog (orc S7 K0) Try.f27 [num6 x, num6 y] [] 300 = some ([], num6 (monN (monN (x % pN) (y % pN)) sqN)) := by kernel_rfl
def mulN (x y : Nat) : Nat := x * y % pN
theorem sq_RI : sqN * RI % pN * RI % pN = 1 := by kernel_rfl
theorem sqN_lt : sqN < pN := by decide
theorem monN_lt {x y : Nat} (hx : x < RR) (hy : y < pN) : monN x y < pN := by rw [monN_eq hx hy]; exact Nat.mod_lt _ pN_pos
theorem mul_mon (x y : Nat) : monN (monN (x % pN) (y % pN)) sqN = mulN x y := by
  have h1 := lt_RR_mod x
  have h2 := modp_lt y
  have h3 := monN_lt h1 h2
  rw [monN_eq (Nat.lt_trans h3 (by decide)) sqN_lt, monN_eq h1 h2]
  unfold mulN
  have := sq_RI
  rw [Nat.mod_mul_mod] at this
  rw [Nat.mul_assoc, Nat.mod_mul_mod, show x % pN * (y % pN) * RI * (sqN * RI) = (x % pN * (y % pN)) * (sqN * RI * RI) by simp only [Nat.mul_comm, Nat.mul_left_comm], Nat.mul_mod, this, Nat.mul_one, Nat.mod_mod, ← Nat.mul_mod]
theorem mul_ok (x y : Nat) : PureOk Try.prog 27 [num6 x, num6 y] (num6 (mulN x y)) := by
  rw [← mul_mon]
  exact pure_ok (orc_ok S7ok K0ok) mixed Try.func27 (mul_run x y) trivial rfl
def S8 : List (FuncId × ASpec) := (27, pureSpec (sp2 fun x y => num6 (mulN x y))) :: S7
theorem S8ok : SpecsOk Try.prog S8 := ⟨pureSpec_ok Try.func27 (by kernel_rfl) (by kernel_rfl) (sp2_ok fun x y _ _ => mul_ok x y), S7ok⟩
end Go.Proofs.Ytoemaicabljpfaa
