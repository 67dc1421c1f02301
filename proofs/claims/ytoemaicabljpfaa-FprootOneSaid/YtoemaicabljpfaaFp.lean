/- Powers by squaring, for the kernel; sigillaw05's awake. -/
import Derived.Test.YtoemaicabljpfaaFo
namespace Go.Proofs.Ytoemaicabljpfaa
open Ex
set_option maxRecDepth 100000

/-- A power modulo m, by halving the exponent (fuel first). -/
def pmod (m x : Nat) : Nat → Nat → Nat
  | 0, _ => 1 % m
  | f + 1, e => (match e % 2 with
    | 0 => pmod m (x * x % m) f (e / 2)
    | _ => x * pmod m (x * x % m) f (e / 2) % m)
theorem pmod_eq (m : Nat) : ∀ (f x e : Nat), e < 2 ^ f → pmod m x f e = x ^ e % m
  | 0, x, e, h => by
    have : e = 0 := by simpa using h
    subst this; rfl
  | f + 1, x, e, h => by
    have ih := pmod_eq m f (x * x % m) (e / 2) (by rw [Nat.pow_succ] at h; omega)
    have h2 : (x * x % m) ^ (e / 2) % m = x ^ (2 * (e / 2)) % m := by
      rw [← Nat.pow_mod, Nat.pow_mul, Nat.pow_two]
    unfold pmod
    rcases Nat.mod_two_eq_zero_or_one e with h0 | h1
    · rw [h0]
      show pmod m (x * x % m) f (e / 2) = _
      rw [ih, h2, show 2 * (e / 2) = e by omega]
    · rw [h1]
      show x * pmod m (x * x % m) f (e / 2) % m = _
      rw [ih, h2, Nat.mul_mod, Nat.mod_mod, ← Nat.mul_mod, ← Nat.pow_succ', show (2 * (e / 2)).succ = e by omega]
theorem pow_fuel : (2 : Nat) ^ 384 = RR := by kernel_rfl
theorem QN_lt : QN < RR := by decide
theorem powN_q (x : Nat) : powN x QN = pmod pN x 384 QN := (pmod_eq pN 384 x QN (by rw [pow_fuel]; exact QN_lt)).symm
theorem q4 : pmod pN 4 384 QN = 4002409555221667393417789825735904156556882819939007885332058136124031650490837864442687629129015664037894272559785 := by kernel_rfl
theorem q0 : pmod pN 0 384 QN = 0 := by kernel_rfl
theorem qm : (Nat.beq (mulN (pmod pN (negN 1) 384 QN) (pmod pN (negN 1) 384 QN)) (negN 1 % pN)) = false := by kernel_rfl
theorem isSqN_4 : isSqN 4 = true := by unfold isSqN; rw [powN_q, q4]; kernel_rfl
theorem isSqN_0 : isSqN 0 = true := by unfold isSqN; rw [powN_q, q0]; kernel_rfl
theorem isSqN_m : isSqN (negN 1) = false := by
  unfold isSqN
  rw [powN_q]
  refine decide_eq_false fun h => ?_
  have := qm
  rw [h, Nat.beq_refl] at this
  cases this
theorem rootN_4 : rootN 4 = 2 := by unfold rootN; rw [if_pos isSqN_4, powN_q, q4]; kernel_rfl
theorem rootN_0 : rootN 0 = 0 := by unfold rootN; rw [if_pos isSqN_0, powN_q, q0]; kernel_rfl
noncomputable def aw5C : List (Bool × Bool) := [(decide (rootN 4 = 2), true), (isSqN 4, true), (!isSqN (negN 1), true), (decide (rootN 0 = 0), true), (isSqN 0, true), (decide (signN 3 = 1), true), (!biggerN 1, true)]
theorem aw5_run : pureRun Try.prog (orc S18 K0) Try.f26 [] [true, true, true, true, true, true, true] 100 = some (aw5C, boolA (biggerN (negN 1))) := by kernel_rfl
theorem aw5_ok : PureOk Try.prog 26 [] (.val false [.b true]) := by
  refine pure_val (pure_ok (orc_ok S18ok K0ok) mixed Try.func26 aw5_run ?_ rfl) fun u h => ?_
  · refine ⟨by rw [rootN_4]; rfl, isSqN_4, by rw [isSqN_m]; rfl, by rw [rootN_0]; rfl, isSqN_0, by kernel_rfl, by kernel_rfl, trivial⟩
  · obtain ⟨l1, l2, ⟨h1, _⟩, h3, h4⟩ := h
    exact ⟨l1, l2, h1.trans (congrArg (fun b => [Value.bool b]) (by kernel_rfl)), h3, h4⟩
noncomputable def S19 : List (FuncId × ASpec) := (26, pureSpec fun args => match args with | [] => some (.val false [.b true]) | _ => none) :: S18
theorem S19ok : SpecsOk Try.prog S19 := ⟨pureSpec_ok Try.func26 (by kernel_rfl) (by kernel_rfl) (sp0_ok aw5_ok fun u h => h), S18ok⟩
end Go.Proofs.Ytoemaicabljpfaa
