/- The contracts of fproot.Sqrt and fproot.Is. -/
import Derived.Test.YtoemaicabljpfaaFj
namespace Go.Proofs.Ytoemaicabljpfaa
open Ex
set_option maxRecDepth 100000

theorem sqrt_no (a : Nat) : pureRun Try.prog (orc S13 K0) Try.f28 [num6 a] [true] 300 = some ([(true, true), (true, true), (!decide (mulN (sqW a) (sqW a) = a % pN), true)], .tup [(true, zero6), (false, [.b false])]) := by kernel_rfl
theorem sqrt_yes (a : Nat) : pureRun Try.prog (orc S13 K0) Try.f28 [num6 a] [false] 300 = some ([(true, true), (true, true), (!decide (mulN (sqW a) (sqW a) = a % pN), false)], .tup [(true, [.num 6 (evenN (sqW a))]), (false, [.b true])]) := by kernel_rfl
noncomputable def isSqN (a : Nat) : Bool := decide (mulN (powN a QN) (powN a QN) = a % pN)
noncomputable def rootN (a : Nat) : Nat := if isSqN a = true then evenN (powN a QN) else 0
theorem sqW_eq (a : Nat) : sqW a = powN a QN := by unfold sqW; rw [natL_num6 (by decide)]
noncomputable def sqrtA (a : Nat) : AV := .tup [(true, [.num 6 (rootN a)]), (false, [.v (.bool (isSqN a))])]
theorem pure_val {P : Program} {f : FuncId} {args : List AV} {v v' : AV} (h : PureOk P f args v) (hv : ∀ u, relA noEnv v u → relA noEnv v' u) : PureOk P f args v' :=
  fun us w a => Calls.mono (h us w a) fun _ _ ⟨u, q1, q2, q3⟩ => ⟨u, q1, hv u q2, q3⟩
theorem bv_one {b b' : Bool} {u : Value} (e : b = b') (h : relG noEnv false [.b b] u) : relG noEnv false [.v (.bool b')] u := by
  subst e
  obtain ⟨l1, l2, p1, p2, p3⟩ := h
  exact ⟨l1, l2, ⟨p1, rfl, trivial⟩, p2, p3⟩
theorem sqrt_ok (a : Nat) : PureOk Try.prog 28 [num6 a] (sqrtA a) := by
  by_cases h : isSqN a = true
  · have h1 := pure_ok (orc_ok S13ok K0ok) mixed Try.func28 (sqrt_yes a) ⟨rfl, rfl, by rw [sqW_eq]; unfold isSqN at h; rw [h]; rfl, trivial⟩ rfl
    refine pure_val h1 ?_
    rintro u ⟨us, ⟨u1, l1, q1, ⟨u2, l2, q2, q3, rfl⟩, rfl⟩, rfl⟩
    refine ⟨_, ⟨u1, _, ?_, ⟨u2, l2, bv_one h.symm q2, q3, rfl⟩, rfl⟩, rfl⟩
    unfold rootN; rw [if_pos h, ← sqW_eq]; exact q1
  · have h0 : isSqN a = false := by simpa using h
    have h1 := pure_ok (orc_ok S13ok K0ok) mixed Try.func28 (sqrt_no a) ⟨rfl, rfl, by rw [sqW_eq]; unfold isSqN at h0; rw [h0]; rfl, trivial⟩ rfl
    refine pure_val h1 ?_
    rintro u ⟨us, ⟨u1, l1, q1, ⟨u2, l2, q2, q3, rfl⟩, rfl⟩, rfl⟩
    refine ⟨_, ⟨u1, _, ?_, ⟨u2, l2, bv_one h0.symm q2, q3, rfl⟩, rfl⟩, rfl⟩
    unfold rootN; rw [if_neg h]
    exact num6_of (by kernel_rfl) q1
noncomputable def S14 : List (FuncId × ASpec) := (28, pureSpec (sp1 sqrtA)) :: S13
theorem S14ok : SpecsOk Try.prog S14 := ⟨pureSpec_ok Try.func28 (by kernel_rfl) (by kernel_rfl) (sp1_ok fun x _ => sqrt_ok x), S13ok⟩
theorem is_run (a : Nat) : pureRun Try.prog (orc S14 K0) Try.f31 [num6 a] [] 300 = some ([], boolA (isSqN a)) := by kernel_rfl
theorem is_ok (a : Nat) : PureOk Try.prog 31 [num6 a] (boolA (isSqN a)) := pure_ok (orc_ok S14ok K0ok) mixed Try.func31 (is_run a) trivial rfl
noncomputable def S15 : List (FuncId × ASpec) := (31, pureSpec (sp1 fun x => boolA (isSqN x))) :: S14
theorem S15ok : SpecsOk Try.prog S15 := ⟨pureSpec_ok Try.func31 (by kernel_rfl) (by kernel_rfl) (sp1_ok fun x _ => is_ok x), S14ok⟩
end Go.Proofs.Ytoemaicabljpfaa
