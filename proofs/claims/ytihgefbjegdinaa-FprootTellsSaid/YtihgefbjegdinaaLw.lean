/- sigillaw05.FprootTells: the law. -/
import Derived.Test.YtihgefbjegdinaaPD
import Derived.Test.YtihgefbjegdinaaLp
namespace Go.Proofs.Ytihgefbjegdinaa
open Ex Num
set_option maxRecDepth 100000

noncomputable def SL5b : List (FuncId × ASpec) := (40, pureSpec fun args => match args with | [] => some (.val false [.b true]) | _ => none) :: SE
theorem SL5bok : SpecsOk Try.prog SL5b := ⟨pureSpec_ok Try.func40 (by kernel_rfl) (by kernel_rfl) (sp0_ok aw5_ok fun u h => h), SEok⟩
theorem tells_run (a : Nat) : pureRun Try.prog (orc SL5b K0) Try.f10 [num6 a] [true, true, true, true] 300 =
  some ([(decide (rootN a = rootN a), true), (isSqN a == isSqN a, true), (isSqN a == isSqN a, true), (decide (signN a = signN a), true)], boolA (biggerN a == biggerN a)) := by kernel_rfl
theorem fprootTells_walk : LawWalk Try.prog 10 Try.f10 := fps_walk (n := 1) (by kernel_rfl) fun xs h _ => by
  obtain ⟨a, rfl⟩ := List.length_eq_one_iff.1 h
  exact bool_true (pure_ok (orc_ok SL5bok K0ok) mixed Try.func10 (tells_run a) ⟨decide_eq_true rfl, beq_self_eq_true _, beq_self_eq_true _, decide_eq_true rfl, trivial⟩ rfl) (beq_self_eq_true _)
end Go.Proofs.Ytihgefbjegdinaa
