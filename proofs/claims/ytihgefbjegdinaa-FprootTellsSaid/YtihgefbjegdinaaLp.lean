/- sigillaw05's awake. -/
import Derived.Test.YtihgefbjegdinaaPC
namespace Go.Proofs.Ytihgefbjegdinaa
open Ex
set_option maxRecDepth 100000

noncomputable def aw5C : List (Bool × Bool) := [(decide (rootN 4 = 2), true), (isSqN 4, true), (!isSqN (negN 1), true), (decide (rootN 0 = 0), true), (isSqN 0, true), (decide (signN 3 = 1), true), (!biggerN 1, true)]
theorem aw5_run : pureRun Try.prog (orc S18 K0) Try.f40 [] [true, true, true, true, true, true, true] 100 = some (aw5C, boolA (biggerN (negN 1))) := by kernel_rfl
theorem aw5_ok : PureOk Try.prog 40 [] (.val false [.b true]) := by
  refine pure_val (pure_ok (orc_ok S18ok K0ok) mixed Try.func40 aw5_run ?_ rfl) fun u h => ?_
  · refine ⟨by rw [rootN_4]; rfl, isSqN_4, by rw [isSqN_m]; rfl, by rw [rootN_0]; rfl, isSqN_0, by kernel_rfl, by kernel_rfl, trivial⟩
  · obtain ⟨l1, l2, ⟨h1, _⟩, h3, h4⟩ := h
    exact ⟨l1, l2, h1.trans (congrArg (fun b => [Value.bool b]) (by kernel_rfl)), h3, h4⟩
noncomputable def SL5 : List (FuncId × ASpec) := (40, pureSpec fun args => match args with | [] => some (.val false [.b true]) | _ => none) :: S18
theorem SL5ok : SpecsOk Try.prog SL5 := ⟨pureSpec_ok Try.func40 (by kernel_rfl) (by kernel_rfl) (sp0_ok aw5_ok fun u h => h), S18ok⟩
end Go.Proofs.Ytihgefbjegdinaa
