/- The numbers are a field: sigillaw04.FpField answers true for every input. No conditions. -/
import Derived.Test.YtihgefbjegdinaaPC
import Derived.Test.YtihgefbjegdinaaLu
import Derived.OpenShut
namespace Go.Proofs.Ytihgefbjegdinaa.fpFieldLaw
open Ex
set_option maxRecDepth 100000
theorem lifted (os : Os) (started : os.Started) (H : Type) (enc : TypeId × Value → H) :
    ReturnsInHanded {} Try.checked os 5 .any (Rows.fpFieldSpec.pre6 enc Try.prog Try.f5 Rows.fpFieldRow.domain false) (Rows.fpFieldSpec.post enc Try.prog Try.f5 false true false false) :=
  law_lift (C := Try.checked) own started (by kernel_rfl) Try.func5
    (ChangeSpec.witness6 (enc := enc) (C := Try.checked) false ⟨#[], #[.agg #[.int .u64 0, .int .u64 0, .int .u64 0, .int .u64 0, .int .u64 0, .int .u64 0], .agg #[.int .u64 0, .int .u64 0, .int .u64 0, .int .u64 0, .int .u64 0, .int .u64 0], .agg #[.int .u64 0, .int .u64 0, .int .u64 0, .int .u64 0, .int .u64 0, .int .u64 0]], []⟩ 8 (by kernel_rfl) (by kernel_rfl) (by kernel_rfl) (by kernel_rfl))
    ⟨rfl, fun H ds h => by
      have h' : ds.length = 3 := h
      obtain ⟨a, b, c, rfl⟩ := len3 h'; exact ⟨rfl, rfl, rfl⟩⟩ (by kernel_rfl) (by kernel_rfl) under_bool laidOut (by kernel_rfl) fpField_walk
theorem over : Rows.fpFieldRow.holds Try.pinned (OpenSpec.ofChange Rows.fpFieldSpec) :=
  OpenClaim.holds_of_wide 5 Try.f5 rfl rfl rfl rfl rfl rfl rfl ⟨rfl, rfl, rfl, rfl, rfl⟩ rfl rfl rfl rfl rfl (by kernel_rfl) Try.func5 (by kernel_rfl)
    (of_decide_eq_true (by kernel_rfl)) (by unfold Func.isWrapper; rw [if_neg (of_decide_eq_false (by kernel_rfl))]; exact ⟨rfl, rfl⟩)
    (fun os started H enc _ => lifted os started H enc)
/-- The statement. -/
theorem proved : Rows.FpFieldSaid := over
end Go.Proofs.Ytihgefbjegdinaa.fpFieldLaw
