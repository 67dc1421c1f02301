/- Any product, and an inverse, is what the document says: sigillaw04.FpProducts answers true for every input. No conditions. -/
import Derived.Test.YtihgefbjegdinaaPC
import Derived.Test.YtihgefbjegdinaaLu
import Derived.OpenShut
namespace Go.Proofs.Ytihgefbjegdinaa.fpProductsLaw
open Ex
set_option maxRecDepth 100000
theorem lifted (os : Os) (started : os.Started) (H : Type) (enc : TypeId × Value → H) :
    ReturnsInHanded {} Try.checked os 11 .any (Rows.fpProductsSpec.pre6 enc Try.prog Try.f11 Rows.fpProductsRow.domain false) (Rows.fpProductsSpec.post enc Try.prog Try.f11 false true false false) :=
  law_lift (C := Try.checked) own started (by kernel_rfl) Try.func11
    (ChangeSpec.witness6 (enc := enc) (C := Try.checked) false ⟨#[], #[.agg #[.int .u64 0, .int .u64 0, .int .u64 0, .int .u64 0, .int .u64 0, .int .u64 0], .agg #[.int .u64 0, .int .u64 0, .int .u64 0, .int .u64 0, .int .u64 0, .int .u64 0]], []⟩ 8 (by kernel_rfl) (by kernel_rfl) (by kernel_rfl) (by kernel_rfl))
    ⟨rfl, fun H ds h => by
      have h' : ds.length = 2 := h
      obtain ⟨a, b, rfl⟩ := len2 h'; exact ⟨rfl, rfl, rfl⟩⟩ (by kernel_rfl) (by kernel_rfl) under_bool laidOut (by kernel_rfl) fpProducts_walk
theorem over : Rows.fpProductsRow.holds Try.pinned (OpenSpec.ofChange Rows.fpProductsSpec) :=
  OpenClaim.holds_of_wide 11 Try.f11 rfl rfl rfl rfl rfl rfl rfl ⟨rfl, rfl, rfl, rfl, rfl⟩ rfl rfl rfl rfl rfl (by kernel_rfl) Try.func11 (by kernel_rfl)
    (of_decide_eq_true (by kernel_rfl)) (by unfold Func.isWrapper; rw [if_neg (of_decide_eq_false (by kernel_rfl))]; exact ⟨rfl, rfl⟩)
    (fun os started H enc _ => lifted os started H enc)
/-- The statement. -/
theorem proved : Rows.FpProductsSaid := over
end Go.Proofs.Ytihgefbjegdinaa.fpProductsLaw
