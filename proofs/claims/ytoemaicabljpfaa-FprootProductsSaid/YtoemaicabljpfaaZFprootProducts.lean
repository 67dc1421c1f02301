/- A product is a square just if both are, or none, or it is 0: sigillaw05.FprootProducts answers true for every input. No conditions. -/
import Derived.Test.YtoemaicabljpfaaLa
import Derived.Test.YtoemaicabljpfaaFr
import Derived.OpenShut
namespace Go.Proofs.Ytoemaicabljpfaa.fprootProductsLaw
open Ex
set_option maxRecDepth 100000
theorem lifted (os : Os) (started : os.Started) (H : Type) (enc : TypeId × Value → H) :
    ReturnsInHanded {} Try.checked os 5 .any (Rows.fprootProductsSpec.pre6 enc Try.prog Try.f5 Rows.fprootProductsRow.domain false) (Rows.fprootProductsSpec.post enc Try.prog Try.f5 false true false false) :=
  law_lift (C := Try.checked) own started (by kernel_rfl) Try.func5
    (ChangeSpec.witness6 (enc := enc) (C := Try.checked) false ⟨#[], #[.agg #[.int .u64 0, .int .u64 0, .int .u64 0, .int .u64 0, .int .u64 0, .int .u64 0], .agg #[.int .u64 0, .int .u64 0, .int .u64 0, .int .u64 0, .int .u64 0, .int .u64 0]], []⟩ 8 (by kernel_rfl) (by kernel_rfl) (by kernel_rfl) (by kernel_rfl))
    ⟨rfl, fun H ds h => by
      have h' : ds.length = 2 := h
      obtain ⟨a, b, rfl⟩ := len2 h'; exact ⟨rfl, rfl, rfl⟩⟩ (by kernel_rfl) (by kernel_rfl) under_bool laidOut (by kernel_rfl) fprootProducts_walk
theorem over : Rows.fprootProductsRow.holds Try.pinned (OpenSpec.ofChange Rows.fprootProductsSpec) :=
  OpenClaim.holds_of_wide 5 Try.f5 rfl rfl rfl rfl rfl rfl rfl ⟨rfl, rfl, rfl, rfl, rfl⟩ rfl rfl rfl rfl rfl (by kernel_rfl) Try.func5 (by kernel_rfl)
    (of_decide_eq_true (by kernel_rfl)) (by unfold Func.isWrapper; rw [if_neg (of_decide_eq_false (by kernel_rfl))]; exact ⟨rfl, rfl⟩)
    (fun os started H enc _ => lifted os started H enc)
/-- The statement. -/
theorem proved : Rows.FprootProductsSaid := over
end Go.Proofs.Ytoemaicabljpfaa.fprootProductsLaw
