/- Bytes that are decoded are what the point is encoded as: sigillaw20.CodecBytes1 answers true for every input. No conditions. -/
import Derived.Test.YtahkeahbfmneaaaPC
import Derived.Test.YtahkeahbfmneaaaMf
import Derived.OpenShut
namespace Go.Proofs.Ytahkeahbfmneaaa.codecBytes1Law
open Ex
set_option maxRecDepth 100000
theorem lifted (os : Os) (started : os.Started) (H : Type) (enc : TypeId × Value → H) :
    ReturnsInHanded {} Try.checked os 5 .any (Rows.codecBytes1Spec.pre6 enc Try.prog Try.f5 Rows.codecBytes1Row.domain false) (Rows.codecBytes1Spec.post enc Try.prog Try.f5 false true false false) :=
  law_lift (C := Try.checked) own started (by kernel_rfl) Try.func5
    (ChangeSpec.witness6 (enc := enc) (C := Try.checked) false ⟨#[], #[.slice none 0 0, .bool false], []⟩ 8 (by kernel_rfl) (by kernel_rfl) (by kernel_rfl) (by kernel_rfl))
    ⟨rfl, fun H ds h => by
      have h' : ds.length = 2 := h
      obtain ⟨a, b, rfl⟩ := len2 h'; exact ⟨rfl, rfl, rfl⟩⟩ (by kernel_rfl) (by kernel_rfl) under_bool laidOut (by kernel_rfl) codecBytes1_walk
theorem over : Rows.codecBytes1Row.holds Try.pinned (OpenSpec.ofChange Rows.codecBytes1Spec) :=
  OpenClaim.holds_of_wide 5 Try.f5 rfl rfl rfl rfl rfl rfl rfl ⟨rfl, rfl, rfl, rfl, rfl⟩ rfl rfl rfl rfl rfl (by kernel_rfl) Try.func5 (by kernel_rfl)
    (of_decide_eq_true (by kernel_rfl)) (by unfold Func.isWrapper; rw [if_neg (of_decide_eq_false (by kernel_rfl))]; exact ⟨rfl, rfl⟩)
    (fun os started H enc _ => lifted os started H enc)
/-- The statement. -/
theorem proved : Rows.CodecBytes1Said := over
end Go.Proofs.Ytahkeahbfmneaaa.codecBytes1Law
