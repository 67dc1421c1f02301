/- The point of any bytes is what the document says, or its error: sigillaw20.CodecDecodes1 answers true for every input. No conditions. -/
import Derived.Test.YtohjpdglbeohpaaGreatPC
import Derived.Test.YtohjpdglbeohpaaGreatMi
import Derived.OpenShut
namespace Go.Proofs.YtohjpdglbeohpaaGreat.codecDecodes1Law
open Ex
set_option maxRecDepth 100000
theorem lifted (os : Os) (started : os.Started) (H : Type) (enc : TypeId × Value → H) :
    ReturnsInHanded {} Tryz.checked os 4 .any (Rows.codecDecodes1Spec.pre6 enc Tryz.prog Tryz.f4 Rows.codecDecodes1Row.domain false) (Rows.codecDecodes1Spec.post enc Tryz.prog Tryz.f4 false true false false) :=
  law_lift (C := Tryz.checked) own started (by kernel_rfl) Tryz.func4
    (ChangeSpec.witness6 (enc := enc) (C := Tryz.checked) false ⟨#[], #[.slice none 0 0, .bool false], []⟩ 8 (by kernel_rfl) (by kernel_rfl) (by kernel_rfl) (by kernel_rfl))
    ⟨rfl, fun H ds h => by
      have h' : ds.length = 2 := h
      obtain ⟨a, b, rfl⟩ := len2 h'; exact ⟨rfl, rfl, rfl⟩⟩ (by kernel_rfl) (by kernel_rfl) under_bool laidOut (by kernel_rfl) codecDecodes1_walk
theorem over : Rows.codecDecodes1Row.holds Tryz.pinned (OpenSpec.ofChange Rows.codecDecodes1Spec) :=
  OpenClaim.holds_of_wide 4 Tryz.f4 rfl rfl rfl rfl rfl rfl rfl ⟨rfl, rfl, rfl, rfl, rfl⟩ rfl rfl rfl rfl rfl (by kernel_rfl) Tryz.func4 (by kernel_rfl)
    (of_decide_eq_true (by kernel_rfl)) (by unfold Func.isWrapper; rw [if_neg (of_decide_eq_false (by kernel_rfl))]; exact ⟨rfl, rfl⟩)
    (fun os started H enc _ => lifted os started H enc)
/-- The statement. -/
theorem proved : Rows.CodecDecodes1Said := over
end Go.Proofs.YtohjpdglbeohpaaGreat.codecDecodes1Law
