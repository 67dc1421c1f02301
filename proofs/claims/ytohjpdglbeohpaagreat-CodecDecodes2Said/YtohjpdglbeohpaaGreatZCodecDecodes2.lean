/- The point of any bytes is what the document says, or its error, of the twisted curve: sigillaw20.CodecDecodes2 answers true for every input. No conditions. -/
import Derived.Test.YtohjpdglbeohpaaGreatPC
import Derived.Test.YtohjpdglbeohpaaGreatMi
import Derived.OpenShut
namespace Go.Proofs.YtohjpdglbeohpaaGreat.codecDecodes2Law
open Ex
set_option maxRecDepth 100000
theorem lifted (os : Os) (started : os.Started) (H : Type) (enc : TypeId × Value → H) :
    ReturnsInHanded {} Tryz.checked os 6 .any (Rows.codecDecodes2Spec.pre6 enc Tryz.prog Tryz.f6 Rows.codecDecodes2Row.domain false) (Rows.codecDecodes2Spec.post enc Tryz.prog Tryz.f6 false true false false) :=
  law_lift (C := Tryz.checked) own started (by kernel_rfl) Tryz.func6
    (ChangeSpec.witness6 (enc := enc) (C := Tryz.checked) false ⟨#[], #[.slice none 0 0, .bool false], []⟩ 8 (by kernel_rfl) (by kernel_rfl) (by kernel_rfl) (by kernel_rfl))
    ⟨rfl, fun H ds h => by
      have h' : ds.length = 2 := h
      obtain ⟨a, b, rfl⟩ := len2 h'; exact ⟨rfl, rfl, rfl⟩⟩ (by kernel_rfl) (by kernel_rfl) under_bool laidOut (by kernel_rfl) codecDecodes2_walk
theorem over : Rows.codecDecodes2Row.holds Tryz.pinned (OpenSpec.ofChange Rows.codecDecodes2Spec) :=
  OpenClaim.holds_of_wide 6 Tryz.f6 rfl rfl rfl rfl rfl rfl rfl ⟨rfl, rfl, rfl, rfl, rfl⟩ rfl rfl rfl rfl rfl (by kernel_rfl) Tryz.func6 (by kernel_rfl)
    (of_decide_eq_true (by kernel_rfl)) (by unfold Func.isWrapper; rw [if_neg (of_decide_eq_false (by kernel_rfl))]; exact ⟨rfl, rfl⟩)
    (fun os started H enc _ => lifted os started H enc)
/-- The statement. -/
theorem proved : Rows.CodecDecodes2Said := over
end Go.Proofs.YtohjpdglbeohpaaGreat.codecDecodes2Law
