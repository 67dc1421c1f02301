/- Any point's bytes are what the document says, or its error: sigillaw20.CodecEncodes1 answers true for every input. No conditions. -/
import Derived.Test.YtbijmogakghliaaGreatPC
import Derived.Test.YtbijmogakghliaaGreatMh
import Derived.OpenShut
namespace Go.Proofs.YtbijmogakghliaaGreat.codecEncodes1Law
open Ex
set_option maxRecDepth 100000
theorem lifted (os : Os) (started : os.Started) (H : Type) (enc : TypeId × Value → H) :
    ReturnsInHanded {} Tryz.checked os 3 .any (Rows.codecEncodes1Spec.pre6 enc Tryz.prog Tryz.f3 Rows.codecEncodes1Row.domain false) (Rows.codecEncodes1Spec.post enc Tryz.prog Tryz.f3 false true false false) :=
  law_lift (C := Tryz.checked) own started (by kernel_rfl) Tryz.func3
    (ChangeSpec.witness6 (enc := enc) (C := Tryz.checked) false ⟨#[], #[.agg #[.int .u64 0, .int .u64 0, .int .u64 0, .int .u64 0, .int .u64 0, .int .u64 0, .int .u64 0, .int .u64 0, .int .u64 0, .int .u64 0, .int .u64 0, .int .u64 0, .bool false], .bool false], []⟩ 8 (by kernel_rfl) (by kernel_rfl) (by kernel_rfl) (by kernel_rfl))
    ⟨rfl, fun H ds h => by
      have h' : ds.length = 2 := h
      obtain ⟨a, b, rfl⟩ := len2 h'; exact ⟨rfl, rfl, rfl⟩⟩ (by kernel_rfl) (by kernel_rfl) under_bool laidOut (by kernel_rfl) codecEncodes1_walk
theorem over : Rows.codecEncodes1Row.holds Tryz.pinned (OpenSpec.ofChange Rows.codecEncodes1Spec) :=
  OpenClaim.holds_of_wide 3 Tryz.f3 rfl rfl rfl rfl rfl rfl rfl ⟨rfl, rfl, rfl, rfl, rfl⟩ rfl rfl rfl rfl rfl (by kernel_rfl) Tryz.func3 (by kernel_rfl)
    (of_decide_eq_true (by kernel_rfl)) (by unfold Func.isWrapper; rw [if_neg (of_decide_eq_false (by kernel_rfl))]; exact ⟨rfl, rfl⟩)
    (fun os started H enc _ => lifted os started H enc)
/-- The statement. -/
theorem proved : Rows.CodecEncodes1Said := over
end Go.Proofs.YtbijmogakghliaaGreat.codecEncodes1Law
