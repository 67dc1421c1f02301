/- Any point's bytes, of the twisted curve, are what the document says, or its error: sigillaw20.CodecEncodes2 answers true for every input. No conditions. -/
import Derived.Test.YtbijmogakghliaaGreatPC
import Derived.Test.YtbijmogakghliaaGreatMh
import Derived.OpenShut
namespace Go.Proofs.YtbijmogakghliaaGreat.codecEncodes2Law
open Ex
set_option maxRecDepth 100000
theorem lifted (os : Os) (started : os.Started) (H : Type) (enc : TypeId × Value → H) :
    ReturnsInHanded {} Tryz.checked os 5 .any (Rows.codecEncodes2Spec.pre6 enc Tryz.prog Tryz.f5 Rows.codecEncodes2Row.domain false) (Rows.codecEncodes2Spec.post enc Tryz.prog Tryz.f5 false true false false) :=
  law_lift (C := Tryz.checked) own started (by kernel_rfl) Tryz.func5
    (ChangeSpec.witness6 (enc := enc) (C := Tryz.checked) false ⟨#[], #[.agg #[.int .u64 0, .int .u64 0, .int .u64 0, .int .u64 0, .int .u64 0, .int .u64 0, .int .u64 0, .int .u64 0, .int .u64 0, .int .u64 0, .int .u64 0, .int .u64 0, .int .u64 0, .int .u64 0, .int .u64 0, .int .u64 0, .int .u64 0, .int .u64 0, .int .u64 0, .int .u64 0, .int .u64 0, .int .u64 0, .int .u64 0, .int .u64 0, .bool false], .bool false], []⟩ 8 (by kernel_rfl) (by kernel_rfl) (by kernel_rfl) (by kernel_rfl))
    ⟨rfl, fun H ds h => by
      have h' : ds.length = 2 := h
      obtain ⟨a, b, rfl⟩ := len2 h'; exact ⟨rfl, rfl, rfl⟩⟩ (by kernel_rfl) (by kernel_rfl) under_bool laidOut (by kernel_rfl) codecEncodes2_walk
theorem over : Rows.codecEncodes2Row.holds Tryz.pinned (OpenSpec.ofChange Rows.codecEncodes2Spec) :=
  OpenClaim.holds_of_wide 5 Tryz.f5 rfl rfl rfl rfl rfl rfl rfl ⟨rfl, rfl, rfl, rfl, rfl⟩ rfl rfl rfl rfl rfl (by kernel_rfl) Tryz.func5 (by kernel_rfl)
    (of_decide_eq_true (by kernel_rfl)) (by unfold Func.isWrapper; rw [if_neg (of_decide_eq_false (by kernel_rfl))]; exact ⟨rfl, rfl⟩)
    (fun os started H enc _ => lifted os started H enc)
/-- The statement. -/
theorem proved : Rows.CodecEncodes2Said := over
end Go.Proofs.YtbijmogakghliaaGreat.codecEncodes2Law
