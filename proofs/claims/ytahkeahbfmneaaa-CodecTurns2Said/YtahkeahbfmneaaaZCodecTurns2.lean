/- Opposites' short bytes are one but for a flag, of the twisted curve: sigillaw20.CodecTurns2 answers true for every input. No conditions. -/
import Derived.Test.YtahkeahbfmneaaaPC
import Derived.Test.YtahkeahbfmneaaaMe
import Derived.OpenShut
namespace Go.Proofs.Ytahkeahbfmneaaa.codecTurns2Law
open Ex
set_option maxRecDepth 100000
theorem lifted (os : Os) (started : os.Started) (H : Type) (enc : TypeId × Value → H) :
    ReturnsInHanded {} Try.checked os 7 .any (Rows.codecTurns2Spec.pre6 enc Try.prog Try.f7 Rows.codecTurns2Row.domain false) (Rows.codecTurns2Spec.post enc Try.prog Try.f7 false true false false) :=
  law_lift (C := Try.checked) own started (by kernel_rfl) Try.func7
    (ChangeSpec.witness6 (enc := enc) (C := Try.checked) false ⟨#[], #[.agg #[.int .u64 0, .int .u64 0, .int .u64 0, .int .u64 0, .int .u64 0, .int .u64 0, .int .u64 0, .int .u64 0, .int .u64 0, .int .u64 0, .int .u64 0, .int .u64 0, .int .u64 0, .int .u64 0, .int .u64 0, .int .u64 0, .int .u64 0, .int .u64 0, .int .u64 0, .int .u64 0, .int .u64 0, .int .u64 0, .int .u64 0, .int .u64 0, .bool false]], []⟩ 8 (by kernel_rfl) (by kernel_rfl) (by kernel_rfl) (by kernel_rfl))
    ⟨rfl, fun H ds h => by
      have h' : ds.length = 1 := h
      obtain ⟨a, rfl⟩ := List.length_eq_one_iff.1 h'; exact ⟨rfl, rfl, rfl⟩⟩ (by kernel_rfl) (by kernel_rfl) under_bool laidOut (by kernel_rfl) codecTurns2_walk
theorem over : Rows.codecTurns2Row.holds Try.pinned (OpenSpec.ofChange Rows.codecTurns2Spec) :=
  OpenClaim.holds_of_wide 7 Try.f7 rfl rfl rfl rfl rfl rfl rfl ⟨rfl, rfl, rfl, rfl, rfl⟩ rfl rfl rfl rfl rfl (by kernel_rfl) Try.func7 (by kernel_rfl)
    (of_decide_eq_true (by kernel_rfl)) (by unfold Func.isWrapper; rw [if_neg (of_decide_eq_false (by kernel_rfl))]; exact ⟨rfl, rfl⟩)
    (fun os started H enc _ => lifted os started H enc)
/-- The statement. -/
theorem proved : Rows.CodecTurns2Said := over
end Go.Proofs.Ytahkeahbfmneaaa.codecTurns2Law
