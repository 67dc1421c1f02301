/- Opposites' short bytes are one but for a flag: sigillaw20.CodecTurns1 answers true for every input. No conditions. -/
import Derived.Test.YtahkeahbfmneaaaPC
import Derived.Test.YtahkeahbfmneaaaMe
import Derived.OpenShut
namespace Go.Proofs.Ytahkeahbfmneaaa.codecTurns1Law
open Ex
set_option maxRecDepth 100000
theorem lifted (os : Os) (started : os.Started) (H : Type) (enc : TypeId × Value → H) :
    ReturnsInHanded {} Try.checked os 6 .any (Rows.codecTurns1Spec.pre6 enc Try.prog Try.f6 Rows.codecTurns1Row.domain false) (Rows.codecTurns1Spec.post enc Try.prog Try.f6 false true false false) :=
  law_lift (C := Try.checked) own started (by kernel_rfl) Try.func6
    (ChangeSpec.witness6 (enc := enc) (C := Try.checked) false ⟨#[], #[.agg #[.int .u64 0, .int .u64 0, .int .u64 0, .int .u64 0, .int .u64 0, .int .u64 0, .int .u64 0, .int .u64 0, .int .u64 0, .int .u64 0, .int .u64 0, .int .u64 0, .bool false]], []⟩ 8 (by kernel_rfl) (by kernel_rfl) (by kernel_rfl) (by kernel_rfl))
    ⟨rfl, fun H ds h => by
      have h' : ds.length = 1 := h
      obtain ⟨a, rfl⟩ := List.length_eq_one_iff.1 h'; exact ⟨rfl, rfl, rfl⟩⟩ (by kernel_rfl) (by kernel_rfl) under_bool laidOut (by kernel_rfl) codecTurns1_walk
theorem over : Rows.codecTurns1Row.holds Try.pinned (OpenSpec.ofChange Rows.codecTurns1Spec) :=
  OpenClaim.holds_of_wide 6 Try.f6 rfl rfl rfl rfl rfl rfl rfl ⟨rfl, rfl, rfl, rfl, rfl⟩ rfl rfl rfl rfl rfl (by kernel_rfl) Try.func6 (by kernel_rfl)
    (of_decide_eq_true (by kernel_rfl)) (by unfold Func.isWrapper; rw [if_neg (of_decide_eq_false (by kernel_rfl))]; exact ⟨rfl, rfl⟩)
    (fun os started H enc _ => lifted os started H enc)
/-- The statement. -/
theorem proved : Rows.CodecTurns1Said := over
end Go.Proofs.Ytahkeahbfmneaaa.codecTurns1Law
