/- One time more is the point more; a multiple of a multiple; no time: sigillaw12.G1Steps answers true for every input. No conditions. -/
import Derived.Test.YtoemaicabljpfaaPC
import Derived.Test.YtoemaicabljpfaaMd
import Derived.OpenShut
namespace Go.Proofs.Ytoemaicabljpfaa.g1StepsLaw
open Ex
set_option maxRecDepth 100000
theorem lifted (os : Os) (started : os.Started) (H : Type) (enc : TypeId × Value → H) :
    ReturnsInHanded {} Try.checked os 21 .any (Rows.g1StepsSpec.pre6 enc Try.prog Try.f21 Rows.g1StepsRow.domain false) (Rows.g1StepsSpec.post enc Try.prog Try.f21 false true false false) :=
  law_lift (C := Try.checked) own started (by kernel_rfl) Try.func21
    (ChangeSpec.witness6 (enc := enc) (C := Try.checked) false ⟨#[], #[.agg #[.int .u64 0, .int .u64 0, .int .u64 0, .int .u64 0, .int .u64 0, .int .u64 0, .int .u64 0, .int .u64 0, .int .u64 0, .int .u64 0, .int .u64 0, .int .u64 0, .bool false], .int .u64 0, .int .u64 0], []⟩ 8 (by kernel_rfl) (by kernel_rfl) (by kernel_rfl) (by kernel_rfl))
    ⟨rfl, fun H ds h => by
      have h' : ds.length = 3 := h
      obtain ⟨a, b, c, rfl⟩ := len3 h'; exact ⟨rfl, rfl, rfl⟩⟩ (by kernel_rfl) (by kernel_rfl) under_bool laidOut (by kernel_rfl) g1Steps_walk
theorem over : Rows.g1StepsRow.holds Try.pinned (OpenSpec.ofChange Rows.g1StepsSpec) :=
  OpenClaim.holds_of_wide 21 Try.f21 rfl rfl rfl rfl rfl rfl rfl ⟨rfl, rfl, rfl, rfl, rfl⟩ rfl rfl rfl rfl rfl (by kernel_rfl) Try.func21 (by kernel_rfl)
    (of_decide_eq_true (by kernel_rfl)) (by unfold Func.isWrapper; rw [if_neg (of_decide_eq_false (by kernel_rfl))]; exact ⟨rfl, rfl⟩)
    (fun os started H enc _ => lifted os started H enc)
/-- The statement. -/
theorem proved : Rows.G1StepsSaid := over
end Go.Proofs.Ytoemaicabljpfaa.g1StepsLaw
