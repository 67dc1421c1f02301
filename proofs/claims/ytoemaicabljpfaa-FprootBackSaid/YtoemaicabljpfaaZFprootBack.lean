/- A number's square has it, or its opposite, as its root, whichever is even: sigillaw05.FprootBack answers true for every input. No conditions. -/
import Derived.Test.YtoemaicabljpfaaLa
import Derived.Test.YtoemaicabljpfaaFr
import Derived.OpenShut
namespace Go.Proofs.Ytoemaicabljpfaa.fprootBackLaw
open Ex
set_option maxRecDepth 100000
theorem lifted (os : Os) (started : os.Started) (H : Type) (enc : TypeId × Value → H) :
    ReturnsInHanded {} Try.checked os 3 .any (Rows.fprootBackSpec.pre6 enc Try.prog Try.f3 Rows.fprootBackRow.domain false) (Rows.fprootBackSpec.post enc Try.prog Try.f3 false true false false) :=
  law_lift (C := Try.checked) own started (by kernel_rfl) Try.func3
    (ChangeSpec.witness6 (enc := enc) (C := Try.checked) false ⟨#[], #[.agg #[.int .u64 0, .int .u64 0, .int .u64 0, .int .u64 0, .int .u64 0, .int .u64 0]], []⟩ 8 (by kernel_rfl) (by kernel_rfl) (by kernel_rfl) (by kernel_rfl))
    ⟨rfl, fun H ds h => by
      have h' : ds.length = 1 := h
      obtain ⟨a, rfl⟩ := List.length_eq_one_iff.1 h'; exact ⟨rfl, rfl, rfl⟩⟩ (by kernel_rfl) (by kernel_rfl) under_bool laidOut (by kernel_rfl) fprootBack_walk
theorem over : Rows.fprootBackRow.holds Try.pinned (OpenSpec.ofChange Rows.fprootBackSpec) :=
  OpenClaim.holds_of_wide 3 Try.f3 rfl rfl rfl rfl rfl rfl rfl ⟨rfl, rfl, rfl, rfl, rfl⟩ rfl rfl rfl rfl rfl (by kernel_rfl) Try.func3 (by kernel_rfl)
    (of_decide_eq_true (by kernel_rfl)) (by unfold Func.isWrapper; rw [if_neg (of_decide_eq_false (by kernel_rfl))]; exact ⟨rfl, rfl⟩)
    (fun os started H enc _ => lifted os started H enc)
/-- The statement. -/
theorem proved : Rows.FprootBackSaid := over
end Go.Proofs.Ytoemaicabljpfaa.fprootBackLaw
