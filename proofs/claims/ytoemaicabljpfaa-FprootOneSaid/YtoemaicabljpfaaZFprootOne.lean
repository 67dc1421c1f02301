/- Of a number but 0 and its opposite just one is a square: sigillaw05.FprootOne answers true for every input. No conditions. -/
import Derived.Test.YtoemaicabljpfaaLa
import Derived.Test.YtoemaicabljpfaaFr
import Derived.OpenShut
namespace Go.Proofs.Ytoemaicabljpfaa.fprootOneLaw
open Ex
set_option maxRecDepth 100000
theorem lifted (os : Os) (started : os.Started) (H : Type) (enc : TypeId × Value → H) :
    ReturnsInHanded {} Try.checked os 4 .any (Rows.fprootOneSpec.pre6 enc Try.prog Try.f4 Rows.fprootOneRow.domain false) (Rows.fprootOneSpec.post enc Try.prog Try.f4 false true false false) :=
  law_lift (C := Try.checked) own started (by kernel_rfl) Try.func4
    (ChangeSpec.witness6 (enc := enc) (C := Try.checked) false ⟨#[], #[.agg #[.int .u64 0, .int .u64 0, .int .u64 0, .int .u64 0, .int .u64 0, .int .u64 0]], []⟩ 8 (by kernel_rfl) (by kernel_rfl) (by kernel_rfl) (by kernel_rfl))
    ⟨rfl, fun H ds h => by
      have h' : ds.length = 1 := h
      obtain ⟨a, rfl⟩ := List.length_eq_one_iff.1 h'; exact ⟨rfl, rfl, rfl⟩⟩ (by kernel_rfl) (by kernel_rfl) under_bool laidOut (by kernel_rfl) fprootOne_walk
theorem over : Rows.fprootOneRow.holds Try.pinned (OpenSpec.ofChange Rows.fprootOneSpec) :=
  OpenClaim.holds_of_wide 4 Try.f4 rfl rfl rfl rfl rfl rfl rfl ⟨rfl, rfl, rfl, rfl, rfl⟩ rfl rfl rfl rfl rfl (by kernel_rfl) Try.func4 (by kernel_rfl)
    (of_decide_eq_true (by kernel_rfl)) (by unfold Func.isWrapper; rw [if_neg (of_decide_eq_false (by kernel_rfl))]; exact ⟨rfl, rfl⟩)
    (fun os started H enc _ => lifted os started H enc)
/-- The statement. -/
theorem proved : Rows.FprootOneSaid := over
end Go.Proofs.Ytoemaicabljpfaa.fprootOneLaw
