/- Sums of multiples hang on no brackets: sigillaw12.G1Brackets answers true for every input. No conditions. -/
import Derived.Test.YtoemaicabljpfaaPC
import Derived.Test.YtoemaicabljpfaaMb
import Derived.OpenShut
namespace Go.Proofs.Ytoemaicabljpfaa.g1BracketsLaw
open Ex
set_option maxRecDepth 100000
theorem lifted (os : Os) (started : os.Started) (H : Type) (enc : TypeId × Value → H) :
    ReturnsInHanded {} Try.checked os 20 .any (Rows.g1BracketsSpec.pre6 enc Try.prog Try.f20 Rows.g1BracketsRow.domain false) (Rows.g1BracketsSpec.post enc Try.prog Try.f20 false true false false) :=
  law_lift (C := Try.checked) own started (by kernel_rfl) Try.func20
    (ChangeSpec.witness6 (enc := enc) (C := Try.checked) false ⟨#[], #[.int .u64 0, .int .u64 0, .int .u64 0], []⟩ 8 (by kernel_rfl) (by kernel_rfl) (by kernel_rfl) (by kernel_rfl))
    ⟨rfl, fun H ds h => by
      have h' : ds.length = 3 := h
      obtain ⟨a, b, c, rfl⟩ := len3 h'; exact ⟨rfl, rfl, rfl⟩⟩ (by kernel_rfl) (by kernel_rfl) under_bool laidOut (by kernel_rfl) g1Brackets_walk
theorem over : Rows.g1BracketsRow.holds Try.pinned (OpenSpec.ofChange Rows.g1BracketsSpec) :=
  OpenClaim.holds_of_wide 20 Try.f20 rfl rfl rfl rfl rfl rfl rfl ⟨rfl, rfl, rfl, rfl, rfl⟩ rfl rfl rfl rfl rfl (by kernel_rfl) Try.func20 (by kernel_rfl)
    (of_decide_eq_true (by kernel_rfl)) (by unfold Func.isWrapper; rw [if_neg (of_decide_eq_false (by kernel_rfl))]; exact ⟨rfl, rfl⟩)
    (fun os started H enc _ => lifted os started H enc)
/-- The statement. -/
theorem proved : Rows.G1BracketsSaid := over
end Go.Proofs.Ytoemaicabljpfaa.g1BracketsLaw
