/- Points, each so many times, added, are what the document says, or its error: sigillaw12.G1Sums answers true for every input. No conditions. -/
import Derived.Test.YtccmbnbphianbaaPC
import Derived.Test.YtccmbnbphianbaaMj
import Derived.OpenShut
namespace Go.Proofs.Ytccmbnbphianbaa.g1SumsLaw
open Ex
set_option maxRecDepth 100000
theorem lifted (os : Os) (started : os.Started) (H : Type) (enc : TypeId × Value → H) :
    ReturnsInHanded {} Try.checked os 3 .any (Rows.g1SumsSpec.pre6 enc Try.prog Try.f3 Rows.g1SumsRow.domain false) (Rows.g1SumsSpec.post enc Try.prog Try.f3 false true false false) :=
  law_lift (C := Try.checked) own started (by kernel_rfl) Try.func3
    (ChangeSpec.witness6 (enc := enc) (C := Try.checked) false ⟨#[], #[.slice none 0 0, .slice none 0 0], []⟩ 8 (by kernel_rfl) (by kernel_rfl) (by kernel_rfl) (by kernel_rfl))
    ⟨rfl, fun H ds h => by
      have h' : ds.length = 2 := h
      obtain ⟨a, b, rfl⟩ := len2 h'; exact ⟨rfl, rfl, rfl⟩⟩ (by kernel_rfl) (by kernel_rfl) under_bool laidOut (by kernel_rfl) g1Sums_walk
theorem over : Rows.g1SumsRow.holds Try.pinned (OpenSpec.ofChange Rows.g1SumsSpec) :=
  OpenClaim.holds_of_wide 3 Try.f3 rfl rfl rfl rfl rfl rfl rfl ⟨rfl, rfl, rfl, rfl, rfl⟩ rfl rfl rfl rfl rfl (by kernel_rfl) Try.func3 (by kernel_rfl)
    (of_decide_eq_true (by kernel_rfl)) (by unfold Func.isWrapper; rw [if_neg (of_decide_eq_false (by kernel_rfl))]; exact ⟨rfl, rfl⟩)
    (fun os started H enc _ => lifted os started H enc)
/-- The statement. -/
theorem proved : Rows.G1SumsSaid := over
end Go.Proofs.Ytccmbnbphianbaa.g1SumsLaw
