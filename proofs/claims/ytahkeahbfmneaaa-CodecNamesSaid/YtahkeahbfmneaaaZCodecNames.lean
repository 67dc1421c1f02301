/- Numbers are the document's: sigillaw20.CodecNames answers true. No conditions. -/
import Derived.Test.YtahkeahbfmneaaaPC
import Derived.Test.YtahkeahbfmneaaaMe
import Derived.OpenShut
namespace Go.Proofs.Ytahkeahbfmneaaa.codecNamesLaw
open Ex
set_option maxRecDepth 100000
theorem lifted (os : Os) (started : os.Started) (H : Type) (enc : TypeId × Value → H) :
    ReturnsInHanded {} Try.checked os 3 .any (Rows.codecNamesSpec.pre6 enc Try.prog Try.f3 Rows.codecNamesRow.domain false) (Rows.codecNamesSpec.post enc Try.prog Try.f3 false true false false) :=
  law_lift (C := Try.checked) own started (by kernel_rfl) Try.func3
    (ChangeSpec.witness6 (enc := enc) (C := Try.checked) false ⟨#[], #[], []⟩ 8 (by kernel_rfl) (by kernel_rfl) (by kernel_rfl) (by kernel_rfl))
    ⟨rfl, fun H ds h => by
      have h' : ds.length = 0 := h
      obtain rfl := List.length_eq_zero_iff.1 h'; exact ⟨rfl, rfl, rfl⟩⟩ (by kernel_rfl) (by kernel_rfl) under_bool laidOut (by kernel_rfl) codecNames_walk
theorem over : Rows.codecNamesRow.holds Try.pinned (OpenSpec.ofChange Rows.codecNamesSpec) :=
  OpenClaim.holds_of_wide 3 Try.f3 rfl rfl rfl rfl rfl rfl rfl ⟨rfl, rfl, rfl, rfl, rfl⟩ rfl rfl rfl rfl rfl (by kernel_rfl) Try.func3 (by kernel_rfl)
    (of_decide_eq_true (by kernel_rfl)) (by unfold Func.isWrapper; rw [if_neg (of_decide_eq_false (by kernel_rfl))]; exact ⟨rfl, rfl⟩)
    (fun os started H enc _ => lifted os started H enc)
/-- The statement. -/
theorem proved : Rows.CodecNamesSaid := over
end Go.Proofs.Ytahkeahbfmneaaa.codecNamesLaw
