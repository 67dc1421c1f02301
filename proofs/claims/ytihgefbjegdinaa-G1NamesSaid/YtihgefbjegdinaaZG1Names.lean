/- The base is the document's: sigillaw12.G1Names answers true. No conditions. -/
import Derived.Test.YtihgefbjegdinaaPC
import Derived.Test.YtihgefbjegdinaaLy
import Derived.OpenShut
namespace Go.Proofs.Ytihgefbjegdinaa.g1NamesLaw
open Ex
set_option maxRecDepth 100000
theorem lifted (os : Os) (started : os.Started) (H : Type) (enc : TypeId × Value → H) :
    ReturnsInHanded {} Try.checked os 13 .any (Rows.g1NamesSpec.pre6 enc Try.prog Try.f13 Rows.g1NamesRow.domain false) (Rows.g1NamesSpec.post enc Try.prog Try.f13 false true false false) :=
  law_lift (C := Try.checked) own started (by kernel_rfl) Try.func13
    (ChangeSpec.witness6 (enc := enc) (C := Try.checked) false ⟨#[], #[], []⟩ 8 (by kernel_rfl) (by kernel_rfl) (by kernel_rfl) (by kernel_rfl))
    ⟨rfl, fun H ds h => by
      have h' : ds.length = 0 := h
      obtain rfl := List.length_eq_zero_iff.1 h'; exact ⟨rfl, rfl, rfl⟩⟩ (by kernel_rfl) (by kernel_rfl) under_bool laidOut (by kernel_rfl) g1Names_walk
theorem over : Rows.g1NamesRow.holds Try.pinned (OpenSpec.ofChange Rows.g1NamesSpec) :=
  OpenClaim.holds_of_wide 13 Try.f13 rfl rfl rfl rfl rfl rfl rfl ⟨rfl, rfl, rfl, rfl, rfl⟩ rfl rfl rfl rfl rfl (by kernel_rfl) Try.func13 (by kernel_rfl)
    (of_decide_eq_true (by kernel_rfl)) (by unfold Func.isWrapper; rw [if_neg (of_decide_eq_false (by kernel_rfl))]; exact ⟨rfl, rfl⟩)
    (fun os started H enc _ => lifted os started H enc)
/-- The statement. -/
theorem proved : Rows.G1NamesSaid := over
end Go.Proofs.Ytihgefbjegdinaa.g1NamesLaw
