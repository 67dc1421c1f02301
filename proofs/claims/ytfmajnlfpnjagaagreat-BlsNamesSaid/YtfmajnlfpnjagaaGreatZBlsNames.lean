/- Numbers are the document's: sigillaw21.BlsNames answers true. No conditions. -/
import Derived.Test.YtfmajnlfpnjagaaGreatPC
import Derived.Test.YtfmajnlfpnjagaaGreatPG
import Derived.OpenShut
namespace Go.Proofs.YtfmajnlfpnjagaaGreat.blsNamesLaw
open Ex
set_option maxRecDepth 100000
theorem lifted (os : Os) (started : os.Started) (H : Type) (enc : TypeId × Value → H) :
    ReturnsInHanded {} Tryz.checked os 3 .any (Rows.blsNamesSpec.pre6 enc Tryz.prog Tryz.f3 Rows.blsNamesRow.domain false) (Rows.blsNamesSpec.post enc Tryz.prog Tryz.f3 false true false false) :=
  law_lift (C := Tryz.checked) own started (by kernel_rfl) Tryz.func3
    (ChangeSpec.witness6 (enc := enc) (C := Tryz.checked) false ⟨#[], #[], []⟩ 8 (by kernel_rfl) (by kernel_rfl) (by kernel_rfl) (by kernel_rfl))
    ⟨rfl, fun H ds h => by
      have h' : ds.length = 0 := h
      obtain rfl := List.length_eq_zero_iff.1 h'; exact ⟨rfl, rfl, rfl⟩⟩ (by kernel_rfl) (by kernel_rfl) under_bool laidOut (by kernel_rfl) blsNames_walk
theorem over : Rows.blsNamesRow.holds Tryz.pinned (OpenSpec.ofChange Rows.blsNamesSpec) :=
  OpenClaim.holds_of_wide 3 Tryz.f3 rfl rfl rfl rfl rfl rfl rfl ⟨rfl, rfl, rfl, rfl, rfl⟩ rfl rfl rfl rfl rfl (by kernel_rfl) Tryz.func3 (by kernel_rfl)
    (of_decide_eq_true (by kernel_rfl)) (by unfold Func.isWrapper; rw [if_neg (of_decide_eq_false (by kernel_rfl))]; exact ⟨rfl, rfl⟩)
    (fun os started H enc _ => lifted os started H enc)
/-- The statement. -/
theorem proved : Rows.BlsNamesSaid := over
end Go.Proofs.YtfmajnlfpnjagaaGreat.blsNamesLaw
