/- Any message's signature is what the document says, or its error: sigillaw21.BlsSigns answers true. No conditions. -/
import Derived.Test.YtjlcdlekmpjjnaaGreatPB
import Derived.Test.YtjlcdlekmpjjnaaGreatPG
import Derived.OpenShut
namespace Go.Proofs.YtjlcdlekmpjjnaaGreat.blsSignsLaw
open Ex
set_option maxRecDepth 100000
theorem lifted (os : Go.Os) (started : os.Started) (H : Type) (enc : TypeId × Value → H) :
    ReturnsInHanded {} Tryz.checked os 8 .any (Rows.blsSignsSpec.pre6 enc Tryz.prog Tryz.f8 Rows.blsSignsRow.domain false) (Rows.blsSignsSpec.post enc Tryz.prog Tryz.f8 false true false false) :=
  law_lift (C := Tryz.checked) own started (by kernel_rfl) Tryz.func8
    (ChangeSpec.witness6 (enc := enc) (C := Tryz.checked) false ⟨#[], #[.slice none 0 0, .slice none 0 0], []⟩ 8 (by kernel_rfl) (by kernel_rfl) (by kernel_rfl) (by kernel_rfl))
    ⟨rfl, fun H ds h => by
      have h' : ds.length = 2 := h
      obtain ⟨a, b, rfl⟩ := len2 h'; exact ⟨rfl, rfl, rfl⟩⟩ (by kernel_rfl) (by kernel_rfl) under_bool laidOut (by kernel_rfl) blsSigns_walk
theorem closed : joinedFacts Tryz.pinned.checked.prog 8 Tryz.f8 Rows.blsSignsSpec Rows.blsSignsRow = true := by
  unfold joinedFacts
  rw [allHeard, allEnter, allLifts, allKeys, allLaid, allMaps]
  kernel_rfl
theorem over : Rows.blsSignsRow.holds Tryz.pinned (OpenSpec.ofChange Rows.blsSignsSpec) :=
  OpenClaim.holds_of_wide 8 Tryz.f8 rfl rfl rfl rfl rfl rfl rfl ⟨rfl, rfl, rfl, rfl, rfl⟩ rfl rfl rfl rfl rfl (by kernel_rfl) Tryz.func8 closed
    (of_decide_eq_true (by kernel_rfl)) (by unfold Func.isWrapper; rw [if_neg (of_decide_eq_false (by kernel_rfl))]; exact ⟨rfl, rfl⟩)
    (fun os started H enc _ => lifted os started H enc)
/-- The statement. -/
theorem proved : Rows.BlsSignsSaid := over
end Go.Proofs.YtjlcdlekmpjjnaaGreat.blsSignsLaw
