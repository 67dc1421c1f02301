/- Any key's proof is what the document says, or its error: sigillaw21.BlsProves answers true. No conditions. -/
import Derived.Test.YtjlcdlekmpjjnaaGreatPB
import Derived.Test.YtjlcdlekmpjjnaaGreatPG
import Derived.OpenShut
namespace Go.Proofs.YtjlcdlekmpjjnaaGreat.blsProvesLaw
open Ex
set_option maxRecDepth 100000
theorem lifted (os : Go.Os) (started : os.Started) (H : Type) (enc : TypeId × Value → H) :
    ReturnsInHanded {} Tryz.checked os 9 .any (Rows.blsProvesSpec.pre6 enc Tryz.prog Tryz.f9 Rows.blsProvesRow.domain false) (Rows.blsProvesSpec.post enc Tryz.prog Tryz.f9 false true false false) :=
  law_lift (C := Tryz.checked) own started (by kernel_rfl) Tryz.func9
    (ChangeSpec.witness6 (enc := enc) (C := Tryz.checked) false ⟨#[], #[.slice none 0 0], []⟩ 8 (by kernel_rfl) (by kernel_rfl) (by kernel_rfl) (by kernel_rfl))
    ⟨rfl, fun H ds h => by
      have h' : ds.length = 1 := h
      obtain ⟨a, rfl⟩ := List.length_eq_one_iff.1 h'; exact ⟨rfl, rfl, rfl⟩⟩ (by kernel_rfl) (by kernel_rfl) under_bool laidOut (by kernel_rfl) blsProves_walk
theorem closed : joinedFacts Tryz.pinned.checked.prog 9 Tryz.f9 Rows.blsProvesSpec Rows.blsProvesRow = true := by
  unfold joinedFacts
  rw [allHeard, allEnter, allLifts, allKeys, allLaid, allMaps]
  kernel_rfl
theorem over : Rows.blsProvesRow.holds Tryz.pinned (OpenSpec.ofChange Rows.blsProvesSpec) :=
  OpenClaim.holds_of_wide 9 Tryz.f9 rfl rfl rfl rfl rfl rfl rfl ⟨rfl, rfl, rfl, rfl, rfl⟩ rfl rfl rfl rfl rfl (by kernel_rfl) Tryz.func9 closed
    (of_decide_eq_true (by kernel_rfl)) (by unfold Func.isWrapper; rw [if_neg (of_decide_eq_false (by kernel_rfl))]; exact ⟨rfl, rfl⟩)
    (fun os started H enc _ => lifted os started H enc)
/-- The statement. -/
theorem proved : Rows.BlsProvesSaid := over
end Go.Proofs.YtjlcdlekmpjjnaaGreat.blsProvesLaw
