/- A secret key that is made, and any key's public one, are what the document says: sigillaw21.BlsKeys answers true. No conditions. -/
import Derived.Test.YtjlcdlekmpjjnaaGreatPB
import Derived.Test.YtjlcdlekmpjjnaaGreatPF
import Derived.OpenShut
namespace Go.Proofs.YtjlcdlekmpjjnaaGreat.blsKeysLaw
open Ex
set_option maxRecDepth 100000
theorem lifted (os : Go.Os) (started : os.Started) (H : Type) (enc : TypeId × Value → H) :
    ReturnsInHanded {} Tryz.checked os 6 .any (Rows.blsKeysSpec.pre6 enc Tryz.prog Tryz.f6 Rows.blsKeysRow.domain false) (Rows.blsKeysSpec.post enc Tryz.prog Tryz.f6 false true false false) :=
  law_lift (C := Tryz.checked) own started (by kernel_rfl) Tryz.func6
    (ChangeSpec.witness6 (enc := enc) (C := Tryz.checked) false ⟨#[], #[.slice none 0 0, .slice none 0 0, .slice none 0 0], []⟩ 8 (by kernel_rfl) (by kernel_rfl) (by kernel_rfl) (by kernel_rfl))
    ⟨rfl, fun H ds h => by
      have h' : ds.length = 3 := h
      obtain ⟨a, b, c, rfl⟩ := len3 h'; exact ⟨rfl, rfl, rfl⟩⟩ (by kernel_rfl) (by kernel_rfl) under_bool laidOut (by kernel_rfl) blsKeys_walk
theorem closed : joinedFacts Tryz.pinned.checked.prog 6 Tryz.f6 Rows.blsKeysSpec Rows.blsKeysRow = true := by
  unfold joinedFacts
  rw [allHeard, allEnter, allLifts, allKeys, allLaid, allMaps]
  kernel_rfl
theorem over : Rows.blsKeysRow.holds Tryz.pinned (OpenSpec.ofChange Rows.blsKeysSpec) :=
  OpenClaim.holds_of_wide 6 Tryz.f6 rfl rfl rfl rfl rfl rfl rfl ⟨rfl, rfl, rfl, rfl, rfl⟩ rfl rfl rfl rfl rfl (by kernel_rfl) Tryz.func6 closed
    (of_decide_eq_true (by kernel_rfl)) (by unfold Func.isWrapper; rw [if_neg (of_decide_eq_false (by kernel_rfl))]; exact ⟨rfl, rfl⟩)
    (fun os started H enc _ => lifted os started H enc)
/-- The statement. -/
theorem proved : Rows.BlsKeysSaid := over
end Go.Proofs.YtjlcdlekmpjjnaaGreat.blsKeysLaw
