/- A secret key that is made, if one is, is one: sigillaw21.BlsKeyed answers true. No conditions. -/
import Derived.Test.YtjlcdlekmpjjnaaGreatPC
import Derived.Test.YtjlcdlekmpjjnaaGreatPF
import Derived.OpenShut
namespace Go.Proofs.YtjlcdlekmpjjnaaGreat.blsKeyedLaw
open Ex
set_option maxRecDepth 100000
theorem lifted (os : Os) (started : os.Started) (H : Type) (enc : TypeId × Value → H) :
    ReturnsInHanded {} Tryz.checked os 7 .any (Rows.blsKeyedSpec.pre6 enc Tryz.prog Tryz.f7 Rows.blsKeyedRow.domain false) (Rows.blsKeyedSpec.post enc Tryz.prog Tryz.f7 false true false false) :=
  law_lift (C := Tryz.checked) own started (by kernel_rfl) Tryz.func7
    (ChangeSpec.witness6 (enc := enc) (C := Tryz.checked) false ⟨#[], #[.slice none 0 0, .slice none 0 0], []⟩ 8 (by kernel_rfl) (by kernel_rfl) (by kernel_rfl) (by kernel_rfl))
    ⟨rfl, fun H ds h => by
      have h' : ds.length = 2 := h
      obtain ⟨a, b, rfl⟩ := len2 h'; exact ⟨rfl, rfl, rfl⟩⟩ (by kernel_rfl) (by kernel_rfl) under_bool laidOut (by kernel_rfl) blsKeyed_walk
theorem closed : joinedFacts Tryz.pinned.checked.prog 7 Tryz.f7 Rows.blsKeyedSpec Rows.blsKeyedRow = true := by
  unfold joinedFacts
  rw [allHeard, allEnter, allLifts, allKeys, allLaid, allMaps]
  kernel_rfl
theorem over : Rows.blsKeyedRow.holds Tryz.pinned (OpenSpec.ofChange Rows.blsKeyedSpec) :=
  OpenClaim.holds_of_wide 7 Tryz.f7 rfl rfl rfl rfl rfl rfl rfl ⟨rfl, rfl, rfl, rfl, rfl⟩ rfl rfl rfl rfl rfl (by kernel_rfl) Tryz.func7 closed
    (of_decide_eq_true (by kernel_rfl)) (by unfold Func.isWrapper; rw [if_neg (of_decide_eq_false (by kernel_rfl))]; exact ⟨rfl, rfl⟩)
    (fun os started H enc _ => lifted os started H enc)
/-- The statement. -/
theorem proved : Rows.BlsKeyedSaid := over
end Go.Proofs.YtjlcdlekmpjjnaaGreat.blsKeyedLaw
