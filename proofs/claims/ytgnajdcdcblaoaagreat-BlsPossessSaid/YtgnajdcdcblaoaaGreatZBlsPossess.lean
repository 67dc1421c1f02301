/- Whether any bytes are a key's proof is what the document says: sigillaw21.BlsPossess answers true for all bytes. No conditions. -/
import Derived.Test.YtgnajdcdcblaoaaGreatPC
import Derived.Test.YtgnajdcdcblaoaaGreatPG
import Derived.OpenShut
namespace Go.Proofs.YtgnajdcdcblaoaaGreat.blsPossessLaw
open Ex
set_option maxRecDepth 100000
theorem lifted (os : Go.Os) (started : os.Started) (H : Type) (enc : TypeId × Value → H) :
    ReturnsInHanded {} Tryz.checked os 5 .any (Rows.blsPossessSpec.pre6 enc Tryz.prog Tryz.f5 Rows.blsPossessRow.domain false) (Rows.blsPossessSpec.post enc Tryz.prog Tryz.f5 false true false false) :=
  law_lift (C := Tryz.checked) own started (by kernel_rfl) Tryz.func5
    (ChangeSpec.witness6 (enc := enc) (C := Tryz.checked) false ⟨#[], #[.slice none 0 0, .slice none 0 0], []⟩ 8 (by kernel_rfl) (by kernel_rfl) (by kernel_rfl) (by kernel_rfl))
    ⟨rfl, fun H ds h => by
      have h' : ds.length = 2 := h
      obtain ⟨a, b, rfl⟩ := len2 h'; exact ⟨rfl, rfl, rfl⟩⟩ (by kernel_rfl) (by kernel_rfl) under_bool laidOut (by kernel_rfl) blsPossess_walk
theorem closed : joinedFacts Tryz.pinned.checked.prog 5 Tryz.f5 Rows.blsPossessSpec Rows.blsPossessRow = true := by
  unfold joinedFacts
  rw [allHeard, allEnter, allLifts, allKeys, allLaid, allMaps]
  kernel_rfl
theorem over : Rows.blsPossessRow.holds Tryz.pinned (OpenSpec.ofChange Rows.blsPossessSpec) :=
  OpenClaim.holds_of_wide 5 Tryz.f5 rfl rfl rfl rfl rfl rfl rfl ⟨rfl, rfl, rfl, rfl, rfl⟩ rfl rfl rfl rfl rfl (by kernel_rfl) Tryz.func5 closed
    (of_decide_eq_true (by kernel_rfl)) (by unfold Func.isWrapper; rw [if_neg (of_decide_eq_false (by kernel_rfl))]; exact ⟨rfl, rfl⟩)
    (fun os started H enc _ => lifted os started H enc)
/-- The statement. -/
theorem proved : Rows.BlsPossessSaid := over
end Go.Proofs.YtgnajdcdcblaoaaGreat.blsPossessLaw
