/- Whether any bytes are one message's signature of several keys is what the document says: sigillaw21.BlsFast answers true for all lists. No conditions. -/
import Derived.Test.YtgnajdcdcblaoaaGreatPC
import Derived.Test.YtgnajdcdcblaoaaGreatPG
import Derived.OpenShut
namespace Go.Proofs.YtgnajdcdcblaoaaGreat.blsFastLaw
open Ex
set_option maxRecDepth 100000
theorem lifted (os : Go.Os) (started : os.Started) (H : Type) (enc : TypeId × Value → H) :
    ReturnsInHanded {} Tryz.checked os 6 .any (Rows.blsFastSpec.pre6 enc Tryz.prog Tryz.f6 Rows.blsFastRow.domain false) (Rows.blsFastSpec.post enc Tryz.prog Tryz.f6 false true false false) :=
  law_lift (C := Tryz.checked) own started (by kernel_rfl) Tryz.func6
    (ChangeSpec.witness6 (enc := enc) (C := Tryz.checked) false ⟨#[], #[.slice none 0 0, .slice none 0 0, .slice none 0 0], []⟩ 8 (by kernel_rfl) (by kernel_rfl) (by kernel_rfl) (by kernel_rfl))
    ⟨rfl, fun H ds h => by
      have h' : ds.length = 3 := h
      obtain ⟨a, b, c, rfl⟩ := len3 h'; exact ⟨rfl, rfl, rfl⟩⟩ (by kernel_rfl) (by kernel_rfl) under_bool laidOut (by kernel_rfl) blsFast_walk
theorem closed : joinedFacts Tryz.pinned.checked.prog 6 Tryz.f6 Rows.blsFastSpec Rows.blsFastRow = true := by
  unfold joinedFacts
  rw [allHeard, allEnter, allLifts, allKeys, allLaid, allMaps]
  kernel_rfl
theorem over : Rows.blsFastRow.holds Tryz.pinned (OpenSpec.ofChange Rows.blsFastSpec) :=
  OpenClaim.holds_of_wide 6 Tryz.f6 rfl rfl rfl rfl rfl rfl rfl ⟨rfl, rfl, rfl, rfl, rfl⟩ rfl rfl rfl rfl rfl (by kernel_rfl) Tryz.func6 closed
    (of_decide_eq_true (by kernel_rfl)) (by unfold Func.isWrapper; rw [if_neg (of_decide_eq_false (by kernel_rfl))]; exact ⟨rfl, rfl⟩)
    (fun os started H enc _ => lifted os started H enc)
/-- The statement. -/
theorem proved : Rows.BlsFastSaid := over
end Go.Proofs.YtgnajdcdcblaoaaGreat.blsFastLaw
