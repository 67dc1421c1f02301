/- Whether any bytes are a message's signature, and a key may be, is what the document says: sigillaw21.BlsVerifies answers true for all bytes. No conditions. -/
import Derived.Test.YtgnajdcdcblaoaaGreatPC
import Derived.Test.YtgnajdcdcblaoaaGreatPG
import Derived.OpenShut
namespace Go.Proofs.YtgnajdcdcblaoaaGreat.blsVerifiesLaw
open Ex
set_option maxRecDepth 100000
theorem lifted (os : Go.Os) (started : os.Started) (H : Type) (enc : TypeId × Value → H) :
    ReturnsInHanded {} Tryz.checked os 3 .any (Rows.blsVerifiesSpec.pre6 enc Tryz.prog Tryz.f3 Rows.blsVerifiesRow.domain false) (Rows.blsVerifiesSpec.post enc Tryz.prog Tryz.f3 false true false false) :=
  law_lift (C := Tryz.checked) own started (by kernel_rfl) Tryz.func3
    (ChangeSpec.witness6 (enc := enc) (C := Tryz.checked) false ⟨#[], #[.slice none 0 0, .slice none 0 0, .slice none 0 0], []⟩ 8 (by kernel_rfl) (by kernel_rfl) (by kernel_rfl) (by kernel_rfl))
    ⟨rfl, fun H ds h => by
      have h' : ds.length = 3 := h
      obtain ⟨a, b, c, rfl⟩ := len3 h'; exact ⟨rfl, rfl, rfl⟩⟩ (by kernel_rfl) (by kernel_rfl) under_bool laidOut (by kernel_rfl) blsVerifies_walk
theorem closed : joinedFacts Tryz.pinned.checked.prog 3 Tryz.f3 Rows.blsVerifiesSpec Rows.blsVerifiesRow = true := by
  unfold joinedFacts
  rw [allHeard, allEnter, allLifts, allKeys, allLaid, allMaps]
  kernel_rfl
theorem over : Rows.blsVerifiesRow.holds Tryz.pinned (OpenSpec.ofChange Rows.blsVerifiesSpec) :=
  OpenClaim.holds_of_wide 3 Tryz.f3 rfl rfl rfl rfl rfl rfl rfl ⟨rfl, rfl, rfl, rfl, rfl⟩ rfl rfl rfl rfl rfl (by kernel_rfl) Tryz.func3 closed
    (of_decide_eq_true (by kernel_rfl)) (by unfold Func.isWrapper; rw [if_neg (of_decide_eq_false (by kernel_rfl))]; exact ⟨rfl, rfl⟩)
    (fun os started H enc _ => lifted os started H enc)
/-- The statement. -/
theorem proved : Rows.BlsVerifiesSaid := over
end Go.Proofs.YtgnajdcdcblaoaaGreat.blsVerifiesLaw
