/- Any signatures, put together, are what the document says, or its error: sigillaw21.BlsAggregates answers true. No conditions. -/
import Derived.Test.YtfmajnlfpnjagaaGreatPC
import Derived.Test.YtfmajnlfpnjagaaGreatPF
import Derived.OpenShut
namespace Go.Proofs.YtfmajnlfpnjagaaGreat.blsAggregatesLaw
open Ex
set_option maxRecDepth 100000
theorem lifted (os : Os) (started : os.Started) (H : Type) (enc : TypeId × Value → H) :
    ReturnsInHanded {} Tryz.checked os 5 .any (Rows.blsAggregatesSpec.pre6 enc Tryz.prog Tryz.f5 Rows.blsAggregatesRow.domain false) (Rows.blsAggregatesSpec.post enc Tryz.prog Tryz.f5 false true false false) :=
  law_lift (C := Tryz.checked) own started (by kernel_rfl) Tryz.func5
    (ChangeSpec.witness6 (enc := enc) (C := Tryz.checked) false ⟨#[], #[.slice none 0 0], []⟩ 8 (by kernel_rfl) (by kernel_rfl) (by kernel_rfl) (by kernel_rfl))
    ⟨rfl, fun H ds h => by
      have h' : ds.length = 1 := h
      obtain ⟨a, rfl⟩ := List.length_eq_one_iff.1 h'; exact ⟨rfl, rfl, rfl⟩⟩ (by kernel_rfl) (by kernel_rfl) under_bool laidOut (by kernel_rfl) blsAggregates_walk
theorem over : Rows.blsAggregatesRow.holds Tryz.pinned (OpenSpec.ofChange Rows.blsAggregatesSpec) :=
  OpenClaim.holds_of_wide 5 Tryz.f5 rfl rfl rfl rfl rfl rfl rfl ⟨rfl, rfl, rfl, rfl, rfl⟩ rfl rfl rfl rfl rfl (by kernel_rfl) Tryz.func5 (by kernel_rfl)
    (of_decide_eq_true (by kernel_rfl)) (by unfold Func.isWrapper; rw [if_neg (of_decide_eq_false (by kernel_rfl))]; exact ⟨rfl, rfl⟩)
    (fun os started H enc _ => lifted os started H enc)
/-- The statement. -/
theorem proved : Rows.BlsAggregatesSaid := over
end Go.Proofs.YtfmajnlfpnjagaaGreat.blsAggregatesLaw
