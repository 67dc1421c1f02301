/- Signatures may be put together in any order: sigillaw21.BlsOrders answers true. No conditions. -/
import Derived.Test.YtfmajnlfpnjagaaGreatPC
import Derived.Test.YtfmajnlfpnjagaaGreatPF
import Derived.OpenShut
namespace Go.Proofs.YtfmajnlfpnjagaaGreat.blsOrdersLaw
open Ex
set_option maxRecDepth 100000
theorem lifted (os : Os) (started : os.Started) (H : Type) (enc : TypeId × Value → H) :
    ReturnsInHanded {} Tryz.checked os 7 .any (Rows.blsOrdersSpec.pre6 enc Tryz.prog Tryz.f7 Rows.blsOrdersRow.domain false) (Rows.blsOrdersSpec.post enc Tryz.prog Tryz.f7 false true false false) :=
  law_lift (C := Tryz.checked) own started (by kernel_rfl) Tryz.func7
    (ChangeSpec.witness6 (enc := enc) (C := Tryz.checked) false ⟨#[], #[.slice none 0 0, .slice none 0 0, .slice none 0 0], []⟩ 8 (by kernel_rfl) (by kernel_rfl) (by kernel_rfl) (by kernel_rfl))
    ⟨rfl, fun H ds h => by
      have h' : ds.length = 3 := h
      obtain ⟨a, b, c, rfl⟩ := len3 h'; exact ⟨rfl, rfl, rfl⟩⟩ (by kernel_rfl) (by kernel_rfl) under_bool laidOut (by kernel_rfl) blsOrders_walk
theorem over : Rows.blsOrdersRow.holds Tryz.pinned (OpenSpec.ofChange Rows.blsOrdersSpec) :=
  OpenClaim.holds_of_wide 7 Tryz.f7 rfl rfl rfl rfl rfl rfl rfl ⟨rfl, rfl, rfl, rfl, rfl⟩ rfl rfl rfl rfl rfl (by kernel_rfl) Tryz.func7 (by kernel_rfl)
    (of_decide_eq_true (by kernel_rfl)) (by unfold Func.isWrapper; rw [if_neg (of_decide_eq_false (by kernel_rfl))]; exact ⟨rfl, rfl⟩)
    (fun os started H enc _ => lifted os started H enc)
/-- The statement. -/
theorem proved : Rows.BlsOrdersSaid := over
end Go.Proofs.YtfmajnlfpnjagaaGreat.blsOrdersLaw
