/- Any power, and any number of many words, is what the document says: sigillaw04.FpPowers answers true for every input. No conditions. -/
import Derived.Test.YtoemaicabljpfaaPC
import Derived.Test.YtoemaicabljpfaaMc
import Derived.OpenShut
namespace Go.Proofs.Ytoemaicabljpfaa.fpPowersLaw
open Ex
set_option maxRecDepth 100000
theorem lifted (os : Os) (started : os.Started) (H : Type) (enc : TypeId × Value → H) :
    ReturnsInHanded {} Try.checked os 22 .any (Rows.fpPowersSpec.pre6 enc Try.prog Try.f22 Rows.fpPowersRow.domain false) (Rows.fpPowersSpec.post enc Try.prog Try.f22 false true false false) :=
  law_lift (C := Try.checked) own started (by kernel_rfl) Try.func22
    (ChangeSpec.witness6 (enc := enc) (C := Try.checked) false ⟨#[], #[.agg #[.int .u64 0, .int .u64 0, .int .u64 0, .int .u64 0, .int .u64 0, .int .u64 0], .slice none 0 0, .slice none 0 0], []⟩ 8 (by kernel_rfl) (by kernel_rfl) (by kernel_rfl) (by kernel_rfl))
    ⟨rfl, fun H ds h => by
      have h' : ds.length = 3 := h
      obtain ⟨a, b, c, rfl⟩ := len3 h'; exact ⟨rfl, rfl, rfl⟩⟩ (by kernel_rfl) (by kernel_rfl) under_bool laidOut (by kernel_rfl) fpPowers_walk
theorem over : Rows.fpPowersRow.holds Try.pinned (OpenSpec.ofChange Rows.fpPowersSpec) :=
  OpenClaim.holds_of_wide 22 Try.f22 rfl rfl rfl rfl rfl rfl rfl ⟨rfl, rfl, rfl, rfl, rfl⟩ rfl rfl rfl rfl rfl (by kernel_rfl) Try.func22 (by kernel_rfl)
    (of_decide_eq_true (by kernel_rfl)) (by unfold Func.isWrapper; rw [if_neg (of_decide_eq_false (by kernel_rfl))]; exact ⟨rfl, rfl⟩)
    (fun os started H enc _ => lifted os started H enc)
/-- The statement. -/
theorem proved : Rows.FpPowersSaid := over
end Go.Proofs.Ytoemaicabljpfaa.fpPowersLaw
