/- Numbers and the limit are the document's: sigillaw22.ScriptNames answers true. No conditions. -/
import Derived.Test.YtojnabmgolpodaaGreatPC
import Derived.Test.YtojnabmgolpodaaGreatPE
import Derived.OpenShut
namespace Go.Proofs.YtojnabmgolpodaaGreat.scriptNamesLaw
open Ex
set_option maxRecDepth 100000
theorem lifted (os : Go.Os) (started : os.Started) (H : Type) (enc : TypeId × Value → H) :
    ReturnsInHanded {} Tryz.checked os 11 .any (Rows.scriptNamesSpec.pre6 enc Tryz.prog Tryz.f11 Rows.scriptNamesRow.domain false) (Rows.scriptNamesSpec.post enc Tryz.prog Tryz.f11 false true false false) :=
  law_lift (C := Tryz.checked) own started (by kernel_rfl) Tryz.func11
    (ChangeSpec.witness6 (enc := enc) (C := Tryz.checked) false ⟨#[], #[], []⟩ 8 (by kernel_rfl) (by kernel_rfl) (by kernel_rfl) (by kernel_rfl))
    ⟨rfl, fun H ds h => by
      have h' : ds.length = 0 := h
      obtain rfl := List.length_eq_zero_iff.1 h'; exact ⟨rfl, rfl, rfl⟩⟩ (by kernel_rfl) (by kernel_rfl) under_bool laidOut (by kernel_rfl) scriptNames_walk
theorem closed : joinedFacts Tryz.pinned.checked.prog 11 Tryz.f11 Rows.scriptNamesSpec Rows.scriptNamesRow = true := by
  unfold joinedFacts
  rw [allHeard, allEnter, allLifts, allKeys, allLaid, allMaps]
  kernel_rfl
theorem over : Rows.scriptNamesRow.holds Tryz.pinned (OpenSpec.ofChange Rows.scriptNamesSpec) :=
  OpenClaim.holds_of_wide 11 Tryz.f11 rfl rfl rfl rfl rfl rfl rfl ⟨rfl, rfl, rfl, rfl, rfl⟩ rfl rfl rfl rfl rfl (by kernel_rfl) Tryz.func11 closed
    (of_decide_eq_true (by kernel_rfl)) (by unfold Func.isWrapper; rw [if_neg (of_decide_eq_false (by kernel_rfl))]; exact ⟨rfl, rfl⟩)
    (fun os started H enc _ => lifted os started H enc)
/-- The statement. -/
theorem proved : Rows.ScriptNamesSaid := over
end Go.Proofs.YtojnabmgolpodaaGreat.scriptNamesLaw
