/- sigillaw20: CodecNames, CodecTurns1, CodecTurns2: the walks. -/
import Derived.Test.YtfmajnlfpnjagaaGreatPE
import Derived.Test.YtfmajnlfpnjagaaGreatLy
namespace Go.Proofs.YtfmajnlfpnjagaaGreat
open Ex Num Rg
open Sh (R av rd mo en mo_en)
set_option maxRecDepth 100000
set_option maxHeartbeats 4000000

/- opposites -/
section
variable {F : Type} [FD F] (C : Cv F)
end
/- the first byte of an opposite -/
theorem ecL_length (s i b : Bool) : ∀ B : List Int, (ecL s i b B).length = B.length
  | [] => by cases s <;> cases i <;> cases b <;> rfl
  | f :: t => by rw [ecL_cons]; rfl
theorem e2L_len (s : Bool) (p : P2) : (e2L s p).length = 192 := by rw [e2L_ec, ecL_length, b2_cat, cat_length]; rfl
/- the walks -/
section
variable (x y : Nat) (i : Bool)
end
/- points of the twisted curve that come in -/
section
variable (r : R P2)
theorem pR2_eq' (p : P2) : pR2 p = p := mo_en p
end
end Go.Proofs.YtfmajnlfpnjagaaGreat
