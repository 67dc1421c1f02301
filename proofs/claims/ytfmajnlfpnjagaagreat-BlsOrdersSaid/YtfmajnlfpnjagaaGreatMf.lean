/- sigillaw20: CodecBack1, CodecBytes1: the walks. -/
import Derived.Test.YtfmajnlfpnjagaaGreatPE
import Derived.Test.YtfmajnlfpnjagaaGreatLy
namespace Go.Proofs.YtfmajnlfpnjagaaGreat
open Ex Num Rg
open Sh (R av rd mo en mo_en)
set_option maxRecDepth 100000
set_option maxHeartbeats 4000000

theorem smB_of {a b : List Int} (h : a = b) : smB a b = true := decide_eq_true h
section
variable (x y : Nat) (i : Bool)
end
/- CodecBytes1 -/
section
variable (n m : Nat) (xs : List Int)
end
end Go.Proofs.YtfmajnlfpnjagaaGreat
