/- sigillaw12: G1Names, G1Adds, G1Undoes: the walks. -/
import Derived.Test.YtfmajnlfpnjagaaGreatPD
import Derived.Test.YtfmajnlfpnjagaaGreatPC
namespace Go.Proofs.YtfmajnlfpnjagaaGreat
open Ex Num Rg
set_option maxRecDepth 100000
set_option maxHeartbeats 4000000

section
variable {H : Type} {enc : TypeId × Value → H} {W : World} {base : Nat} {v : Value} {d : DataW H} {p : List MemPlace}
end
section
variable (x y : Nat) (i : Bool) (x' y' : Nat) (i' : Bool)
end
/- G1Closed -/
section
variable (x y : Nat) (i : Bool) (x' y' : Nat) (i' : Bool) (e : Nat)
end
end Go.Proofs.YtfmajnlfpnjagaaGreat
