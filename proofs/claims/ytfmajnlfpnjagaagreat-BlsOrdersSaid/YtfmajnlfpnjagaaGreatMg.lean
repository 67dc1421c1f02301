/- sigillaw20: CodecBack2, CodecBytes2: the walks. -/
import Derived.Test.YtfmajnlfpnjagaaGreatMf
import Derived.Test.YtfmajnlfpnjagaaGreatMe
import Derived.Test.YtfmajnlfpnjagaaGreatPE
namespace Go.Proofs.YtfmajnlfpnjagaaGreat
open Ex Num Rg
open Sh (R av rd mo en mo_en)
set_option maxRecDepth 100000
set_option maxHeartbeats 4000000

noncomputable def eqS (r t : R P2) : Bool := dq r.1.1 t.1.1 && (dq r.1.2 t.1.2 && (dq r.2.1.1 t.2.1.1 && (dq r.2.1.2 t.2.1.2 && (r.2.2 == t.2.2))))
noncomputable def eqQ (p q : P2) : Bool := eqS (en p) (en q)
theorem eqQ_of {p q : P2} (h : p = q) : eqQ p q = true := by
  subst h
  unfold eqQ eqS dq
  rw [decide_eq_true rfl, decide_eq_true rfl, decide_eq_true rfl, decide_eq_true rfl]
  cases (en p : R P2).2.2 <;> rfl
section
variable (r : R P2)
end
/- CodecBytes2 -/
section
variable (n m : Nat) (xs : List Int)
end
end Go.Proofs.YtfmajnlfpnjagaaGreat
