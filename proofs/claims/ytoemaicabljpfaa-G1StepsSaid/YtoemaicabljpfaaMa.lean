/- sigillaw12.Point: the contract. -/
import Derived.Test.YtoemaicabljpfaaLz
namespace Go.Proofs.Ytoemaicabljpfaa
open Ex Num Rg
set_option maxRecDepth 100000

def bA (t : Bool) : AV := .val false [.v (.bool t)]
noncomputable def kG (k : Nat) : Pt FP := mulP (natL (win [(k : Int)] 0 1)) (toPt' G1B)
noncomputable def poN (k : Nat) (t : Bool) : Pt FP := if t then neg (smul k G1B) else smul k G1B
theorem natL_1 {k : Nat} : natL (win [(k : Int)] 0 1) = k := by
  show (k : Int).toNat + 18446744073709551616 * 0 = k
  rw [Int.toNat_natCast]; rfl
theorem kG_eq (k : Nat) : kG k = smul k G1B := by
  unfold kG mulP
  rw [natL_1, toPt'_eq, if_pos on_G1B]
theorem point_t (k : Nat) (t : Bool) : pureRun Try.prog (orc SR4 KG) Try.f66 [uA k, bA t] [true] 500 = some ([(true, true), (true, true), (t, true)], g1V (neg (toPt' (kG k)))) := by kernel_rfl
theorem point_f (k : Nat) (t : Bool) : pureRun Try.prog (orc SR4 KG) Try.f66 [uA k, bA t] [false] 500 = some ([(true, true), (true, true), (t, false)], g1V (kG k)) := by kernel_rfl
theorem point_ok (k : Nat) (t : Bool) : PureOk Try.prog 66 [uA k, bA t] (g1V (poN k t)) := by
  unfold poN
  cases t with
  | true =>
    rw [if_pos rfl, ← kG_eq, ← toPt'_eq (kG k)]
    exact pure_ok (orc_ok SR4ok KGok) mixed Try.func66 (point_t k true) ⟨rfl, rfl, rfl, trivial⟩ rfl
  | false =>
    rw [if_neg Bool.false_ne_true, ← kG_eq]
    exact pure_ok (orc_ok SR4ok KGok) mixed Try.func66 (point_f k false) ⟨rfl, rfl, rfl, trivial⟩ rfl
noncomputable def ptSp : List AV → Option AV
  | [.val false [.v (.int .u64 k)], .val false [.b t]] => some (g1V (poN k.toNat t))
  | _ => none
theorem ptSp_ok : ∀ args v, ptSp args = some v → PureOk Try.prog 66 args v := by
  intro args v hs us w ha
  unfold ptSp at hs
  split at hs
  case h_2 => cases hs
  rename_i k t
  injection hs with hs; subst hs
  obtain ⟨u1, us1, r1, ⟨u2, us2, r2, ha, rfl⟩, rfl⟩ := ha
  have hk : 0 ≤ k := by
    obtain ⟨l1, l2, ⟨_, _, hk⟩, _, _⟩ := r1
    exact (u64_bounds hk).1
  obtain ⟨e, rfl⟩ := Int.eq_ofNat_of_zero_le hk
  rw [Int.toNat_natCast]
  exact point_ok e t _ w ⟨u1, _, r1, ⟨u2, _, bv_one rfl r2, ha, rfl⟩, rfl⟩
noncomputable def SP12 : List (FuncId × ASpec) := (66, pureSpec ptSp) :: SR4
theorem SP12ok : SpecsOk Try.prog SP12 := ⟨pureSpec_ok Try.func66 (by kernel_rfl) (by kernel_rfl) ptSp_ok, SR4ok⟩
end Go.Proofs.Ytoemaicabljpfaa
