/- sigillaw12: G1Steps: the walk. -/
import Derived.Test.YtoemaicabljpfaaMa
import Derived.Test.YtoemaicabljpfaaLv
import Derived.Test.YtoemaicabljpfaaPB
namespace Go.Proofs.Ytoemaicabljpfaa
open Ex Num Rg
set_option maxRecDepth 100000

noncomputable def SMd : List (FuncId × ASpec) := (67, inlSpec Try.prog (orc SP12 KG) Try.f67 500) :: SP12
theorem SMdok : SpecsOk Try.prog SMd := ⟨inl_ok (orc_ok SP12ok KGok) mixed Try.func67 (by kernel_rfl) (by kernel_rfl) 500, SP12ok⟩
/-- The two words of a product of two words. -/
def mm0 (a b : Nat) : Int := sumW 0 (sumW (mulLo a b) 0 0) 0
def mm1 (a b : Nat) : Int := wrapc false .u64 (wrapc false .u64 (mulHi a b + carW (mulLo a b) 0 0) + carW 0 (sumW (mulLo a b) 0 0) 0)
def mmL (a b : Nat) : List Int := [mm0 a b, mm1 a b]
theorem wrapc_u64 (z : Int) : wrapc false .u64 z = z % 18446744073709551616 := by rw [wrapc_eq]; rfl
theorem mmL_eq {a b : Nat} (ha : a < 18446744073709551616) (hb : b < 18446744073709551616) : natL (win (mmL a b) 0 2) = a * b := by
  have hp : a * b ≤ 18446744073709551615 * 18446744073709551615 := Nat.mul_le_mul (by omega) (by omega)
  have e : (a : Int) * (b : Int) = ((a * b : Nat) : Int) := by rw [Int.natCast_mul]
  have h0 : mm0 a b = ((a * b % 18446744073709551616 : Nat) : Int) := by
    unfold mm0 sumW mulLo; rw [e]; omega
  have h1 : mm1 a b = ((a * b / 18446744073709551616 : Nat) : Int) := by
    unfold mm1 carW sumW mulLo mulHi; rw [wrapc_u64, wrapc_u64, e]; omega
  show (mm0 a b).toNat + 18446744073709551616 * ((mm1 a b).toNat + 18446744073709551616 * 0) = a * b
  rw [h0, h1]; omega
noncomputable def stX (a : Nat) (P : Pt FP) : Pt FP := mulP (natL (win [(a : Int)] 0 1)) P
noncomputable def stY (a : Nat) (P : Pt FP) : Pt FP := mulP (natL (win (feL a 1) 0 2)) P
noncomputable def stZ (a b : Nat) (P : Pt FP) : Pt FP := mulP (natL (win (mmL a b) 0 2)) P
noncomputable def stO (P : Pt FP) : Pt FP := mulP (natL (win [] 0 0)) P
section
variable (x y : Nat) (i : Bool) (a b : Nat)
theorem g1Steps_1 : pureRun Try.prog (orc SMd KG) Try.f21 [g1A x y i, uA a, uA b] [true, true, true] 500 =
  some ([(true, true), (true, true), (!onP (toPt x y i), true), (decide (mulE (toPt x y i) = 120), true)], boolA (eqP (stX a (toPt x y i)) (.pt 0 0))) := by kernel_rfl
theorem g1Steps_2 : pureRun Try.prog (orc SMd KG) Try.f21 [g1A x y i, uA a, uA b] [false, true, true, false, false, true, true, true, true, true, true, true] 500 =
  some ((true, true) :: (true, true) :: (!onP (toPt x y i), false) :: tt 30 ((false, false) :: tt 3 ((false, false) :: tt 4 [(decide (mulE (toPt x y i) = 0), true), (decide (mulE (toPt x y i) = 0), true), (decide (mulE (toPt' (stX a (toPt x y i))) = 0), true), (decide (mulE (toPt x y i) = 0), true), (decide (mulE (toPt x y i) = 0), true),
    (eqP (add (toPt' (stX a (toPt x y i))) (toPt x y i)) (stY a (toPt x y i)), true), (eqP (stX b (toPt' (stX a (toPt x y i)))) (stZ a b (toPt x y i)), true)])), boolA (eqP (stO (toPt x y i)) .inf)) := by kernel_rfl
theorem g1Steps_ok (ha : a < 18446744073709551616) (hb : b < 18446744073709551616) : PureOk Try.prog 21 [g1A x y i, uA a, uA b] (.val false [.b true]) := by
  have r1 := g1Steps_1 x y i a b
  have r2 := g1Steps_2 x y i a b
  rw [toPt'_eq] at r2
  generalize toPt x y i = P at r1 r2
  cases ho : onP P with
  | false =>
    have no : ¬ onP P = true := by rw [ho]; exact Bool.false_ne_true
    have e1 : mulE P = 120 := if_neg no
    refine bool_true (pure_ok (orc_ok SMdok KGok) mixed Try.func21 r1 ⟨rfl, rfl, by rw [ho]; rfl, decide_eq_true e1, trivial⟩ rfl) (eqP_of ?_)
    exact if_neg no
  | true =>
    have hP := (onP_iff P).1 ho
    have e1 : mulE P = 0 := if_pos ho
    have eX : ∀ c, stX c P = smul c P := fun c => by unfold stX mulP; rw [if_pos ho, natL_1]
    have hX : onP (stX a P) = true := by rw [eX]; exact (onP_iff _).2 (on_smul C1 hP a)
    have e2 : mulE (stX a P) = 0 := if_pos hX
    refine bool_true (pure_ok (orc_ok SMdok KGok) mixed Try.func21 r2 ⟨rfl, rfl, by rw [ho]; rfl, tt_ok 30 ⟨rfl, tt_ok 3 ⟨rfl, tt_ok 4 ⟨decide_eq_true e1, decide_eq_true e1, decide_eq_true e2, decide_eq_true e1, decide_eq_true e1, eqP_of ?_, eqP_of ?_, trivial⟩⟩⟩⟩ rfl) (eqP_of ?_)
    · unfold stY mulP
      rw [if_pos ho, eX, feL_eq ha (by omega), smul_add C1 hP]
      congr 1
    · rw [eX]
      unfold stX stZ mulP
      rw [if_pos ho, if_pos ((onP_iff _).2 (on_smul C1 hP a)), natL_1, mmL_eq ha hb]
      exact (smul_mul C1 hP a b).symm
    · unfold stO mulP
      rw [if_pos ho]; rfl
end
theorem g1Steps_walk : LawWalk Try.prog 21 Try.f21 := walk_of fun H enc us W base ds ps hv hA => by
  have hp : Try.f21.params.toList = [49, 22, 22] := by kernel_rfl
  have hp' : Try.f21.params = #[49, 22, 22] := by kernel_rfl
  rw [hp] at hA
  rw [hp'] at hv
  obtain ⟨v1, us1, d1, ds1, p1, q1, rfl, rfl, t1, hA⟩ := args_cons hA
  obtain ⟨v2, us2, d2, ds2, p2, q2, rfl, rfl, t2, hA⟩ := args_cons hA
  obtain ⟨v3, us3, d3, ds3, p3, q3, rfl, rfl, t3, hA⟩ := args_cons hA
  obtain rfl := args0 hA rfl
  obtain ⟨x, y, i, r1⟩ := g1_arg (hv 0 _ v1 rfl rfl) t1
  obtain ⟨a, ha, r2⟩ := u64_arg (hv 1 _ v2 rfl rfl) t2
  obtain ⟨b, hb, r3⟩ := u64_arg (hv 2 _ v3 rfl rfl) t3
  exact ⟨[g1A x y i, uA a, uA b], ⟨v1, _, r1 _, ⟨v2, _, r2 _, ⟨v3, _, r3 _, rfl, rfl⟩, rfl⟩, rfl⟩, g1Steps_ok x y i a b ha hb⟩
end Go.Proofs.Ytoemaicabljpfaa
