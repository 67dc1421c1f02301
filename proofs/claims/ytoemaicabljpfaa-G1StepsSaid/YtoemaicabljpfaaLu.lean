/- sigillaw04: awake; FpNames, FpSums, FpProducts, FpField, FpUndoes. -/
import Derived.Test.YtoemaicabljpfaaPD
import Derived.Test.YtoemaicabljpfaaPC
namespace Go.Proofs.Ytoemaicabljpfaa
open Ex Num
set_option maxRecDepth 100000

noncomputable def aw4C : List (Bool × Bool) := [(true, true), (true, true), (true, true), (true, true), (decide (addN (invN 2) (invN 2) = 1), true), (decide (fbE 0 (natB (win [] 0 0)) = 40), true)]
theorem aw4_run : pureRun Try.prog (orc SZ K0) Try.f37 [] [true, true, true, true, true, true] 300 = some (aw4C, boolA (decide (natL PL % pN = 0))) := by kernel_rfl
theorem half_inv : addN (invN 2) (invN 2) = 1 := by
  refine tf_lt (addN_lt _ _) (show 1 < pN by decide) ?_
  have h := tf_invN (a := 2) (by decide)
  have e : tf 2 = 1 + 1 := by rw [← tf_one, ← tf_add]
  rw [tf_addN, tf_one, ← h, e]; grind
theorem aw4_ok : PureOk Try.prog 37 [] (.val false [.b true]) :=
  bool_true (pure_ok (orc_ok SZok K0ok) mixed Try.func37 aw4_run ⟨rfl, rfl, rfl, rfl, decide_eq_true half_inv, rfl, trivial⟩ rfl) (by rw [natL_PL', Nat.mod_self]; rfl)
def yes0 : List AV → Option AV
  | [] => some (.val false [.b true])
  | _ => none
noncomputable def SA4 : List (FuncId × ASpec) := (37, pureSpec yes0) :: SZ
theorem SA4ok : SpecsOk Try.prog SA4 := ⟨pureSpec_ok Try.func37 (by kernel_rfl) (by kernel_rfl) (sp0_ok aw4_ok fun u h => h), SZok⟩
theorem tfl {x y : Nat} (hx : x < pN) (hy : y < pN) (h : tf x = tf y) : x = y := tf_lt hx hy h
theorem fpNames_run : pureRun Try.prog (orc SA4 K0) Try.f7 [] [] 300 = some ([], boolA true) := by kernel_rfl
theorem fpNames_walk : LawWalk Try.prog 7 Try.f7 := fps_walk (n := 0) (by kernel_rfl) fun xs h _ => by
  obtain rfl := List.length_eq_zero_iff.1 h
  exact bool_true (pure_ok (orc_ok SA4ok K0ok) mixed Try.func7 fpNames_run trivial rfl) rfl
theorem fpSums_run (a b : Nat) : pureRun Try.prog (orc SA4 K0) Try.f8 [num6 a, num6 b] [true, true, true] 300 =
  some ([(decide (a % pN = a % pN), true), (decide (addN a b = addN a b), true), (decide (subN a b = subN a b), true)], boolA (decide (negN a = negN a))) := by kernel_rfl
theorem fpSums_walk : LawWalk Try.prog 8 Try.f8 := fps_walk (n := 2) (by kernel_rfl) fun xs h _ => by
  obtain ⟨a, b, rfl⟩ := len2 h
  exact bool_true (pure_ok (orc_ok SA4ok K0ok) mixed Try.func8 (fpSums_run a b) ⟨decide_eq_true rfl, decide_eq_true rfl, decide_eq_true rfl, trivial⟩ rfl) (decide_eq_true rfl)
theorem fpProducts_run (a b : Nat) : pureRun Try.prog (orc SA4 K0) Try.f15 [num6 a, num6 b] [true] 300 =
  some ([(decide (mulN a b = mulN a b), true)], boolA (decide (invN a = invN a))) := by kernel_rfl
theorem fpProducts_walk : LawWalk Try.prog 15 Try.f15 := fps_walk (n := 2) (by kernel_rfl) fun xs h _ => by
  obtain ⟨a, b, rfl⟩ := len2 h
  exact bool_true (pure_ok (orc_ok SA4ok K0ok) mixed Try.func15 (fpProducts_run a b) ⟨decide_eq_true rfl, trivial⟩ rfl) (decide_eq_true rfl)
theorem fpField_run (a b c : Nat) : pureRun Try.prog (orc SA4 K0) Try.f9 [num6 a, num6 b, num6 c] [true, true, true, true, true, true, true] 300 =
  some ([(decide (addN a b = addN b a), true), (decide (addN (addN a b) c = addN a (addN b c)), true), (decide (mulN a b = mulN b a), true), (decide (mulN (mulN a b) c = mulN a (mulN b c)), true), (decide (mulN a (addN b c) = addN (mulN a b) (mulN a c)), true), (decide (addN a 0 = a % pN), true), (decide (mulN a 1 = a % pN), true)], boolA (decide (mulN a 0 = 0))) := by kernel_rfl
theorem fpField_walk : LawWalk Try.prog 9 Try.f9 := fps_walk (n := 3) (by kernel_rfl) fun xs h _ => by
  obtain ⟨a, b, c, rfl⟩ := len3 h
  refine bool_true (pure_ok (orc_ok SA4ok K0ok) mixed Try.func9 (fpField_run a b c) ⟨decide_eq_true ?_, decide_eq_true ?_, decide_eq_true ?_, decide_eq_true ?_, decide_eq_true ?_, decide_eq_true ?_, decide_eq_true ?_, trivial⟩ rfl) (decide_eq_true ?_)
  · exact tfl (addN_lt _ _) (addN_lt _ _) (by simp only [tf_addN]; grind)
  · exact tfl (addN_lt _ _) (addN_lt _ _) (by simp only [tf_addN]; grind)
  · exact tfl (mulN_lt _ _) (mulN_lt _ _) (by simp only [tf_mulN]; grind)
  · exact tfl (mulN_lt _ _) (mulN_lt _ _) (by simp only [tf_mulN]; grind)
  · exact tfl (mulN_lt _ _) (addN_lt _ _) (by simp only [tf_mulN, tf_addN]; grind)
  · exact tfl (addN_lt _ _) (modp_lt a) (by simp only [tf_addN, tf_mod, tf_zero]; grind)
  · exact tfl (mulN_lt _ _) (modp_lt a) (by simp only [tf_mulN, tf_mod, tf_one]; grind)
  · exact tfl (mulN_lt _ _) pN_pos (by simp only [tf_mulN, tf_zero]; grind)
def unC (a b : Nat) : List (Bool × Bool) := [(decide (subN (addN a b) b = a % pN), true), (decide (addN a (negN a) = 0), true)]
theorem fpUndoes_00 (a b : Nat) : pureRun Try.prog (orc SA4 K0) Try.f10 [num6 a, num6 b] [true, true, true, true, true, true, true] 300 =
  some (unC a b ++ [(decide (b % pN = 0), true), (decide (invN b = 0), true), (decide (subN a b = negN (subN b a)), true), (decide (a % pN = 0), true), (decide (mulN a b = 0) == true, true)], boolA (decide (invN (invN b) = b % pN))) := by kernel_rfl
theorem fpUndoes_01 (a b : Nat) : pureRun Try.prog (orc SA4 K0) Try.f10 [num6 a, num6 b] [true, true, true, true, true, false, true] 300 =
  some (unC a b ++ [(decide (b % pN = 0), true), (decide (invN b = 0), true), (decide (subN a b = negN (subN b a)), true), (decide (a % pN = 0), false), (decide (mulN a b = 0) == decide (b % pN = 0), true)], boolA (decide (invN (invN b) = b % pN))) := by kernel_rfl
theorem fpUndoes_10 (a b : Nat) : pureRun Try.prog (orc SA4 K0) Try.f10 [num6 a, num6 b] [true, true, false, true, true, true, true, true, true] 300 =
  some (unC a b ++ [(decide (b % pN = 0), false), (!decide (b % pN = 0), true), (decide (mulN b (invN b) = 1), true), (decide (subN a b = negN (subN b a)), true), (decide (mulN (mulN a b) (invN b) = a % pN), true), (decide (a % pN = 0), true), (decide (mulN a b = 0) == true, true)], boolA (decide (invN (invN b) = b % pN))) := by kernel_rfl
theorem fpUndoes_11 (a b : Nat) : pureRun Try.prog (orc SA4 K0) Try.f10 [num6 a, num6 b] [true, true, false, true, true, true, true, false, true] 300 =
  some (unC a b ++ [(decide (b % pN = 0), false), (!decide (b % pN = 0), true), (decide (mulN b (invN b) = 1), true), (decide (subN a b = negN (subN b a)), true), (decide (mulN (mulN a b) (invN b) = a % pN), true), (decide (a % pN = 0), false), (decide (mulN a b = 0) == decide (b % pN = 0), true)], boolA (decide (invN (invN b) = b % pN))) := by kernel_rfl
theorem invN_inv (b : Nat) : invN (invN b) = b % pN := by
  by_cases h : b % pN = 0
  · rw [h, invN_zero h]; exact invN_zero rfl
  · have h1 := tf_invN h
    have e : b % pN = invN (invN b) := inv_unique (modp_lt b) (by rw [tf_mod]; grind)
    exact e.symm
theorem fpUndoes_walk : LawWalk Try.prog 10 Try.f10 := fps_walk (n := 2) (by kernel_rfl) fun xs h _ => by
  obtain ⟨a, b, rfl⟩ := len2 h
  have u1 : subN (addN a b) b = a % pN := tfl (subN_lt _ _) (modp_lt a) (by simp only [tf_subN, tf_addN, tf_mod]; grind)
  have u2 : addN a (negN a) = 0 := tfl (addN_lt _ _) pN_pos (by simp only [tf_negN, tf_addN, tf_zero]; grind)
  have u3 : subN a b = negN (subN b a) := tfl (subN_lt _ _) (negN_lt _) (by simp only [tf_subN, tf_negN]; grind)
  have uc : okConds (unC a b) := ⟨decide_eq_true u1, decide_eq_true u2, trivial⟩
  have ui := decide_eq_true (invN_inv b)
  by_cases hb : b % pN = 0
  · have i0 := invN_zero hb
    have m0 : mulN a b = 0 := by unfold mulN; rw [Nat.mul_mod, hb, Nat.mul_zero, Nat.zero_mod]
    by_cases ha : a % pN = 0
    · exact bool_true (pure_ok (orc_ok SA4ok K0ok) mixed Try.func10 (fpUndoes_00 a b) (ok_app uc ⟨decide_eq_true hb, decide_eq_true i0, decide_eq_true u3, decide_eq_true ha, by rw [decide_eq_true m0]; rfl, trivial⟩) rfl) ui
    · exact bool_true (pure_ok (orc_ok SA4ok K0ok) mixed Try.func10 (fpUndoes_01 a b) (ok_app uc ⟨decide_eq_true hb, decide_eq_true i0, decide_eq_true u3, decide_eq_false ha, by rw [decide_eq_true m0, decide_eq_true hb]; rfl, trivial⟩) rfl) ui
  · have i1 : mulN b (invN b) = 1 := tfl (mulN_lt _ _) (by decide) (by rw [tf_mulN, tf_invN hb, tf_one])
    have i2 : mulN (mulN a b) (invN b) = a % pN := tfl (mulN_lt _ _) (modp_lt a) (by
      have := tf_invN hb
      simp only [tf_mulN, tf_mod]; grind)
    by_cases ha : a % pN = 0
    · have m0 : mulN a b = 0 := by unfold mulN; rw [Nat.mul_mod, ha, Nat.zero_mul, Nat.zero_mod]
      exact bool_true (pure_ok (orc_ok SA4ok K0ok) mixed Try.func10 (fpUndoes_10 a b) (ok_app uc ⟨decide_eq_false hb, by rw [decide_eq_false hb]; rfl, decide_eq_true i1, decide_eq_true u3, decide_eq_true i2, decide_eq_true ha, by rw [decide_eq_true m0]; rfl, trivial⟩) rfl) ui
    · have m1 := mulN_ne ha hb
      exact bool_true (pure_ok (orc_ok SA4ok K0ok) mixed Try.func10 (fpUndoes_11 a b) (ok_app uc ⟨decide_eq_false hb, by rw [decide_eq_false hb]; rfl, decide_eq_true i1, decide_eq_true u3, decide_eq_true i2, decide_eq_false ha, by rw [decide_eq_false m1, decide_eq_false hb]; rfl, trivial⟩) rfl) ui
end Go.Proofs.Ytoemaicabljpfaa
