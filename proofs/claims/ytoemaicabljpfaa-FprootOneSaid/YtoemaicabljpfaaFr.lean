/- sigillaw05's laws of squares: FprootBack, FprootOne, FprootProducts. -/
import Derived.Test.YtoemaicabljpfaaFq
import Derived.Test.YtoemaicabljpfaaNb
namespace Go.Proofs.Ytoemaicabljpfaa
open Ex Num
set_option maxRecDepth 100000

theorem pN_prime : Num.Prime pN := prp
theorem pN4 : pN % 4 = 3 := by kernel_rfl
theorem pN_gt : 2 < pN := by decide
theorem QN_eq : QN = (pN + 1) / 4 := by kernel_rfl
noncomputable def chiN (a : Nat) : Nat := a ^ ((pN - 1) / 2) % pN
theorem dvdN {a : Nat} : pN ∣ a ↔ a % pN = 0 := ⟨Nat.mod_eq_zero_of_dvd, Nat.dvd_of_mod_eq_zero⟩
theorem isSqN_iff {a : Nat} (h : a % pN ≠ 0) : isSqN a = true ↔ chiN a = 1 := by
  unfold isSqN mulN powN chiN
  rw [QN_eq, decide_eq_true_eq]
  exact isSq_iff pN_prime pN4 fun hd => h (dvdN.1 hd)
theorem isSqN_zero {a : Nat} (h : a % pN = 0) : isSqN a = true := by
  unfold isSqN mulN powN
  rw [decide_eq_true_eq, Nat.pow_mod, h, Nat.zero_pow (by decide)]
  rfl
theorem chiN_cases {a : Nat} (h : a % pN ≠ 0) : chiN a = 1 ∨ chiN a = pN - 1 := chi_cases pN_prime pN_gt pN_odd fun hd => h (dvdN.1 hd)
theorem chiN_mul (a b : Nat) : chiN (mulN a b) = chiN a * chiN b % pN := chi_mul pN a b _
theorem chiN_neg (a : Nat) : chiN (negN a) = (pN - 1) * chiN a % pN := chi_neg (by decide) pN4
theorem isSqN_eq {a : Nat} (h : a % pN ≠ 0) : isSqN a = decide (chiN a = 1) := by
  have := isSqN_iff h
  cases hb : isSqN a with
  | true => rw [decide_eq_true (this.1 hb)]
  | false => rw [decide_eq_false fun e => by rw [this.2 e] at hb; cases hb]
theorem mm : (pN - 1) * (pN - 1) % pN = 1 := by kernel_rfl
theorem m1 : (pN - 1) * 1 % pN = pN - 1 := by kernel_rfl
theorem m1' : 1 * (pN - 1) % pN = pN - 1 := by kernel_rfl
theorem neg_one_ne : pN - 1 ≠ 1 := by decide
theorem isSqN_neg {a : Nat} (h : a % pN ≠ 0) : isSqN (negN a) = !isSqN a := by
  have hn : negN a % pN ≠ 0 := by
    have := modp_lt a
    rw [negN_val h, Nat.mod_eq_of_lt (by omega)]; omega
  rw [isSqN_eq hn, isSqN_eq h, chiN_neg]
  rcases chiN_cases h with e | e
  · rw [e, m1]; rfl
  · rw [e, mm]; rfl
theorem mulN_ne {a b : Nat} (ha : a % pN ≠ 0) (hb : b % pN ≠ 0) : mulN a b ≠ 0 := fun h => by
  rcases pN_prime.dvd_mul (dvdN.2 h) with q | q
  · exact ha (dvdN.1 q)
  · exact hb (dvdN.1 q)
theorem mulN_zero {a b : Nat} (h : mulN a b ≠ 0) : a % pN ≠ 0 ∧ b % pN ≠ 0 := by
  constructor
  · intro e; apply h; unfold mulN; rw [Nat.mul_mod, e, Nat.zero_mul, Nat.zero_mod]
  · intro e; apply h; unfold mulN; rw [Nat.mul_mod, e, Nat.mul_zero, Nat.zero_mod]
theorem mulN_lt (a b : Nat) : mulN a b < pN := Nat.mod_lt _ pN_pos
theorem isSqN_mul {a b : Nat} (h : mulN a b ≠ 0) : isSqN (mulN a b) = (isSqN a == isSqN b) := by
  obtain ⟨ha, hb⟩ := mulN_zero h
  rw [isSqN_eq (by rw [Nat.mod_eq_of_lt (mulN_lt a b)]; exact h), isSqN_eq ha, isSqN_eq hb, chiN_mul]
  rcases chiN_cases ha with e | e <;> rcases chiN_cases hb with e' | e' <;> rw [e, e']
  · rfl
  · rw [m1']; rfl
  · rw [m1]; rfl
  · rw [mm]; rfl
theorem isSqN_sq (a : Nat) : isSqN (mulN a a) = true := by
  by_cases h : mulN a a = 0
  · rw [h]; exact isSqN_0
  · rw [isSqN_mul h]; simp

/- roots -/
theorem neg_sq {v : Nat} (hl : v < pN) : (pN - v) * (pN - v) % pN = v * v % pN := by
  obtain ⟨u, hu⟩ : ∃ u, pN = u + v := ⟨pN - v, by omega⟩
  rw [show pN - v = u by omega]
  have e : u * u + v * pN = v * v + u * pN := by rw [hu, Nat.mul_add, Nat.mul_add, Nat.mul_comm v u]; omega
  have h1 : (u * u + v * pN) % pN = u * u % pN := Nat.add_mul_mod_self_right _ _ _
  have h2 : (v * v + u * pN) % pN = v * v % pN := Nat.add_mul_mod_self_right _ _ _
  rw [← h1, e, h2]
theorem evenN_sq (w : Nat) : mulN (evenN w) (evenN w) = mulN w w := by
  unfold evenN
  split
  · unfold mulN negN
    rw [← Nat.mul_mod]
    by_cases h : w % pN = 0
    · rw [h, Nat.sub_zero, Nat.mul_mod pN, Nat.mod_self, Nat.mul_mod w, h]
    · have e : (pN - w % pN) * (pN - w % pN) % pN = (w % pN) * (w % pN) % pN := by
        have hl := modp_lt w
        generalize w % pN = v at *
        exact neg_sq hl
      rw [e, ← Nat.mul_mod]
  · rfl
theorem evenN_even {w : Nat} (h : w < pN) : evenN w % 2 = 0 ∧ evenN w < pN := by
  have ho := pN_odd
  unfold evenN
  split
  · rename_i hs
    have h1 : w % 2 = 1 := by unfold signN at hs; rw [Nat.mod_eq_of_lt h] at hs; omega
    have hz : w % pN ≠ 0 := by rw [Nat.mod_eq_of_lt h]; omega
    rw [negN_val hz, Nat.mod_eq_of_lt h]; omega
  · rename_i hs
    have h1 : w % 2 ≠ 1 := fun e => by apply hs; unfold signN; rw [Nat.mod_eq_of_lt h]; omega
    omega
theorem powN_lt (a e : Nat) : powN a e < pN := Nat.mod_lt _ pN_pos
theorem rootN_spec {a : Nat} (h : isSqN a = true) : mulN (rootN a) (rootN a) = a % pN ∧ rootN a % 2 = 0 ∧ rootN a < pN := by
  have e : rootN a = evenN (powN a QN) := by unfold rootN; rw [if_pos h]
  obtain ⟨q1, q2⟩ := evenN_even (powN_lt a QN)
  rw [e, evenN_sq]
  refine ⟨?_, q1, q2⟩
  unfold isSqN at h
  exact of_decide_eq_true h
theorem root_back (a : Nat) : rootN (mulN a a) = a % pN ∨ rootN (mulN a a) = negN a := by
  obtain ⟨h1, _, h3⟩ := rootN_spec (isSqN_sq a)
  have hl := modp_lt a
  have h4 : rootN (mulN a a) * rootN (mulN a a) % pN = a % pN * (a % pN) % pN := by
    have : mulN a a % pN = a * a % pN := Nat.mod_mod _ _
    rw [this] at h1
    rw [← Nat.mul_mod]; exact h1
  rcases sq_eq pN_prime h3 hl h4 with e | e
  · exact .inl e
  · refine .inr ?_
    by_cases hz : a % pN = 0
    · omega
    · rw [negN_val hz]; omega

/- the laws -/
theorem tmod_two {x : Nat} (h : x % 2 = 0) : decide (Int.tmod (wordN x 0) 2 = 0) = true := by
  rw [word0_mod2, Int.tmod_eq_emod_of_nonneg (by omega)]
  simp only [decide_eq_true_eq]; omega
theorem word_pos (x : Nat) : decide (0 ≤ wordN x 0 ∧ (0 : Int) < 2) = true := by
  have := word_bd x 0
  simp only [decide_eq_true_eq]; omega
theorem back_one (a : Nat) : pureRun Try.prog (orc S19 K0) Try.f3 [num6 a] [true, true, true, true, true] 200 =
  some ([(isSqN (mulN a a), true), (isSqN (mulN a a), true), (decide (rootN (mulN a a) = a % pN), true), (decide (0 ≤ wordN (rootN (mulN a a)) 0 ∧ (0 : Int) < 2), true), (decide (Int.tmod (wordN (rootN (mulN a a)) 0) 2 = 0), true)],
    boolA (decide (mulN (rootN (mulN a a)) (rootN (mulN a a)) = mulN a a))) := by kernel_rfl
theorem back_two (a : Nat) : pureRun Try.prog (orc S19 K0) Try.f3 [num6 a] [true, true, false, true, true] 200 =
  some ([(isSqN (mulN a a), true), (isSqN (mulN a a), true), (decide (rootN (mulN a a) = a % pN), false), (decide (rootN (mulN a a) = negN a), true), (decide (0 ≤ wordN (rootN (mulN a a)) 0 ∧ (0 : Int) < 2), true), (decide (Int.tmod (wordN (rootN (mulN a a)) 0) 2 = 0), true)],
    boolA (decide (mulN (rootN (mulN a a)) (rootN (mulN a a)) = mulN a a))) := by kernel_rfl
theorem back_ok (a : Nat) : PureOk Try.prog 3 [num6 a] (.val false [.b true]) := by
  have h0 := isSqN_sq a
  obtain ⟨h1, h2, h3⟩ := rootN_spec h0
  have h4 : decide (mulN (rootN (mulN a a)) (rootN (mulN a a)) = mulN a a) = true := by
    rw [h1, Nat.mod_eq_of_lt (mulN_lt a a)]; simp
  by_cases hr : rootN (mulN a a) = a % pN
  · exact bool_true (pure_ok (orc_ok S19ok K0ok) mixed Try.func3 (back_one a) ⟨h0, h0, decide_eq_true hr, word_pos _, tmod_two h2, trivial⟩ rfl) h4
  · have hn := (root_back a).resolve_left hr
    exact bool_true (pure_ok (orc_ok S19ok K0ok) mixed Try.func3 (back_two a) ⟨h0, h0, decide_eq_false hr, decide_eq_true hn, word_pos _, tmod_two h2, trivial⟩ rfl) h4
theorem one_zero (a : Nat) : pureRun Try.prog (orc S19 K0) Try.f4 [num6 a] [true, true, true, true] 200 =
  some ([(decide (a % pN = 0), true), (isSqN a, true), (isSqN (negN a), true), (isSqN a, true)], boolA (decide (rootN a = a % pN))) := by kernel_rfl
theorem one_yes (a : Nat) : pureRun Try.prog (orc S19 K0) Try.f4 [num6 a] [false, true, true, true, true] 200 =
  some ([(decide (a % pN = 0), false), (!(isSqN a == isSqN (negN a)), true), (isSqN a == isSqN a, true), (isSqN a, true), (decide (mulN (rootN a) (rootN a) = a % pN), true)], .val false [.b true]) := by kernel_rfl
theorem one_no (a : Nat) : pureRun Try.prog (orc S19 K0) Try.f4 [num6 a] [false, true, true, false, true] 200 =
  some ([(decide (a % pN = 0), false), (!(isSqN a == isSqN (negN a)), true), (isSqN a == isSqN a, true), (isSqN a, false), (!isSqN a, true)], boolA (decide (rootN a = 0))) := by kernel_rfl
theorem one_ok (a : Nat) : PureOk Try.prog 4 [num6 a] (.val false [.b true]) := by
  by_cases hz : a % pN = 0
  · have h0 := isSqN_zero hz
    refine bool_true (pure_ok (orc_ok S19ok K0ok) mixed Try.func4 (one_zero a) ⟨decide_eq_true hz, h0, by rw [negN_zero hz]; exact isSqN_0, h0, trivial⟩ rfl) ?_
    obtain ⟨h1, h2, h3⟩ := rootN_spec h0
    rw [hz] at h1 ⊢
    have : rootN a * rootN a % pN = 0 * 0 % pN := h1
    rcases sq_eq pN_prime h3 pN_pos this with e | e
    · exact decide_eq_true e
    · omega
  · have hn := isSqN_neg hz
    cases hs : isSqN a with
    | true =>
      obtain ⟨h1, _, _⟩ := rootN_spec hs
      exact pure_ok (orc_ok S19ok K0ok) mixed Try.func4 (one_yes a) ⟨decide_eq_false hz, by rw [hn, hs]; rfl, by simp, hs, decide_eq_true h1, trivial⟩ rfl
    | false =>
      refine bool_true (pure_ok (orc_ok S19ok K0ok) mixed Try.func4 (one_no a) ⟨decide_eq_false hz, by rw [hn, hs]; rfl, by simp, hs, by rw [hs]; rfl, trivial⟩ rfl) ?_
      unfold rootN; rw [if_neg (by rw [hs]; simp)]; rfl
theorem prod_zero (a b : Nat) : pureRun Try.prog (orc S19 K0) Try.f5 [num6 a, num6 b] [true] 200 = some ([(decide (mulN a b = 0), true)], boolA (isSqN (mulN a b))) := by kernel_rfl
theorem prod_run (a b : Nat) : pureRun Try.prog (orc S19 K0) Try.f5 [num6 a, num6 b] [false] 200 = some ([(decide (mulN a b = 0), false)], boolA (isSqN (mulN a b) == (isSqN a == isSqN b))) := by kernel_rfl
theorem prod_ok (a b : Nat) : PureOk Try.prog 5 [num6 a, num6 b] (.val false [.b true]) := by
  by_cases h : mulN a b = 0
  · exact bool_true (pure_ok (orc_ok S19ok K0ok) mixed Try.func5 (prod_zero a b) ⟨decide_eq_true h, trivial⟩ rfl) (by rw [h]; exact isSqN_0)
  · exact bool_true (pure_ok (orc_ok S19ok K0ok) mixed Try.func5 (prod_run a b) ⟨decide_eq_false h, trivial⟩ rfl) (by rw [isSqN_mul h]; simp)
theorem fprootBack_walk : LawWalk Try.prog 3 Try.f3 :=
  fps_walk (n := 1) (by kernel_rfl) fun xs h _ => by
    obtain ⟨a, rfl⟩ := List.length_eq_one_iff.1 h
    exact back_ok a
theorem fprootOne_walk : LawWalk Try.prog 4 Try.f4 :=
  fps_walk (n := 1) (by kernel_rfl) fun xs h _ => by
    obtain ⟨a, rfl⟩ := List.length_eq_one_iff.1 h
    exact one_ok a
theorem fprootProducts_walk : LawWalk Try.prog 5 Try.f5 :=
  fps_walk (n := 2) (by kernel_rfl) fun xs h _ => by
    obtain ⟨a, b, rfl⟩ := len2 h
    exact prod_ok a b
end Go.Proofs.Ytoemaicabljpfaa
