/- sigillaw05.FprootSides: the law. -/
import Derived.Test.YtoemaicabljpfaaFp
import Derived.Test.YtoemaicabljpfaaLa
namespace Go.Proofs.Ytoemaicabljpfaa
open Ex
set_option maxRecDepth 100000

def PL : List Int := [0xb9feffffffffaaab, 0x1eabfffeb153ffff, 0x6730d2a0f6b0f624, 0x64774b84f38512bf, 0x4b1ba7b6434bacd7, 0x1a0111ea397fe69a]
def sdC (a : Nat) : Int := ((addC (ws6 (a % pN)) 0 6 (ws6 (a % pN)) 0 6 6 : Nat) : Int)
def sdO (a : Nat) : Bool := decide (0 < cmpI (natL (win (outL (addS (ws6 (a % pN)) 0 6 (ws6 (a % pN)) 0 6) 6 6) 0 6)) (natL (win PL 0 6)))
theorem sides_zero (a : Nat) : pureRun Try.prog (orc S19 K0) Try.f6 [num6 a] [true, true] 200 = some ([(decide (a % pN = 0), true), (decide (signN a = 0), true)], boolA (!biggerN a)) := by kernel_rfl
theorem sides_run (a : Nat) : pureRun Try.prog (orc S19 K0) Try.f6 [num6 a] [false, false, true, true, true] 200 =
  some ((decide (a % pN = 0), false) :: (allT 6 ++ (decide (sdC a = 1), false) :: (allT 4 ++ [(decide (wI (signN (a % pN) + signN (negN a)) = 1), true), (!(biggerN (a % pN) == biggerN (negN a)), true), (biggerN a == sdO a, true), (true, true)])),
    boolA (decide (signN a = wI (Int.tmod (wordN (a % pN) 0) 2)))) := by kernel_rfl
theorem natL_ws6 {x : Nat} (h : x < RR) : natL (win (ws6 x) 0 6) = x := natL_num6 h
theorem natL_outL {S L : Nat} (h : S < 2 ^ (64 * L)) : natL (win (outL S L L) 0 L) = S := by
  unfold outL win
  rw [Nat.sub_self, List.replicate_zero, List.append_nil, List.drop_zero, List.take_of_length_le (by simp)]
  have gen : ∀ (L S : Nat), S < 2 ^ (64 * L) → natL ((List.range L).map (wordN S)) = S := by
    intro L
    induction L with
    | zero => intro S h; simp at h; subst h; rfl
    | succ L ih =>
      intro S h
      rw [List.range_succ_eq_map, List.map_cons, List.map_map]
      have e : (wordN S ∘ Nat.succ) = wordN (S / 2 ^ 64) := by
        funext i
        exact wordN_succ S i |>.symm ▸ rfl
      rw [e]
      simp only [natL]
      rw [ih (S / 2 ^ 64) (by rw [show 64 * (L + 1) = 64 + 64 * L by omega, Nat.pow_add] at h; exact Nat.div_lt_of_lt_mul h), wordN_nat, Nat.mul_zero, Nat.pow_zero, Nat.div_one]
      omega
  exact gen L S h
theorem natL_PL : natL (win PL 0 6) = pN := by kernel_rfl
theorem sdO_eq (a : Nat) : sdO a = decide (pN < a % pN + a % pN) := by
  have hx := lt_RR_mod a
  have hp := modp_lt a
  have h2 : pN + pN < RR := pN_RR
  have hs : addS (ws6 (a % pN)) 0 6 (ws6 (a % pN)) 0 6 = a % pN + a % pN := by unfold addS; rw [natL_ws6 hx]
  unfold sdO
  rw [hs, natL_outL (by rw [← RR_eq]; omega), natL_PL]
  unfold cmpI
  by_cases h1 : a % pN + a % pN < pN
  · rw [if_pos h1, decide_eq_false (by omega), decide_eq_false (by omega)]
  · by_cases h3 : pN < a % pN + a % pN
    · rw [if_neg h1, if_pos h3, decide_eq_true h3]; rfl
    · rw [if_neg h1, if_neg h3, decide_eq_false h3]; rfl
theorem sdC_eq (a : Nat) : sdC a = 0 := by
  have hx := lt_RR_mod a
  have hp := modp_lt a
  have h2 : pN + pN < RR := pN_RR
  unfold sdC addC cyN
  rw [natL_ws6 hx, ← RR_eq, Nat.mod_eq_of_lt hx, Nat.div_eq_of_lt (by omega)]
  rfl
theorem negN_val {a : Nat} (h : a % pN ≠ 0) : negN a = pN - a % pN := by
  have hp := modp_lt a
  unfold negN
  rw [Nat.mod_eq_of_lt (by omega)]
theorem negN_zero {a : Nat} (h : a % pN = 0) : negN a = 0 := by
  unfold negN
  rw [h, Nat.sub_zero, Nat.mod_self]
theorem bool_true {a : Bool} {f : FuncId} {args : List AV} (h : PureOk Try.prog f args (boolA a)) (ha : a = true) : PureOk Try.prog f args (.val false [.b true]) :=
  pure_val h fun _ ⟨l1, l2, ⟨h1, _⟩, h3, h4⟩ => ⟨l1, l2, h1.trans (congrArg (fun b => [Value.bool b]) ha), h3, h4⟩
theorem pN_odd : pN % 2 = 1 := by kernel_rfl
theorem sides_ok (a : Nat) : PureOk Try.prog 6 [num6 a] (.val false [.b true]) := by
  have hp := modp_lt a
  have hodd := pN_odd
  by_cases h : a % pN = 0
  · have hb : biggerN a = false := by unfold biggerN; rw [h, negN_zero h]; rfl
    refine bool_true (pure_ok (orc_ok S19ok K0ok) mixed Try.func6 (sides_zero a) ⟨by simp [h], ?_, trivial⟩ rfl) (by rw [hb]; rfl)
    unfold signN; rw [h]; rfl
  · have hn := negN_val h
    have s1 : signN (a % pN) = ((a % pN % 2 : Nat) : Int) := by unfold signN; rw [Nat.mod_mod]
    have s2 : signN (negN a) = (((pN - a % pN) % 2 : Nat) : Int) := by unfold signN; rw [hn, Nat.mod_eq_of_lt (a := pN - a % pN) (by omega)]
    have n2 : negN (negN a) = a % pN := by
      rw [negN_val (a := negN a) (by rw [hn, Nat.mod_eq_of_lt (by omega)]; omega), hn, Nat.mod_eq_of_lt (a := pN - a % pN) (by omega)]; omega
    have b1 : biggerN (a % pN) = decide (pN - a % pN < a % pN) := by
      unfold biggerN
      have : negN (a % pN) = negN a := by unfold negN; rw [Nat.mod_mod]
      rw [this, hn, Nat.mod_mod]
    have b0 : biggerN a = decide (pN - a % pN < a % pN) := by unfold biggerN; rw [hn]
    have b2 : biggerN (negN a) = decide (a % pN < pN - a % pN) := by unfold biggerN; rw [n2, hn, Nat.mod_eq_of_lt (a := pN - a % pN) (by omega)]
    refine bool_true (pure_ok (orc_ok S19ok K0ok) mixed Try.func6 (sides_run a) ?_ rfl) ?_
    · refine ⟨by simp [h], rfl, rfl, rfl, rfl, rfl, rfl, ?_, rfl, rfl, rfl, rfl, ?_, ?_, ?_, rfl, trivial⟩
      · rw [sdC_eq]; rfl
      · rw [s1, s2, wI_eq (by omega)]; simp only [decide_eq_true_eq]; omega
      · rw [b1, b2]
        by_cases hlt : pN - a % pN < a % pN
        · rw [decide_eq_true hlt, decide_eq_false (by omega)]; rfl
        · rw [decide_eq_false hlt, decide_eq_true (by omega)]; rfl
      · rw [b0, sdO_eq]
        by_cases hlt : pN - a % pN < a % pN
        · rw [decide_eq_true hlt, decide_eq_true (by omega)]; rfl
        · rw [decide_eq_false hlt, decide_eq_false (by omega)]; rfl
    · rw [word0_mod2, Int.tmod_eq_emod_of_nonneg (by omega), wI_eq (by omega)]
      unfold signN
      simp only [decide_eq_true_eq]
      omega
theorem fprootSides_walk : LawWalk Try.prog 6 Try.f6 :=
  fps_walk (n := 1) (by kernel_rfl) fun xs h _ => by
    obtain ⟨a, rfl⟩ := List.length_eq_one_iff.1 h
    exact sides_ok a
end Go.Proofs.Ytoemaicabljpfaa
