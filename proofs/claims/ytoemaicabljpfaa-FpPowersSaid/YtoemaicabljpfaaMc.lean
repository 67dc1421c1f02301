/- sigillaw04: FpPowers: the walk. -/
import Derived.Test.YtoemaicabljpfaaPE
import Derived.Test.YtoemaicabljpfaaLv
namespace Go.Proofs.Ytoemaicabljpfaa
open Ex Num
set_option maxRecDepth 100000

noncomputable def SW4 : List (FuncId × ASpec) := (37, pureSpec yes0) :: SIe
theorem SW4ok : SpecsOk Try.prog SW4 := ⟨pureSpec_ok Try.func37 (by kernel_rfl) (by kernel_rfl) (sp0_ok aw4_ok fun u h => h), SIeok⟩
def fpwA (a n m n' m' : Nat) : List AV := [num6 a, slA 0 0 n m, slA 1 0 n' m']
section
variable (a n m n' m' : Nat) (xs ys : List Int)
theorem fpPowers_1 : segOut Try.prog (orc SW4 K0) Try.f22 300 2 [] (entry Try.f22 (fpwA a n m n' m') (seqH2 xs ys) 2 [true]) = some ([(hasB .i64 n, true), (decide ((8 : Int) < n), true)], [], .val false [.b true], []) := by kernel_rfl
theorem fpPowers_2 : segOut Try.prog (orc SW4 K0) Try.f22 300 2 [] (entry Try.f22 (fpwA a n m n' m') (seqH2 xs ys) 2 [false, true]) = some ([(hasB .i64 n, true), (decide ((8 : Int) < n), false), (hasB .i64 n', true), (decide ((20 : Int) < n'), true)], [], .val false [.b true], []) := by kernel_rfl
theorem fpPowers_3 : segOut Try.prog (orc SW4 K0) Try.f22 300 2 [] (entry Try.f22 (fpwA a n m n' m') (seqH2 xs ys) 2 [false, false, true]) =
  some ([(hasB .i64 n, true), (decide ((8 : Int) < n), false), (hasB .i64 n', true), (decide ((20 : Int) < n'), false), (Nat.ble (0 + n) xs.length, true), (Nat.ble n 1125899906842624, true), (Nat.ble (0 + n) xs.length, true), (Nat.ble n 1125899906842624, true), (decide (powN a (natL (win xs 0 n)) = powN a (natL (win xs 0 n))), true),
    (Nat.ble (0 + n') ys.length, true), (Nat.ble n' 1125899906842624, true), (Nat.ble (0 + n') ys.length, true), (Nat.ble n' 1125899906842624, true)], [], boolA (decide (natL (win ys 0 n') % pN = natL (win ys 0 n') % pN)), []) := by kernel_rfl
theorem fpPowers_can (hl : n ≤ xs.length) (hn : hasB .i64 n = true) (hl' : n' ≤ ys.length) (hn' : hasB .i64 n' = true) : CanOk Try.prog 22 (fpwA a n m n' m') (seqH2 xs ys) 2 [] (boolA true) [] := by
  by_cases h8 : (8 : Int) < n
  · exact can_val (can_run SW4ok K0ok Try.func22 (by kernel_rfl) (by kernel_rfl) (fpPowers_1 a n m n' m' xs ys) (by kernel_rfl) ⟨hn, decide_eq_true h8, trivial⟩) fun β u hu => bv_one rfl hu
  · by_cases h20 : (20 : Int) < n'
    · exact can_val (can_run SW4ok K0ok Try.func22 (by kernel_rfl) (by kernel_rfl) (fpPowers_2 a n m n' m' xs ys) (by kernel_rfl) ⟨hn, decide_eq_false h8, hn', decide_eq_true h20, trivial⟩) fun β u hu => bv_one rfl hu
    · have e : ∀ {k : Nat}, ¬ (20 : Int) < k → Nat.ble k 1125899906842624 = true := fun h => Nat.ble_eq_true_of_le (by omega)
      have e1 := e h20
      have e2 : Nat.ble n 1125899906842624 = true := Nat.ble_eq_true_of_le (by omega)
      have e3 : Nat.ble (0 + n) xs.length = true := Nat.ble_eq_true_of_le (by omega)
      have e4 : Nat.ble (0 + n') ys.length = true := Nat.ble_eq_true_of_le (by omega)
      exact can_bool (can_run SW4ok K0ok Try.func22 (by kernel_rfl) (by kernel_rfl) (fpPowers_3 a n m n' m' xs ys) (by kernel_rfl) ⟨hn, decide_eq_false h8, hn', decide_eq_false h20, e3, e2, e3, e2, decide_eq_true rfl, e4, e1, e4, e1, trivial⟩) (decide_eq_true rfl)
end
theorem fpPowers_walk : LawWalk Try.prog 22 Try.f22 := by
  refine walk_can fun H enc us W base ds ps hv hA => ?_
  have hp : Try.f22.params.toList = [24, 34, 34] := by kernel_rfl
  have hv' : ∀ (j : Nat) t v, [24, 34, 34][j]? = some t → us[j]? = some v → Value.okWide Try.prog W .any base t v := fun j t v h1 h2 => hv j t v (by rw [← Array.getElem?_toList, hp]; exact h1) h2
  rw [hp] at hA
  obtain ⟨v1, us1, d1, ds1, p1, q1, rfl, rfl, t1, hA⟩ := args_cons hA
  obtain ⟨v2, us2, d2, ds2, p2, q2, rfl, rfl, t2, hA⟩ := args_cons hA
  obtain ⟨v3, us3, d3, ds3, p3, q3, rfl, rfl, t3, hA⟩ := args_cons hA
  obtain rfl := args0 hA rfl
  obtain ⟨a, ha, r1⟩ := fp_arg (hv' 0 _ v1 rfl rfl) t1
  obtain ⟨L, xs, n, m, hx, hl, hn, r2, ho⟩ := words_arg (hv' 1 _ v2 rfl rfl) t2 (ArgsOk.nil W)
  obtain ⟨L', ys, n', m', hx', hl', hn', r3, ho'⟩ := words_arg (hv' 2 _ v3 rfl rfl) t3 ho
  exact ⟨_, _, fpwA a n m n' m', ho', ⟨v1, _, r1 _, ⟨v2, _, relA_mono (locEnv_le _ _) r2, ⟨v3, _, r3, rfl, rfl⟩, rfl⟩, rfl⟩, fpPowers_can a n m n' m' xs ys hl hn hl' hn'⟩
end Go.Proofs.Ytoemaicabljpfaa
