/- sigillaw12: G1Muls: the walk. -/
import Derived.Test.YtoemaicabljpfaaPE
import Derived.Test.YtoemaicabljpfaaLy
namespace Go.Proofs.Ytoemaicabljpfaa
open Ex Num Rg
set_option maxRecDepth 100000

section
variable (x y : Nat) (i : Bool) (n m : Nat) (xs : List Int)
theorem g1Muls_1 : segOut Try.prog (orc SR4 KG) Try.f24 500 1 [] (entry Try.f24 (gmArgs x y i 0 n m) (seqH xs) 1 [true]) = some ([(hasB .i64 n, true), (decide ((3 : Int) < n), true)], [], .val false [.b true], []) := by kernel_rfl
theorem g1Muls_2 : segOut Try.prog (orc SR4 KG) Try.f24 500 1 [] (entry Try.f24 (gmArgs x y i 0 n m) (seqH xs) 1 [false, true]) =
  some ([(hasB .i64 n, true), (decide ((3 : Int) < n), false), (Nat.ble (0 + n) xs.length, true), (Nat.ble n 1125899906842624, true), (Nat.ble (0 + n) xs.length, true), (Nat.ble n 1125899906842624, true), (eqP (mulP (natL (win xs 0 n)) (toPt x y i)) (mulP (natL (win xs 0 n)) (toPt x y i)), true)], [], boolA (decide (mulE (toPt x y i) = mulE (toPt x y i))), []) := by kernel_rfl
theorem g1Muls_can (hl : n ≤ xs.length) (hn : hasB .i64 n = true) : CanOk Try.prog 24 (gmArgs x y i 0 n m) (seqH xs) 1 [] (boolA true) [] := by
  by_cases h3 : (3 : Int) < n
  · exact can_val (can_run SR4ok KGok Try.func24 (by kernel_rfl) (by kernel_rfl) (g1Muls_1 x y i n m xs) (by kernel_rfl) ⟨hn, decide_eq_true h3, trivial⟩) fun β u hu => bv_one rfl hu
  · have e : Nat.ble n 1125899906842624 = true := Nat.ble_eq_true_of_le (by omega)
    have e2 : Nat.ble (0 + n) xs.length = true := Nat.ble_eq_true_of_le (by omega)
    exact can_bool (can_run SR4ok KGok Try.func24 (by kernel_rfl) (by kernel_rfl) (g1Muls_2 x y i n m xs) (by kernel_rfl) ⟨hn, decide_eq_false h3, e2, e, e2, e, eqP_rfl _, trivial⟩) (decide_eq_true rfl)
end
theorem g1Muls_walk : LawWalk Try.prog 24 Try.f24 := by
  refine walk_can fun H enc us W base ds ps hv hA => ?_
  have hp : Try.f24.params.toList = [34, 49] := by kernel_rfl
  have hv' : ∀ (j : Nat) t v, [34, 49][j]? = some t → us[j]? = some v → Value.okWide Try.prog W .any base t v := fun j t v h1 h2 => hv j t v (by rw [← Array.getElem?_toList, hp]; exact h1) h2
  rw [hp] at hA
  obtain ⟨v1, us1, d1, ds1, p1, q1, rfl, rfl, t1, hA⟩ := args_cons hA
  obtain ⟨v2, us2, d2, ds2, p2, q2, rfl, rfl, t2, hA⟩ := args_cons hA
  obtain rfl := args0 hA rfl
  obtain ⟨L, xs, n, m, hx, hl, hn, r1, ho⟩ := words_arg (hv' 0 _ v1 rfl rfl) t1 (ArgsOk.nil W)
  obtain ⟨x, y, i, r2⟩ := g1_arg (hv' 1 _ v2 rfl rfl) t2
  exact ⟨_, _, gmArgs x y i 0 n m, ho, ⟨v1, _, r1, ⟨v2, _, r2 _, rfl, rfl⟩, rfl⟩, g1Muls_can x y i n m xs hl hn⟩
end Go.Proofs.Ytoemaicabljpfaa
