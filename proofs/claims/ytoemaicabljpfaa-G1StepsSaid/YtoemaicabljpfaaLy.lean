/- sigillaw12: G1Names, G1Adds, G1Undoes: the walks. -/
import Derived.Test.YtoemaicabljpfaaPE
import Derived.Test.YtoemaicabljpfaaPC
namespace Go.Proofs.Ytoemaicabljpfaa
open Ex Num Rg
set_option maxRecDepth 100000

theorem fitsH_app : ∀ {ks js : List (Option IntKind)} {l : List Value}, fitsH (ks ++ js) l → fitsH ks (l.take ks.length) ∧ fitsH js (l.drop ks.length)
  | [], js, l, h => ⟨trivial, by simpa using h⟩
  | none :: ks, js, [], h => by cases h
  | some _ :: ks, js, [], h => by cases h
  | none :: ks, js, v :: r, h => by
    cases v <;> simp only [List.cons_append, fitsH] at h
    exact fitsH_app (ks := ks) (js := js) h
  | some k :: ks, js, v :: r, h => by
    cases v <;> simp only [List.cons_append, fitsH] at h
    obtain ⟨h1, h2, h3⟩ := h
    have := fitsH_app (ks := ks) (js := js) h3
    exact ⟨⟨h1, h2, this.1⟩, this.2⟩
def g1K : List (Option IntKind) := List.replicate 6 (some .u64) ++ (List.replicate 6 (some .u64) ++ [none])
theorem shp_g1 : shp Try.prog 20 49 = some g1K := by kernel_rfl
theorem agg_g1 : isAggT Try.prog 49 = true := by kernel_rfl
section
variable {H : Type} {enc : TypeId × Value → H} {W : World} {base : Nat} {v : Value} {d : DataW H} {p : List MemPlace}
theorem g1_arg (hv : Value.okWide Try.prog W .any base 49 v) (ht : DataW.Trod enc Try.prog W 0 (fun _ => true) true 49 v d p) : ∃ x y i, ∀ β : Env, relA β (g1A x y i) v := by
  have h := plain_of shp_g1 agg_g1 hv ht
  obtain ⟨l, rfl, hl⟩ := h
  obtain ⟨h1, h2⟩ := fitsH_app hl
  obtain ⟨h2, h3⟩ := fitsH_app h2
  obtain ⟨x, hx, ex⟩ := fitsH_words h1
  obtain ⟨y, hy, ey⟩ := fitsH_words h2
  have h4 : ∃ i, List.drop 6 (List.drop 6 l) = [Value.bool i] := by
    have h3' : fitsH [none] (List.drop 6 (List.drop 6 l)) := h3
    cases hq : List.drop 6 (List.drop 6 l) with
    | nil => rw [hq] at h3'; cases h3'
    | cons w r =>
      rw [hq] at h3'
      cases w <;> simp only [fitsH] at h3'
      cases r with
      | nil => exact ⟨_, rfl⟩
      | cons => cases h3'
  obtain ⟨i, hi⟩ := h4
  have ex' : List.take 6 l = words 6 x := ex
  have ey' : List.take 6 (List.drop 6 l) = words 6 y := ey
  refine ⟨x, y, i, fun β => ⟨l, ⟨words 6 x, words 6 y ++ [.bool i], ⟨hx, rfl⟩, ⟨words 6 y, [.bool i], ⟨hy, rfl⟩, ⟨[.bool i], [], ⟨rfl, rfl, trivial⟩, rfl, rfl⟩, rfl⟩, ?_⟩, rfl⟩⟩
  rw [← ex', ← ey', ← hi, List.take_append_drop, List.take_append_drop]
end
/-- Laws of two points. -/
theorem g1s_walk {f : FuncId} {fn : Func} (hp : fn.params.toList = [49, 49]) (h : ∀ x y i x' y' i', PureOk Try.prog f [g1A x y i, g1A x' y' i'] (.val false [.b true])) : LawWalk Try.prog f fn := by
  refine walk_of fun H enc us W base ds ps hv hA => ?_
  have hv' : ∀ (j : Nat) t v, [49, 49][j]? = some t → us[j]? = some v → Value.okWide Try.prog W .any base t v := fun j t v h1 h2 => hv j t v (by rw [← Array.getElem?_toList, hp]; exact h1) h2
  rw [hp] at hA
  obtain ⟨v1, us1, d1, ds1, p1, q1, rfl, rfl, t1, hA⟩ := args_cons hA
  obtain ⟨v2, us2, d2, ds2, p2, q2, rfl, rfl, t2, hA⟩ := args_cons hA
  obtain rfl := args0 hA rfl
  obtain ⟨x, y, i, r1⟩ := g1_arg (hv' 0 _ v1 rfl rfl) t1
  obtain ⟨x', y', i', r2⟩ := g1_arg (hv' 1 _ v2 rfl rfl) t2
  exact ⟨[g1A x y i, g1A x' y' i'], ⟨v1, _, r1 _, ⟨v2, _, r2 _, rfl, rfl⟩, rfl⟩, h x y i x' y' i'⟩

theorem g1Names_run : pureRun Try.prog (orc SA12 KG) Try.f17 [] [] 300 = some ([], boolA (eqP G1B G1B)) := by kernel_rfl
theorem g1Names_walk : LawWalk Try.prog 17 Try.f17 := fps_walk (n := 0) (by kernel_rfl) fun xs h _ => by
  obtain rfl := List.length_eq_zero_iff.1 h
  exact bool_true (pure_ok (orc_ok SA12ok KGok) mixed Try.func17 g1Names_run trivial rfl) (eqP_rfl _)
theorem g1Adds_run (x y : Nat) (i : Bool) (x' y' : Nat) (i' : Bool) : pureRun Try.prog (orc SA12 KG) Try.f23 [g1A x y i, g1A x' y' i'] [true, true, true, true] 500 =
  some ([(eqP (add (toPt x y i) (toPt x' y' i')) (add (toPt x y i) (toPt x' y' i')), true), (eqP (add (toPt x y i) (toPt x y i)) (add (toPt x y i) (toPt x y i)), true), (eqP (neg (toPt x y i)) (neg (toPt x y i)), true), (eqP (toPt x y i) (toPt x y i), true)], boolA (onP (toPt x y i) == onP (toPt x y i))) := by kernel_rfl
theorem g1Adds_walk : LawWalk Try.prog 23 Try.f23 := g1s_walk (by kernel_rfl) fun x y i x' y' i' =>
  bool_true (pure_ok (orc_ok SA12ok KGok) mixed Try.func23 (g1Adds_run x y i x' y' i') ⟨eqP_rfl _, eqP_rfl _, eqP_rfl _, eqP_rfl _, trivial⟩ rfl) (by cases onP (toPt x y i) <;> rfl)
noncomputable def guC (P : Pt FP) (r : List (Bool × Bool)) : List (Bool × Bool) := (eqP (add P (toPt' (neg P))) .inf, true) :: (eqP (add P (toPt' .inf)) P, true) :: (eqP (add (toPt' .inf) P) P, true) :: r
noncomputable def guU (P : Pt FP) : Bool := eqP (neg (toPt' (neg P))) P
section
variable (x y : Nat) (i : Bool) (x' y' : Nat) (i' : Bool)
theorem g1Undoes_1 : pureRun Try.prog (orc SA12 KG) Try.f19 [g1A x y i, g1A x' y' i'] [true, true, true, true, true, true] 500 = some (guC (toPt x y i) [(!onP (toPt x y i), true)], boolA (guU (toPt x y i))) := by kernel_rfl
theorem g1Undoes_2 : pureRun Try.prog (orc SA12 KG) Try.f19 [g1A x y i, g1A x' y' i'] [true, true, true, false, true] 500 = some (guC (toPt x y i) [(!onP (toPt x y i), false), (!onP (toPt x' y' i'), true)], boolA (guU (toPt x y i))) := by kernel_rfl
theorem g1Undoes_3 : pureRun Try.prog (orc SA12 KG) Try.f19 [g1A x y i, g1A x' y' i'] [true, true, true, false, false, true] 500 = some (guC (toPt x y i) [(!onP (toPt x y i), false), (!onP (toPt x' y' i'), false), (guU (toPt x y i), true)],
  boolA (eqP (add (toPt' (add (toPt x y i) (toPt x' y' i'))) (toPt' (neg (toPt x' y' i')))) (toPt x y i))) := by kernel_rfl
theorem g1Undoes_ok : PureOk Try.prog 19 [g1A x y i, g1A x' y' i'] (.val false [.b true]) := by
  have r1 := g1Undoes_1 x y i x' y' i'
  have r2 := g1Undoes_2 x y i x' y' i'
  have r3 := g1Undoes_3 x y i x' y' i'
  rw [toPt'_eq, toPt'_eq] at r3
  generalize toPt x y i = P at *
  generalize toPt x' y' i' = Q at *
  have hC : ∀ r, okConds r → okConds (guC P r) := fun r h => ⟨eqP_of (by rw [toPt'_eq]; exact add_neg_any P), eqP_of (by rw [toPt'_eq]; exact add_inf P), eqP_of (by rw [toPt'_eq]; rfl), h⟩
  have hU : guU P = true := eqP_of (by rw [toPt'_eq]; exact neg_neg' P)
  cases hp : onP P with
  | false => exact bool_true (pure_ok (orc_ok SA12ok KGok) mixed Try.func19 r1 (hC _ ⟨by rw [hp]; rfl, trivial⟩) rfl) hU
  | true => cases hq : onP Q with
    | false => exact bool_true (pure_ok (orc_ok SA12ok KGok) mixed Try.func19 r2 (hC _ ⟨by rw [hp]; rfl, by rw [hq]; rfl, trivial⟩) rfl) hU
    | true => exact bool_true (pure_ok (orc_ok SA12ok KGok) mixed Try.func19 r3 (hC _ ⟨by rw [hp]; rfl, by rw [hq]; rfl, hU, trivial⟩) rfl) (eqP_of (add_neg_cancel C1 ((onP_iff P).1 hp) ((onP_iff Q).1 hq)))
end
theorem g1Undoes_walk : LawWalk Try.prog 19 Try.f19 := g1s_walk (by kernel_rfl) g1Undoes_ok

/- G1Closed -/
def uA (e : Nat) : AV := .val false [.v (.int .u64 (e : Int))]
section
variable (x y : Nat) (i : Bool) (x' y' : Nat) (i' : Bool) (e : Nat)
theorem g1Closed_1 : pureRun Try.prog (orc SA12 KG) Try.f18 [g1A x y i, g1A x' y' i', uA e] [true] 500 = some ([(!onP (toPt x y i), true)], .val false [.b true]) := by kernel_rfl
theorem g1Closed_2 : pureRun Try.prog (orc SA12 KG) Try.f18 [g1A x y i, g1A x' y' i', uA e] [false, true] 500 = some ([(!onP (toPt x y i), false), (!onP (toPt x' y' i'), true)], .val false [.b true]) := by kernel_rfl
theorem g1Closed_3 : pureRun Try.prog (orc SA12 KG) Try.f18 [g1A x y i, g1A x' y' i', uA e] [false, false, true, true, true, true, true, true] 500 =
  some ([(!onP (toPt x y i), false), (!onP (toPt x' y' i'), false), (true, true), (true, true), (onP (toPt' (add (toPt x y i) (toPt x' y' i'))), true), (onP (toPt' (mulP (natL (win [(e : Int)] 0 1)) (toPt x y i))), true), (onP (toPt' (neg (toPt x y i))), true), (decide (mulE (toPt x y i) = 0), true),
    (eqP (add (toPt x y i) (toPt x' y' i')) (add (toPt x' y' i') (toPt x y i)), true), (eqP (toPt' (add (toPt x y i) (toPt x' y' i'))) (add (toPt x y i) (toPt x' y' i')), true)], boolA (eqP (toPt' (mulP (natL (win [(e : Int)] 0 1)) (toPt x y i))) (mulP (natL (win [(e : Int)] 0 1)) (toPt x y i)))) := by kernel_rfl
theorem g1Closed_ok : PureOk Try.prog 18 [g1A x y i, g1A x' y' i', uA e] (.val false [.b true]) := by
  have r1 := g1Closed_1 x y i x' y' i' e
  have r2 := g1Closed_2 x y i x' y' i' e
  have r3 := g1Closed_3 x y i x' y' i' e
  simp only [toPt'_eq] at r3
  generalize toPt x y i = P at *
  generalize toPt x' y' i' = Q at *
  cases hp : onP P with
  | false => exact pure_ok (orc_ok SA12ok KGok) mixed Try.func18 r1 ⟨by rw [hp]; rfl, trivial⟩ rfl
  | true => cases hq : onP Q with
    | false => exact pure_ok (orc_ok SA12ok KGok) mixed Try.func18 r2 ⟨by rw [hp]; rfl, by rw [hq]; rfl, trivial⟩ rfl
    | true =>
      have hP := (onP_iff P).1 hp
      have hQ := (onP_iff Q).1 hq
      refine bool_true (pure_ok (orc_ok SA12ok KGok) mixed Try.func18 r3 ⟨by rw [hp]; rfl, by rw [hq]; rfl, rfl, rfl, (onP_iff _).2 (on_add C1 hP hQ), ?_, (onP_iff _).2 (on_negP C1 hP), ?_, eqP_of (add_comm' C1 hP hQ), eqP_rfl _, trivial⟩ rfl) (eqP_rfl _)
      · unfold mulP; rw [if_pos hp]; exact (onP_iff _).2 (on_smul C1 hP _)
      · unfold mulE; rw [if_pos hp]; rfl
end
theorem g1Closed_walk : LawWalk Try.prog 18 Try.f18 := by
  refine walk_of fun H enc us W base ds ps hv hA => ?_
  have hp : Try.f18.params.toList = [49, 49, 22] := by kernel_rfl
  have hv' : ∀ (j : Nat) t v, [49, 49, 22][j]? = some t → us[j]? = some v → Value.okWide Try.prog W .any base t v := fun j t v h1 h2 => hv j t v (by rw [← Array.getElem?_toList, hp]; exact h1) h2
  rw [hp] at hA
  obtain ⟨v1, us1, d1, ds1, p1, q1, rfl, rfl, t1, hA⟩ := args_cons hA
  obtain ⟨v2, us2, d2, ds2, p2, q2, rfl, rfl, t2, hA⟩ := args_cons hA
  obtain ⟨v3, us3, d3, ds3, p3, q3, rfl, rfl, t3, hA⟩ := args_cons hA
  obtain rfl := args0 hA rfl
  obtain ⟨x, y, i, r1⟩ := g1_arg (hv' 0 _ v1 rfl rfl) t1
  obtain ⟨x', y', i', r2⟩ := g1_arg (hv' 1 _ v2 rfl rfl) t2
  obtain ⟨e, he, r3⟩ := u64_arg (hv' 2 _ v3 rfl rfl) t3
  exact ⟨[g1A x y i, g1A x' y' i', uA e], ⟨v1, _, r1 _, ⟨v2, _, r2 _, ⟨v3, _, r3 _, rfl, rfl⟩, rfl⟩, rfl⟩, g1Closed_ok x y i x' y' i' e⟩
end Go.Proofs.Ytoemaicabljpfaa
