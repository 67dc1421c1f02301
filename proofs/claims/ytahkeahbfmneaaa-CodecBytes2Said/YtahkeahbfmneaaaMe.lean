/- sigillaw20: CodecNames, CodecTurns1, CodecTurns2: the walks. -/
import Derived.Test.YtahkeahbfmneaaaPE
import Derived.Test.YtahkeahbfmneaaaLy
namespace Go.Proofs.Ytahkeahbfmneaaa
open Ex Num Rg
open Sh (R av rd mo en mo_en)
set_option maxRecDepth 100000

/- opposites -/
section
variable {F : Type} [FD F] (C : Cv F)
theorem neg_sum {a p : Pt F} (ha : Rg.On C.b a) (hp : Rg.On C.b p) : add (Rg.neg a) (Rg.neg p) = Rg.neg (add a p) := by
  have na := on_negP C ha
  have np := on_negP C hp
  have hS := on_add C hp ha
  have h : add (add (Rg.neg a) (Rg.neg p)) (add p a) = .inf := by
    rw [add_assoc' C na np hS, neg_add_cancel C hp ha, add_comm' C na ha, add_neg_p C ha]
  have h2 := add_neg_cancel C (on_add C na np) hS
  rw [h] at h2
  rw [← h2, add_comm' C ha hp]; rfl
theorem smul_neg {p : Pt F} (hp : Rg.On C.b p) : ∀ n, smul n (Rg.neg p) = Rg.neg (smul n p)
  | 0 => rfl
  | n + 1 => by
    show add (smul n (Rg.neg p)) (Rg.neg p) = Rg.neg (add (smul n p) p)
    rw [smul_neg hp n, neg_sum C (on_smul C hp n) hp]
end
theorem ptI_neg (p : Pt FP) : ptI (Rg.neg p) = ptI p := by cases p <;> rfl
theorem pI1_neg (p : P2) : pI1 (Rg.neg p) = pI1 p := by cases p <;> rfl
theorem onP_neg {p : Pt FP} (h : onP p = true) : onP (Rg.neg p) = true := (onP_iff _).2 (on_negP C1 ((onP_iff p).1 h))
theorem on2_neg {p : P2} (h : on2 p = true) : on2 (Rg.neg p) = true := (on2_iff _).2 (on_negP C2 ((on2_iff p).1 h))
theorem in1_of {p : Pt FP} (h : in1 p = true) : onP p = true ∧ Rg.On C1.b p := by
  have := (Bool.and_eq_true_iff.1 h).1
  exact ⟨this, (onP_iff p).1 this⟩
theorem in2_of {p : P2} (h : in2 p = true) : on2 p = true ∧ Rg.On C2.b p := by
  have := (Bool.and_eq_true_iff.1 h).1
  exact ⟨this, (on2_iff p).1 this⟩
theorem in1_neg1 {p : Pt FP} (h : in1 p = true) : in1 (Rg.neg p) = true := by
  obtain ⟨h1, h2⟩ := in1_of h
  unfold in1 at h ⊢
  rw [h1] at h
  rw [onP_neg h1, smul_neg C1 h2, ptI_neg]; exact h
theorem in2_neg1 {p : P2} (h : in2 p = true) : in2 (Rg.neg p) = true := by
  obtain ⟨h1, h2⟩ := in2_of h
  unfold in2 at h ⊢
  rw [h1] at h
  rw [on2_neg h1, smul_neg C2 h2, pI1_neg]; exact h
theorem in1_neg (p : Pt FP) : in1 (Rg.neg p) = in1 p := by
  cases h : in1 p with
  | true => exact in1_neg1 h
  | false => cases h2 : in1 (Rg.neg p) with
    | false => rfl
    | true =>
      have := in1_neg1 h2
      rw [neg_neg', h] at this; cases this
theorem in2_neg (p : P2) : in2 (Rg.neg p) = in2 p := by
  cases h : in2 p with
  | true => exact in2_neg1 h
  | false => cases h2 : in2 (Rg.neg p) with
    | false => rfl
    | true =>
      have := in2_neg1 h2
      rw [neg_neg', h] at this; cases this
theorem val_ne {y : FP} (h : y ≠ 0) : 0 < y.val := Nat.pos_of_ne_zero fun e => h (by rw [← tf_val y, e]; exact tf_zero)
theorem biggerN_eq (y : FP) : biggerN y.val = decide ((pN - y.val) % pN < y.val) := by
  have h := y.isLt
  unfold biggerN negN
  rw [Nat.mod_eq_of_lt h]
theorem bigger_neg {y : FP} (h : y ≠ 0) : biggerN (-y).val = !biggerN y.val := by
  have h1 := y.isLt
  have h0 := val_ne h
  have hv : (-y).val = pN - y.val := by
    show (pN - y.val) % pN = pN - y.val
    exact Nat.mod_eq_of_lt (by omega)
  have ho := pN_odd
  rw [biggerN_eq, biggerN_eq, hv, Nat.mod_eq_of_lt (show pN - (pN - y.val) < pN by omega), Nat.mod_eq_of_lt (show pN - y.val < pN by omega)]
  by_cases hq : pN - y.val < y.val
  · rw [decide_eq_true hq, decide_eq_false (by omega)]; rfl
  · rw [decide_eq_false hq, decide_eq_true (by omega)]; rfl
theorem neg_ne {y : FP} (h : y ≠ 0) : -y ≠ 0 := fun e => h (by rw [← neg_neg y, e]; exact neg_zero)
theorem bg2_neg {y : FP2} (h : y ≠ 0) : bg2 (-y) = !bg2 y := by
  unfold bg2
  by_cases hb : y.b = 0
  · have hb' : (-y).b = 0 := by show -y.b = 0; rw [hb]; exact neg_zero
    have ha : y.a ≠ 0 := fun e => h (Qx.ext e hb)
    rw [if_pos hb, if_pos hb']
    exact bigger_neg ha
  · rw [if_neg hb, if_neg (show ¬ (-y).b = 0 from neg_ne hb)]
    exact bigger_neg hb
/- the first byte of an opposite -/
def tnL (l : List Int) : List Int := l.set 0 (bits .xor .u8 (l.getD 0 0) 32)
theorem ecL_length (s i b : Bool) : ∀ B : List Int, (ecL s i b B).length = B.length
  | [] => by cases s <;> cases i <;> cases b <;> rfl
  | f :: t => by rw [ecL_cons]; rfl
theorem cat_append : ∀ a b : List Nat, cat (a ++ b) = cat a ++ cat b
  | [], _ => rfl
  | x :: r, b => by rw [List.cons_append, cat, cat, cat_append r b, List.append_assoc]
theorem turn_eq {x : Nat} (hx : x < pN) (r s s' : List Nat) (b : Bool) {k : Nat} (hk : k = 48 * (r.length + 1)) : smB (win (ecL true false b (cat (x :: r ++ s))) 0 k) (win (tnL (ecL true false (!b) (cat (x :: r ++ s')))) 0 k) = true := by
  obtain ⟨f, t, e, h0, h1⟩ := cat_head hx r
  have hl : (cat (x :: r)).length = k := by rw [cat_length, hk]; rfl
  rw [cat_append, cat_append, e, List.cons_append, List.cons_append, ecL_cons, ecL_cons]
  refine decide_eq_true ?_
  have ht : t.length + 1 = k := by rw [e] at hl; exact hl
  show List.take k (fB true false b f :: (t ++ cat s)) = List.take k (bits .xor .u8 (fB true false (!b) f) 32 :: (t ++ cat s'))
  rw [fB2_ok (!b) h0 h1, Bool.not_not, ← ht, List.take_succ_cons, List.take_succ_cons, List.take_left, List.take_left]
theorem smB_rfl (l : List Int) : smB l l = true := decide_eq_true rfl
theorem e1L_len (s : Bool) (p : Pt FP) : (e1L s p).length = 96 := by rw [e1L_ec, ecL_length, b1_cat, cat_length]; rfl
theorem e2L_len (s : Bool) (p : P2) : (e2L s p).length = 192 := by rw [e2L_ec, ecL_length, b2_cat, cat_length]; rfl
theorem tn_len (l : List Int) : (tnL l).length = l.length := by unfold tnL; simp
theorem turn1 {p : Pt FP} (hp : Rg.On C1.b p) (hi : ptI p = false) : smB (win (e1L true p) 0 48) (win (tnL (e1L true (Rg.neg p))) 0 48) = true := by
  cases p with
  | inf => cases hi
  | pt a b =>
    have hb : b ≠ 0 := C1.no2 a b hp
    rw [e1L_ec, e1L_ec, b1_cat, b1_cat]
    have e : biggerN (ptY (Rg.neg (.pt a b))) = !biggerN (ptY (.pt a b)) := bigger_neg hb
    rw [e]
    exact turn_eq a.isLt [] [b.val] [(-b).val] _ rfl
theorem turn2 {p : P2} (hp : Rg.On C2.b p) (hi : pI1 p = false) : smB (win (e2L true p) 0 96) (win (tnL (e2L true (Rg.neg p))) 0 96) = true := by
  cases p with
  | inf => cases hi
  | pt a b =>
    have hb : b ≠ 0 := C2.no2 a b hp
    rw [e2L_ec, e2L_ec, b2_cat, b2_cat]
    have e : bg2 (pY1 (Rg.neg (.pt a b))) = !bg2 (pY1 (.pt a b)) := bg2_neg hb
    rw [e]
    exact turn_eq a.b.isLt [a.a.val] [b.b.val, b.a.val] [(-b).b.val, (-b).a.val] _ rfl
/- the walks -/
theorem cNames_run : pureRun Try.prog oO20 Try.f3 [] [] 300 = some ([], .val false [.b true]) := by kernel_rfl
theorem codecNames_walk : LawWalk Try.prog 3 Try.f3 := fps_walk (n := 0) (by kernel_rfl) fun xs h _ => by
  obtain rfl := List.length_eq_zero_iff.1 h
  exact pure_ok oO20ok mixed Try.func3 cNames_run trivial rfl
def tuC (a b : Bool) (l : List (Bool × Bool)) : List (Bool × Bool) := (a, true) :: (b, true) :: (true, true) :: (false, false) :: (true, true) :: (false, false) :: l
def tuB (n : Nat) (l m : List Int) : List (Bool × Bool) := (true, true) :: (decide (0 < m.length), true) :: (true, true) :: (decide (0 < m.length), true) :: (Nat.ble n l.length, true) :: (Nat.ble n (tnL m).length, true) :: tt 2 []
def tuA (n : Nat) (l m : List Int) : List (Bool × Bool) := (Nat.ble n l.length, true) :: (Nat.ble n m.length, true) :: tt 2 []
section
variable (x y : Nat) (i : Bool)
theorem turns1_e : pureRun Try.prog oO20 Try.f6 [g1A x y i] [true, true] 500 = some ([(in1 (toPt x y i), false), (in1 (toPt' (Rg.neg (toPt x y i))), false)], .val false [.b true]) := by kernel_rfl
theorem turns1_p : pureRun Try.prog oO20 Try.f6 [g1A x y i] [false, false, false, false, true] 500 = some (tuC (in1 (toPt x y i)) (in1 (toPt' (Rg.neg (toPt x y i)))) ((!i, true) :: tuB 48 (e1L true (toPt x y i)) (e1L true (toPt' (Rg.neg (toPt x y i))))), boolA (smB (win (e1L true (toPt x y i)) 0 48) (win (tnL (e1L true (toPt' (Rg.neg (toPt x y i))))) 0 48))) := by kernel_rfl
theorem turns1_i : pureRun Try.prog oO20 Try.f6 [g1A x y i] [false, false, false, false, false] 500 = some (tuC (in1 (toPt x y i)) (in1 (toPt' (Rg.neg (toPt x y i)))) ((!i, false) :: tuA 48 (e1L true (toPt x y i)) (e1L true (toPt' (Rg.neg (toPt x y i))))), boolA (smB (win (e1L true (toPt x y i)) 0 48) (win (e1L true (toPt' (Rg.neg (toPt x y i)))) 0 48))) := by kernel_rfl
theorem turns1_ok : PureOk Try.prog 6 [g1A x y i] (.val false [.b true]) := by
  have h1 := turns1_e x y i
  have h2 := turns1_p x y i
  have h3 := turns1_i x y i
  rw [toPt'_eq] at h1 h2 h3
  cases hin : in1 (toPt x y i) with
  | false => exact pure_ok oO20ok mixed Try.func6 h1 ⟨hin, by rw [in1_neg]; exact hin, trivial⟩ rfl
  | true =>
    have hin' : in1 (Rg.neg (toPt x y i)) = true := by rw [in1_neg]; exact hin
    by_cases hi : i = true
    · refine bool_true (pure_ok oO20ok mixed Try.func6 h3 ⟨hin, hin', rfl, rfl, rfl, rfl, by rw [hi]; rfl, by rw [e1L_len]; rfl, by rw [e1L_len]; rfl, tt_ok 2 trivial⟩ rfl) ?_
      subst hi
      exact smB_rfl _
    · have hi : i = false := by simpa using hi
      refine bool_true (pure_ok oO20ok mixed Try.func6 h2 ⟨hin, hin', rfl, rfl, rfl, rfl, by rw [hi]; rfl, rfl, by rw [e1L_len]; rfl, rfl, by rw [e1L_len]; rfl, by rw [e1L_len]; rfl, by rw [tn_len, e1L_len]; rfl, tt_ok 2 trivial⟩ rfl) ?_
      exact turn1 (in1_of hin).2 (by rw [hi]; rfl)
theorem codecTurns1_walk : LawWalk Try.prog 6 Try.f6 := walk_of fun H enc us W base ds ps hv hA => by
  have hp : Try.f6.params.toList = [27] := by kernel_rfl
  have hp' : Try.f6.params = #[27] := by kernel_rfl
  rw [hp] at hA
  rw [hp'] at hv
  obtain ⟨v1, us1, d1, ds1, p1, q1, rfl, rfl, t1, hA⟩ := args_cons hA
  obtain rfl := args0 hA rfl
  obtain ⟨x, y, i, r1⟩ := g1_arg (hv 0 _ v1 rfl rfl) t1
  exact ⟨[g1A x y i], ⟨v1, _, r1 _, rfl, rfl⟩, turns1_ok x y i⟩
end
/- points of the twisted curve that come in -/
def g2K : List (Option IntKind) := List.replicate 6 (some .u64) ++ (List.replicate 6 (some .u64) ++ (List.replicate 6 (some .u64) ++ (List.replicate 6 (some .u64) ++ [none])))
theorem shp_g2 : shp Try.prog 20 42 = some g2K := by kernel_rfl
theorem agg_g2 : isAggT Try.prog 42 = true := by kernel_rfl
theorem fits_num {ks : List (Option IntKind)} {l : List Value} (h : fitsH (List.replicate 6 (some .u64) ++ ks) l) : ∃ x t, fitsH ks t ∧ ∀ {β : Env} {cs : List Ch}, relL β cs t → relL β (.num 6 x :: cs) l := by
  obtain ⟨h1, h2⟩ := fitsH_app h
  obtain ⟨x, hx, ex⟩ := fitsH_words h1
  refine ⟨x, _, h2, fun {β cs} hr => ⟨words 6 x, _, ⟨hx, rfl⟩, hr, ?_⟩⟩
  have ex' : List.take 6 l = words 6 x := ex
  rw [← ex']
  exact (List.take_append_drop 6 l).symm
theorem fits_bool {l : List Value} (h : fitsH [none] l) : ∃ i, ∀ β : Env, relL β [.v (.bool i)] l := by
  cases l with
  | nil => cases h
  | cons w r =>
    cases w <;> simp only [fitsH] at h
    cases r with
    | nil => exact ⟨_, fun β => ⟨[_], [], ⟨rfl, rfl, trivial⟩, rfl, rfl⟩⟩
    | cons => cases h
theorem g2_arg {H : Type} {enc : TypeId × Value → H} {W : World} {base : Nat} {v : Value} {d : DataW H} {p : List MemPlace} (hv : Value.okWide Try.prog W .any base 42 v) (ht : DataW.Trod enc Try.prog W 0 (fun _ => true) true 42 v d p) : ∃ r : R P2, ∀ β : Env, relA β (va P2 r) v := by
  have h := plain_of shp_g2 agg_g2 hv ht
  obtain ⟨l, rfl, hl⟩ := h
  obtain ⟨a, l1, hl, ha⟩ := fits_num hl
  obtain ⟨b, l2, hl, hb⟩ := fits_num hl
  obtain ⟨c, l3, hl, hc⟩ := fits_num hl
  obtain ⟨d, l4, hl, hd⟩ := fits_num hl
  obtain ⟨i, hi⟩ := fits_bool hl
  exact ⟨((a, b), (c, d), i), fun β => ⟨l, ha (hb (hc (hd (hi β)))), rfl⟩⟩
theorem pI1_mo (r : R P2) : pI1 (mo r : P2) = r.2.2 := by
  obtain ⟨a, b, i⟩ := r
  cases i <;> rfl
section
variable (r : R P2)
theorem turns2_e : pureRun Try.prog oO20 Try.f7 [va P2 r] [true, true] 500 = some ([(in2 (mo r), false), (in2 (pR2 (Rg.neg (mo r))), false)], .val false [.b true]) := by kernel_rfl
theorem turns2_p : pureRun Try.prog oO20 Try.f7 [va P2 r] [false, false, false, false, true] 500 = some (tuC (in2 (mo r)) (in2 (pR2 (Rg.neg (mo r)))) ((!r.2.2, true) :: tuB 96 (e2L true (mo r)) (e2L true (pR2 (Rg.neg (mo r))))), boolA (smB (win (e2L true (mo r)) 0 96) (win (tnL (e2L true (pR2 (Rg.neg (mo r))))) 0 96))) := by kernel_rfl
theorem turns2_i : pureRun Try.prog oO20 Try.f7 [va P2 r] [false, false, false, false, false] 500 = some (tuC (in2 (mo r)) (in2 (pR2 (Rg.neg (mo r)))) ((!r.2.2, false) :: tuA 96 (e2L true (mo r)) (e2L true (pR2 (Rg.neg (mo r))))), boolA (smB (win (e2L true (mo r)) 0 96) (win (e2L true (pR2 (Rg.neg (mo r)))) 0 96))) := by kernel_rfl
theorem pR2_eq' (p : P2) : pR2 p = p := mo_en p
theorem turns2_ok : PureOk Try.prog 7 [va P2 r] (.val false [.b true]) := by
  have h1 := turns2_e r
  have h2 := turns2_p r
  have h3 := turns2_i r
  rw [pR2_eq'] at h1 h2 h3
  have hI := pI1_mo r
  rw [← hI] at h2 h3
  generalize (mo r : P2) = p at *
  cases hin : in2 p with
  | false => exact pure_ok oO20ok mixed Try.func7 h1 ⟨hin, by rw [in2_neg]; exact hin, trivial⟩ rfl
  | true =>
    have hin' : in2 (Rg.neg p) = true := by rw [in2_neg]; exact hin
    cases hi : pI1 p with
    | true =>
      refine bool_true (pure_ok oO20ok mixed Try.func7 h3 ⟨hin, hin', rfl, rfl, rfl, rfl, by rw [hi]; rfl, by rw [e2L_len]; rfl, by rw [e2L_len]; rfl, tt_ok 2 trivial⟩ rfl) ?_
      cases p with
      | inf => exact smB_rfl _
      | pt a b => cases hi
    | false =>
      refine bool_true (pure_ok oO20ok mixed Try.func7 h2 ⟨hin, hin', rfl, rfl, rfl, rfl, by rw [hi]; rfl, rfl, by rw [e2L_len]; rfl, rfl, by rw [e2L_len]; rfl, by rw [e2L_len]; rfl, by rw [tn_len, e2L_len]; rfl, tt_ok 2 trivial⟩ rfl) ?_
      exact turn2 (in2_of hin).2 hi
theorem codecTurns2_walk : LawWalk Try.prog 7 Try.f7 := walk_of fun H enc us W base ds ps hv hA => by
  have hp : Try.f7.params.toList = [42] := by kernel_rfl
  have hp' : Try.f7.params = #[42] := by kernel_rfl
  rw [hp] at hA
  rw [hp'] at hv
  obtain ⟨v1, us1, d1, ds1, p1, q1, rfl, rfl, t1, hA⟩ := args_cons hA
  obtain rfl := args0 hA rfl
  obtain ⟨r, r1⟩ := g2_arg (hv 0 _ v1 rfl rfl) t1
  exact ⟨[va P2 r], ⟨v1, _, r1 _, rfl, rfl⟩, turns2_ok r⟩
end
end Go.Proofs.Ytahkeahbfmneaaa
