/- sigillaw04: FpBelow, FpFermat, FpOctets, FpBack. -/
import Derived.Test.YtoemaicabljpfaaLu
import Derived.Test.YtoemaicabljpfaaPD
namespace Go.Proofs.Ytoemaicabljpfaa
open Ex Num
set_option maxRecDepth 100000

noncomputable def SL4 : List (FuncId × ASpec) := (37, pureSpec yes0) :: SB
theorem SL4ok : SpecsOk Try.prog SL4 := ⟨pureSpec_ok Try.func37 (by kernel_rfl) (by kernel_rfl) (sp0_ok aw4_ok fun u h => h), SBok⟩
/- FpBelow -/
def blS (a : Nat) : Nat := addS (ws6 (a % pN)) 0 6 PL 0 6
def blW (a i : Nat) : Int := (outL (blS a) 6 6).getD i 0
def blY (a : Nat) : Nat := nest6 (blW a 0) (blW a 1) (blW a 2) (blW a 3) (blW a 4) (blW a 5)
def blC4 (a : Nat) : Int := ((addC (ws6 (a % pN)) 0 6 PL 0 6 6 : Nat) : Int)
def blL (x : Nat) : Bool := decide (cmpI (natL (win (ws6 x) 0 6)) (natL (win PL 0 6)) < 0)
theorem fpBelow_run (a b : Nat) : pureRun Try.prog (orc SL4 KB) Try.f13 [num6 a, num6 b] [false, false, true, true, true, true, true, true] 300 =
  some (tt 6 ((!decide (blC4 a = 0), false) :: (true, true) :: (false, false) :: tt 16 ((blL (a % pN), true) :: tt 4 ((blL (mulN a b), true) :: tt 4 [(blL (addN a b), true), (decide (blY a % pN = a % pN), true), (decide (mulN (blY a) b = mulN a b), true), (decide (addN (blY a) b = addN a b), true)]))),
    boolA (decide (octL (blY a % pN) 48 = octL (a % pN) 48))) := by kernel_rfl
theorem blL_ok {x : Nat} (h : x < pN) : blL x = true := by
  unfold blL
  rw [natL_ws6 (Nat.lt_trans h pN_lt_RR), natL_PL]
  unfold cmpI
  rw [if_pos h]; rfl
theorem blY_eq (a : Nat) : blY a = a % pN + pN ∧ blC4 a = 0 := by
  have h := modp_lt a
  have h2 := pN_RR
  have e : blS a = a % pN + pN := by
    unfold blS addS
    rw [natL_ws6 (lt_RR_mod a), natL_PL]
  refine ⟨?_, ?_⟩
  · have hw := natL_words (x := a % pN + pN) (k := 6) (by rw [← RR_eq]; omega)
    rw [words6] at hw
    have g : ∀ i, i < 6 → blW a i = wordN (a % pN + pN) i := fun i hi => by
      unfold blW outL
      rw [e, Nat.sub_self, List.replicate_zero, List.append_nil, List.getD_eq_getElem?_getD, List.getElem?_map, List.getElem?_range hi]; rfl
    unfold blY
    rw [g 0 (by omega), g 1 (by omega), g 2 (by omega), g 3 (by omega), g 4 (by omega), g 5 (by omega)]
    exact hw
  unfold blC4 addC cyN
  rw [natL_ws6 (lt_RR_mod a), natL_PL, ← RR_eq, Nat.mod_eq_of_lt (by omega : a % pN < RR), Nat.mod_eq_of_lt pN_lt_RR, Nat.div_eq_of_lt (by omega)]
  rfl
theorem fpBelow_walk : LawWalk Try.prog 13 Try.f13 := fps_walk (n := 2) (by kernel_rfl) fun xs h _ => by
  obtain ⟨a, b, rfl⟩ := len2 h
  obtain ⟨e1, e2⟩ := blY_eq a
  have t : tf (a % pN + pN) = tf a := by rw [tf_eq, Nat.add_mod_right, Nat.mod_mod]
  have m1 : (a % pN + pN) % pN = a % pN := by rw [Nat.add_mod_right, Nat.mod_mod]
  have hrun := fpBelow_run a b
  rw [e1, e2] at hrun
  refine bool_true (pure_ok (orc_ok SL4ok KBok) mixed Try.func13 hrun ?_ rfl) (by rw [m1]; exact decide_eq_true rfl)
  refine tt_ok 6 ⟨rfl, rfl, rfl, tt_ok 16 ⟨blL_ok (modp_lt a), tt_ok 4 ⟨blL_ok (mulN_lt _ _), tt_ok 4 ⟨blL_ok (addN_lt _ _), decide_eq_true m1, decide_eq_true ?_, decide_eq_true ?_, trivial⟩⟩⟩⟩
  · exact tfl (mulN_lt _ _) (mulN_lt _ _) (by rw [tf_mulN, tf_mulN, t])
  · exact tfl (addN_lt _ _) (addN_lt _ _) (by rw [tf_addN, tf_addN, t])

/- FpFermat -/
def feL (e f : Nat) : List Int := List.take 1 ([] ++ List.take 1 (List.drop 0 (outL (addS [(e : Int)] 0 1 [(f : Int)] 0 1) 1 1))) ++ [((addC [(e : Int)] 0 1 [(f : Int)] 0 1 1 : Nat) : Int)]
theorem fpFermat_run (a e f : Nat) : pureRun Try.prog (orc SL4 KB) Try.f12 [num6 a, uV e, uV f] [true, true] 300 =
  some (tt 13 ((decide (powN a (natL (win PL 0 6)) = a % pN), true) :: tt 6 [(decide (mulN (powN a (natL (win [(e : Int)] 0 1))) (powN a (natL (win [(f : Int)] 0 1))) = powN a (natL (win (feL e f) 0 2))), true), (true, true), (true, true)]),
    boolA (decide (powN a (natL (win [] 0 0)) = 1))) := by kernel_rfl
theorem pow_fermat (a : Nat) : powN a pN = a % pN := by
  rw [powN_eq]
  have e : pN = (pN - 1) + 1 := by have := pN_gt; omega
  by_cases h : a % pN = 0
  · rw [Nat.pow_mod, h, Nat.zero_pow pN_pos, Nat.zero_mod]
  · have hf := fermat pN_prime (a := a) fun hd => h (Nat.mod_eq_zero_of_dvd hd)
    have e2 : a ^ pN = a ^ (pN - 1) * a := by
      rw [← Nat.pow_succ]
      exact congrArg (a ^ ·) e
    rw [e2, Nat.mul_mod, hf, Nat.one_mul, Nat.mod_mod]
theorem natL1 (e : Nat) : natL (win [(e : Int)] 0 1) = e := by
  show (e : Int).toNat + 18446744073709551616 * 0 = e
  omega
theorem feL_eq {e f : Nat} (he : e < 18446744073709551616) (hf : f < 18446744073709551616) : natL (win (feL e f) 0 2) = e + f := by
  have e1 : addS [(e : Int)] 0 1 [(f : Int)] 0 1 = e + f := by unfold addS; rw [natL1, natL1]
  have e2 : addC [(e : Int)] 0 1 [(f : Int)] 0 1 1 = (e + f) / 18446744073709551616 := by
    unfold addC cyN
    rw [natL1, natL1, show 2 ^ (64 * 1) = 18446744073709551616 from rfl, Nat.mod_eq_of_lt he, Nat.mod_eq_of_lt hf]
  have e3 : wordN (e + f) 0 = (((e + f) % 18446744073709551616 : Nat) : Int) := by
    unfold wordN
    rw [Nat.mul_zero, Nat.pow_zero, Nat.div_one]
  have e4 : outL (e + f) 1 1 = [wordN (e + f) 0] := rfl
  unfold feL
  rw [e1, e2, e4, e3]
  show Int.toNat _ + 18446744073709551616 * (Int.toNat _ + 18446744073709551616 * 0) = _
  rw [Int.toNat_natCast, Int.toNat_natCast]
  omega
theorem fpFermat_walk : LawWalk Try.prog 12 Try.f12 := walk_of fun H enc us W base ds ps hv hA => by
  have hp : Try.f12.params.toList = [24, 22, 22] := by kernel_rfl
  have hp' : Try.f12.params = #[24, 22, 22] := by kernel_rfl
  rw [hp] at hA
  rw [hp'] at hv
  obtain ⟨v1, us1, d1, ds1, p1, q1, rfl, rfl, t1, hA⟩ := args_cons hA
  obtain ⟨v2, us2, d2, ds2, p2, q2, rfl, rfl, t2, hA⟩ := args_cons hA
  obtain ⟨v3, us3, d3, ds3, p3, q3, rfl, rfl, t3, hA⟩ := args_cons hA
  obtain rfl := args0 hA rfl
  obtain ⟨a, ha, r1⟩ := fp_arg (hv 0 _ v1 rfl rfl) t1
  obtain ⟨e, he, r2⟩ := u64_arg (hv 1 _ v2 rfl rfl) t2
  obtain ⟨f, hf, r3⟩ := u64_arg (hv 2 _ v3 rfl rfl) t3
  refine ⟨[num6 a, uV e, uV f], ⟨v1, _, r1 _, ⟨v2, _, r2 _, ⟨v3, _, r3 _, rfl, rfl⟩, rfl⟩, rfl⟩, ?_⟩
  · refine bool_true (pure_ok (orc_ok SL4ok KBok) mixed Try.func12 (fpFermat_run a e f) ?_ rfl) ?_
    · refine tt_ok 13 ⟨decide_eq_true (by rw [natL_PL]; exact pow_fermat a), tt_ok 6 ⟨decide_eq_true ?_, rfl, rfl, trivial⟩⟩
      rw [natL1, natL1, feL_eq he hf]
      unfold mulN
      rw [powN_eq, powN_eq, powN_eq, ← Nat.mul_mod, ← Nat.pow_add]
    · have : natL (win [] 0 0) = 0 := rfl
      rw [this]
      rw [powN_eq, Nat.pow_zero]; exact decide_eq_true rfl

/- FpOctets -/
theorem fpOctets_run (a : Nat) (off n m : Nat) (xs : List Int) : segOut Try.prog (orc SL4 KB) Try.f16 300 1 [] (entry Try.f16 [num6 a, slA 0 off n m] (byH xs) 1 [true, true]) =
  some ([(Nat.ble (off + n) xs.length, true), (hasB .i64 n, true), (Nat.ble (off + n) xs.length, true), (hasB .i64 n, true), (decide (octL (a % pN) 48 = octL (a % pN) 48), true), (decide (fbV n (natB (win xs off n)) = fbV n (natB (win xs off n))), true)], [], boolA (decide (fbE n (natB (win xs off n)) = fbE n (natB (win xs off n)))), []) := by kernel_rfl
theorem fp_bytes_walk {f : FuncId} {fn : Func} (hp : fn.params = #[24, 39]) (h : ∀ (a n m : Nat) (xs : List Int), (∀ d ∈ xs, 0 ≤ d ∧ d < 256) → n ≤ xs.length → hasB .i64 (n : Int) = true → CanOk Try.prog f [num6 a, slA 0 0 n m] (byH xs) 1 [] (boolA true) []) : LawWalk Try.prog f fn := walk_can fun H enc us W base ds ps hv hA => by
  rw [hp] at hA hv
  obtain ⟨v1, us1, d1, ds1, p1, q1, rfl, rfl, t1, hA⟩ := args_cons (ts := [39]) hA
  obtain ⟨v2, us2, d2, ds2, p2, q2, rfl, rfl, t2, hA⟩ := args_cons (ts := []) hA
  obtain rfl := args0 hA rfl
  obtain ⟨a, ha, r1⟩ := fp_arg (hv 0 _ v1 rfl rfl) t1
  obtain ⟨L, zs, n, m, h1, h2, h3, h4, h5⟩ := bytes_arg (hv 1 _ v2 rfl rfl) t2 (ArgsOk.nil W)
  exact ⟨_, _, [num6 a, slA 0 0 n m], h5, ⟨v1, _, r1 _, ⟨v2, _, h4, rfl, rfl⟩, rfl⟩, h a n m zs h1 h2 h3⟩
theorem fpOctets_walk : LawWalk Try.prog 16 Try.f16 := fp_bytes_walk (by kernel_rfl) fun a n m xs hx hl hn => by
  have hb : Nat.ble (0 + n) xs.length = true := Nat.ble_eq_true_of_le (by omega)
  exact can_bool (can_run SL4ok KBok Try.func16 (by kernel_rfl) (by kernel_rfl) (fpOctets_run a 0 n m xs) (by kernel_rfl) ⟨hb, hn, hb, hn, decide_eq_true rfl, decide_eq_true rfl, trivial⟩) (decide_eq_true rfl)

/- FpBack -/
def bkC (a : Nat) : List (Bool × Bool) := [(true, true), (true, true), (!decide (fbV 48 (natB (win (octL (a % pN) 48) 0 48)) = a % pN), false), (!decide (fbE 48 (natB (win (octL (a % pN) 48) 0 48)) = 0), false)]
theorem fpBack_no (a : Nat) (off n m : Nat) (xs : List Int) : segOut Try.prog (orc SL4 KB) Try.f11 300 1 [] (entry Try.f11 [num6 a, slA 0 off n m] (byH xs) 1 [false, false, true, true]) =
  some (bkC a ++ [(Nat.ble (off + n) xs.length, true), (hasB .i64 n, true), (!decide (fbE n (natB (win xs off n)) = 0), true), (decide (fbV n (natB (win xs off n)) = 0), true), (hasB .i64 n, true)], [], boolA (decide (fbE n (natB (win xs off n)) = 40) == !decide ((n : Int) = 48)), []) := by kernel_rfl
theorem fpBack_yes (a : Nat) (off n m : Nat) (xs : List Int) : segOut Try.prog (orc SL4 KB) Try.f11 300 1 [] (entry Try.f11 [num6 a, slA 0 off n m] (byH xs) 1 [false, false, false]) =
  some (bkC a ++ [(Nat.ble (off + n) xs.length, true), (hasB .i64 n, true), (!decide (fbE n (natB (win xs off n)) = 0), false), (true, true), (Nat.ble (off + n) xs.length, true)], [], boolA (ByteArray.toList (bstr (List.take 48 (List.drop 0 (octL (fbV n (natB (win xs off n)) % pN) 48)))) == ByteArray.toList (bstr (List.take n (List.drop off xs)))), []) := by kernel_rfl
theorem octL_length (x n : Nat) : (octL x n).length = n := by simp [octL]
theorem octL_succ (x n : Nat) : octL x (n + 1) = byteN x n :: octL x n := by
  unfold octL
  rw [List.range_succ_eq_map, List.map_cons, List.map_map]
  congr 1
  refine List.map_congr_left fun i hi => ?_
  have : i < n := List.mem_range.1 hi
  simp only [Function.comp]
  congr 1; omega
theorem natB_octL : ∀ (n x : Nat), natB (octL x n) = x % 256 ^ n
  | 0, x => by simp [octL, natB, Nat.mod_one]
  | n + 1, x => by
    rw [octL_succ]
    simp only [natB]
    rw [octL_length, natB_octL n x, Nat.pow_succ, Nat.mod_mul]
    unfold byteN
    rw [Int.toNat_natCast, Nat.mul_comm, Nat.add_comm]
theorem octL_natB : ∀ (l : List Int), (∀ d ∈ l, 0 ≤ d ∧ d < 256) → octL (natB l) l.length = l
  | [], _ => rfl
  | d :: r, h => by
    have hd := h d (by simp)
    have hr : ∀ d ∈ r, 0 ≤ d ∧ d < 256 := fun x hx => h x (by simp [hx])
    have hlt := natB_lt r hr
    have ih := octL_natB r hr
    rw [List.length_cons, octL_succ]
    have e1 : byteN (natB (d :: r)) r.length = d := by
      unfold byteN
      simp only [natB]
      rw [Nat.mul_comm, Nat.mul_add_div (Nat.pow_pos (by decide)), Nat.div_eq_of_lt hlt]
      omega
    have e2 : octL (natB (d :: r)) r.length = octL (natB r) r.length := by
      unfold octL
      refine List.map_congr_left fun i hi => ?_
      have hi' : i < r.length := List.mem_range.1 hi
      unfold byteN
      simp only [natB]
      have e : 256 ^ r.length = 256 ^ (r.length - 1 - i) * (256 * 256 ^ i) := by
        rw [← Nat.pow_succ', ← Nat.pow_add]; congr 1; omega
      rw [e, Nat.mul_left_comm, Nat.mul_add_div (Nat.pow_pos (by decide)), Nat.mul_left_comm d.toNat, Nat.mul_add_mod]
    rw [e1, e2, ih]
theorem p48 : 256 ^ 48 = RR := by kernel_rfl
theorem bk_first (a : Nat) : okConds (bkC a) := by
  have h1 : win (octL (a % pN) 48) 0 48 = octL (a % pN) 48 := by
    unfold win; rw [List.drop_zero, List.take_of_length_le (by rw [octL_length]; omega)]
  have h2 : natB (octL (a % pN) 48) = a % pN := by rw [natB_octL, p48, Nat.mod_eq_of_lt (lt_RR_mod a)]
  have h3 : fbV 48 (a % pN) = a % pN := by unfold fbV; rw [if_pos ⟨rfl, modp_lt a⟩]
  have h4 : fbE 48 (a % pN) = 0 := by unfold fbE; rw [if_pos rfl, if_pos (modp_lt a)]
  unfold bkC
  rw [h1, h2, h3, h4, decide_eq_true rfl]
  exact ⟨rfl, rfl, rfl, rfl, trivial⟩
theorem fpBack_walk : LawWalk Try.prog 11 Try.f11 := fp_bytes_walk (by kernel_rfl) fun a n m xs hx hl hn => by
  have hb : Nat.ble (0 + n) xs.length = true := Nat.ble_eq_true_of_le (by omega)
  by_cases he : fbE n (natB (win xs 0 n)) = 0
  · refine can_bool (can_run SL4ok KBok Try.func11 (by kernel_rfl) (by kernel_rfl) (fpBack_yes a 0 n m xs) (by kernel_rfl) (ok_app (bk_first a) ⟨hb, hn, by rw [decide_eq_true he]; rfl, rfl, hb, trivial⟩)) ?_
    have hn48 : n = 48 := by
      unfold fbE at he
      split at he
      · assumption
      · cases he
    subst hn48
    have hN : natB (win xs 0 48) < pN := by
      unfold fbE at he
      rw [if_pos rfl] at he
      split at he
      · assumption
      · cases he
    have hV : fbV 48 (natB (win xs 0 48)) = natB (win xs 0 48) := by unfold fbV; rw [if_pos ⟨rfl, hN⟩]
    have hlen : (win xs 0 48).length = 48 := by unfold win; rw [List.length_take, List.length_drop]; omega
    have ho := octL_natB (win xs 0 48) (win_has hx)
    rw [hlen] at ho
    rw [hV, Nat.mod_eq_of_lt hN, ho]
    have e : List.take 48 (List.drop 0 (win xs 0 48)) = List.take 48 (List.drop 0 xs) := by
      unfold win; rw [List.drop_zero, List.drop_zero, List.take_take, Nat.min_self]
    rw [e]
    exact beq_self_eq_true _
  · have hv : fbV n (natB (win xs 0 n)) = 0 := by
      unfold fbV
      rw [if_neg]
      rintro ⟨h1, h2⟩
      exact he (by unfold fbE; rw [if_pos h1, if_pos h2])
    refine can_bool (can_run SL4ok KBok Try.func11 (by kernel_rfl) (by kernel_rfl) (fpBack_no a 0 n m xs) (by kernel_rfl) (ok_app (bk_first a) ⟨hb, hn, by rw [decide_eq_false he]; rfl, decide_eq_true hv, hn, trivial⟩)) ?_
    unfold fbE
    by_cases h48 : n = 48
    · subst h48
      have hN : ¬ natB (win xs 0 48) < pN := fun h => he (by unfold fbE; rw [if_pos rfl, if_pos h])
      rw [if_pos rfl, if_neg hN]; rfl
    · rw [if_neg h48, decide_eq_false (show ¬ (n : Int) = 48 by omega)]; rfl
end Go.Proofs.Ytoemaicabljpfaa
