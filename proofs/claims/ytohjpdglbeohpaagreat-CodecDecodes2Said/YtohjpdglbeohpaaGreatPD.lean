/- Part 4 of the proof: Go, Gp, Gq, Gr, Gs, Gt, Gv, Ka, Kb, Kc, Kd, Ra, Rb, Rc, Rd, Re, Rf. -/
import Derived.Test.YtohjpdglbeohpaaGreatPC
import Derived.Test.YtohjpdglbeohpaaGreatPB
import Derived.ChangeSlices
import Derived.KernelRfl
/- sigilref04.next: the contract. -/
namespace Go.Proofs.YtohjpdglbeohpaaGreat
open Ex Num
set_option maxRecDepth 100000
set_option maxHeartbeats 4000000

abbrev nxK : Option (List Nat × List Nat × Nat) := some ([4, 6], [1, 3], 4)
noncomputable def nxTodo : List Item := todoOf (aSeg Tryz.prog (orc SR K0) (some 0) 100 0 none (entry Tryz.f82 [num6 0, uV 0] [] 0 []))
noncomputable def nxS (T : Nat) (p : List Bool) : ASt := ⟨nxTodo, ⟨mkT Tryz.f82.ntmps [(4, .val false [.p 1 0]), (6, .val false [.p 3 0])], [(1, some ⟨24, zero6, false⟩), (3, some ⟨114, [.num 7 T], false⟩)], 4, p⟩⟩
def nxQ (a4 a5 : Int) : Nat := Int.toNat (((a5.toNat * W64 + a4.toNat) / Int.toNat (mW (1873798617647539866 + 1)) : Nat) : Int)
theorem nxQ_eq (a4 a5 : Int) : nxQ a4 a5 = (a5.toNat * W64 + a4.toNat) / 1873798617647539867 := by
  unfold nxQ
  rw [Int.toNat_natCast]
  rfl
theorem nx_entry (a0 a1 a2 a3 a4 a5 w : Int) : aSeg Tryz.prog (orc SR K0) (some 0) 100 0 nxK (entry Tryz.f82 [.val true (w6 a0 a1 a2 a3 a4 a5), uV w] [] 0 []) =
  some ([(decide (a5 < 1873798617647539867), true)], [], nxS (lessRs (natL [w, a0, a1, a2, a3, a4, a5]) (nxQ a4 a5)) []) := by kernel_rfl
theorem nx_step (T : Nat) : aSeg Tryz.prog (orc SR K0) (some 0) 100 0 nxK (nxS T [true]) = some ([(decide (0 < wordN T 6), true)], [], nxS (lessRs T 1) []) := by kernel_rfl
theorem nx_exit (T : Nat) : segRet Tryz.prog (orc SR K0) Tryz.f82 100 0 (nxS T [false]) = some ([(decide (0 < wordN T 6), false)], [], num6 (natL ((List.range 6).map (wordN T)) % pN)) := by kernel_rfl
theorem lessRs_eq {T q : Nat} (hT : T < R7) (h : pN * q ≤ T) : lessRs T q = T - pN * q := by
  unfold lessRs
  generalize R7 = Q at *
  rw [show T + (Q - pN * q) = (T - pN * q) + Q by omega, Nat.add_mod_right, Nat.mod_eq_of_lt (by omega)]
theorem natL_words {x k : Nat} (h : x < 2 ^ (64 * k)) : natL ((List.range k).map (wordN x)) = x := wordL_natL h
theorem p7 : R7 = RR * 18446744073709551616 := by kernel_rfl
theorem p5 : 2 ^ (64 * 5) * 18446744073709551616 = RR := by kernel_rfl
theorem p5' : RR = 2 ^ (64 * 5) * 2 ^ 64 := by kernel_rfl
theorem nx_safe (w0 : World) (v : Nat) : ∀ (T : Nat), T < R7 → T % pN = v → ASafe Tryz.prog 82 noEnv w0 (PureOut w0 (num6 v)) Tryz.f82.ntmps [] (nxS T []) := by
  intro T
  induction T using Nat.strongRecOn with
  | _ T ih =>
    intro hT hv
    have hw : wordN T 6 = ((T / RR : Nat) : Int) := by
      unfold wordN
      rw [← RR_eq, Nat.mod_eq_of_lt]
      refine Nat.div_lt_of_lt_mul ?_
      rw [p7] at hT; exact hT
    by_cases h : 0 < T / RR
    · have hp := pN_pos
      have hpR := pN_lt_RR
      have hR : 0 < RR := by decide
      have hge : RR ≤ T := by
        rcases Nat.lt_or_ge T RR with h1 | h1
        · rw [Nat.div_eq_of_lt h1] at h; omega
        · exact h1
      refine path_safe [true] (seg_safe (orc_ok SRok K0ok) mixed (nx_step T) ⟨by rw [hw]; simp only [decide_eq_true_eq]; omega, trivial⟩ (wfB_ok (by kernel_rfl)) (fun _ _ => rfl) (fun _ h => by cases h) fun _ => ?_)
      rw [lessRs_eq hT (by omega), Nat.mul_one]
      exact ih (T - pN) (by omega) (by omega) (by rw [← hv, ← Nat.mod_eq_sub_mod (by omega)])
    · have hlt : T < RR := by
        rcases Nat.lt_or_ge T RR with h1 | h1
        · exact h1
        · exact absurd (Nat.div_pos h1 (by decide)) h
      have := ret_safe (w0 := w0) (β0 := noEnv) (n := Tryz.f82.ntmps) (orc_ok SRok K0ok) mixed Tryz.func82 (nx_exit T) ⟨by rw [hw]; simp only [decide_eq_false_iff_not]; omega, trivial⟩ (wfB_ok (by kernel_rfl)) (fun _ _ => rfl) rfl
      rw [natL_words (by rw [← RR_eq]; exact hlt), hv] at this
      exact path_safe [false] this
theorem p_top : Nat.blt pN (2 ^ (64 * 5) * 1873798617647539867) = true := by kernel_rfl
theorem pow_step (k j : Nat) (h : j = k + 1) : 2 ^ (64 * j) = 2 ^ (64 * k) * 18446744073709551616 := by
  subst h
  rw [show 64 * (k + 1) = 64 * k + 64 by omega, Nat.pow_add]
theorem join_words (x k j : Nat) (h : j = k + 1) : x / 2 ^ (64 * j) * W64 + (wordN x k).toNat = x / 2 ^ (64 * k) := by
  rw [pow_step k j h, ← Nat.div_div_eq_div_mul]
  have := Nat.div_add_mod (x / 2 ^ (64 * k)) 18446744073709551616
  unfold wordN W64
  rw [Int.toNat_natCast]
  omega
theorem p_le (P : Nat) (h : Nat.blt pN (P * 1873798617647539867) = true) : pN ≤ 1873798617647539867 * P := by rw [Nat.mul_comm]; exact Nat.le_of_lt (nblt.1 h)
theorem nq_le {p q A P Q x w : Nat} (hp : p ≤ 1873798617647539867 * P) (h1 : q * 1873798617647539867 ≤ A) (h2 : A * Q ≤ x) (e : P = Q * 18446744073709551616) : p * q ≤ w + 18446744073709551616 * x := by
  calc p * q ≤ (1873798617647539867 * P) * q := Nat.mul_le_mul_right _ hp
    _ = (q * 1873798617647539867) * P := by rw [Nat.mul_comm, Nat.mul_assoc]
    _ ≤ A * P := Nat.mul_le_mul_right _ h1
    _ = (A * Q) * 18446744073709551616 := by rw [e, Nat.mul_assoc]
    _ ≤ x * 18446744073709551616 := Nat.mul_le_mul_right _ h2
    _ ≤ w + 18446744073709551616 * x := by rw [Nat.mul_comm]; exact Nat.le_add_left _ _
theorem next_ok {x w : Nat} (hx : x < pN) (hw : w < 18446744073709551616) : PureOk Tryz.prog 82 [num6 x, uV w] (num6 ((w + 18446744073709551616 * x) % pN)) := by
  have hpR := pN_lt_RR
  have h5 : wordN x 5 = ((x / 2 ^ (64 * 5) : Nat) : Int) := by
    unfold wordN
    rw [Nat.mod_eq_of_lt]
    have h : x < 2 ^ (64 * 5) * 2 ^ 64 := by rw [← p5']; exact Nat.lt_trans hx pN_lt_RR
    exact Nat.div_lt_of_lt_mul h
  have hlt5 : x / 2 ^ (64 * 5) < 1873798617647539867 := by
    refine Nat.div_lt_of_lt_mul (Nat.lt_trans hx ?_)
    exact nblt.1 p_top
  have h4 : (wordN x 5).toNat * W64 + (wordN x 4).toNat = x / 2 ^ (64 * 4) := by
    rw [h5, Int.toNat_natCast]
    exact join_words x 4 5 rfl
  have hT : natL [(w : Int), wordN x 0, wordN x 1, wordN x 2, wordN x 3, wordN x 4, wordN x 5] = w + 18446744073709551616 * x := by
    have := natL_words (x := x) (k := 6) (by rw [← RR_eq]; omega)
    show (w : Int).toNat + 18446744073709551616 * natL [wordN x 0, wordN x 1, wordN x 2, wordN x 3, wordN x 4, wordN x 5] = _
    rw [Int.toNat_natCast]
    exact congrArg (fun z => w + 18446744073709551616 * z) this
  have hT7 : w + 18446744073709551616 * x < R7 := by rw [p7]; omega
  have hq : pN * nxQ (wordN x 4) (wordN x 5) ≤ w + 18446744073709551616 * x := by
    refine nq_le (p_le (2 ^ (64 * 5)) p_top) ?_ (Nat.div_mul_le_self x (2 ^ (64 * 4))) (pow_step 4 5 rfl)
    rw [nxQ_eq, h4]; exact Nat.div_mul_le_self _ _
  intro us w1 ⟨u1, us1, r1, r2, r3⟩
  refine pure_entry (args := [.val true (w6 (wordN x 0) (wordN x 1) (wordN x 2) (wordN x 3) (wordN x 4) (wordN x 5)), uV w]) (path := []) Tryz.func82 (by kernel_rfl) (by kernel_rfl) (fun w0 => ?_) us w1 ⟨u1, us1, ?_, r2, r3⟩
  case refine_2 =>
    have := (normN (k := 6) (a := [.num 6 x]) asInum r1).2.1
    rwa [wordsCh6] at this
  refine seg_safe (orc_ok SRok K0ok) mixed (nx_entry (wordN x 0) (wordN x 1) (wordN x 2) (wordN x 3) (wordN x 4) (wordN x 5) w) ⟨by rw [h5]; simp only [decide_eq_true_eq]; omega, trivial⟩ (wfB_ok (by kernel_rfl)) (fun _ _ => rfl) (fun _ h => by cases h) fun _ => ?_
  rw [hT, lessRs_eq hT7 hq]
  refine nx_safe w0 _ _ (by omega) ?_
  exact Nat.sub_mul_mod hq
def nextSp : List AV → Option (List (Bool × Bool) × AV)
  | [.val true a, B] => match asNum 6 a, asI (some B) with
    | some x, some (_, .u64, w) => some ([(decide (x < pN), true)], num6 ((w.toNat + 18446744073709551616 * x) % pN))
    | _, _ => none
  | _ => none
theorem nextSp_ok : ∀ args c v, nextSp args = some (c, v) → okConds c → PureOk Tryz.prog 82 args v := by
  intro args cs v h hc us w ha
  unfold nextSp at h
  split at h
  case h_2 => cases h
  rename_i a B
  split at h
  case h_2 => cases h
  rename_i x c h0 hx hy
  injection h with h; injection h with h1 h2; subst h1; subst h2
  obtain ⟨u1, us1, r1, ⟨u2, us2, r2, ha, rfl⟩, rfl⟩ := ha
  obtain ⟨q0, q1, hlt⟩ := normN hx r1
  obtain ⟨q2, h2⟩ := normI hy r2
  have bh := u64_bounds h2
  obtain ⟨q, rfl⟩ := Int.eq_ofNat_of_zero_le bh.1
  exact next_ok (of_decide_eq_true hc.1) (by omega) _ w ⟨u1, _, q0, ⟨u2, _, q2, ha, rfl⟩, rfl⟩
noncomputable def ST : List (FuncId × ASpec) := (82, condSpec nextSp) :: SR
theorem STok : SpecsOk Tryz.prog ST := ⟨condSpec_ok Tryz.func82 (by kernel_rfl) (by kernel_rfl) nextSp_ok, SRok⟩
end Go.Proofs.YtohjpdglbeohpaaGreat
/- sigilref04: Add, Neg, Sub, Mul: the contracts. -/
namespace Go.Proofs.YtohjpdglbeohpaaGreat
open Ex Num
set_option maxRecDepth 100000
set_option maxHeartbeats 4000000

/- memory told otherwise -/
def HImp : Heap → Heap → Prop
  | [], [] => True
  | (k, some b) :: r, (k', some b') :: r' => k = k' ∧ b'.ty = b.ty ∧ b'.opn = b.opn ∧ (∀ β l, relL β b.cs l → relL β b'.cs l) ∧ HImp r r'
  | _, _ => False
theorem himp_get : ∀ {H H' : Heap} {j : Nat} {d : Blk}, HImp H H' → hget H' j = some d → ∃ b, hget H j = some b ∧ d.ty = b.ty ∧ d.opn = b.opn ∧ ∀ β l, relL β b.cs l → relL β d.cs l
  | [], [], _, _, _, h => by cases h
  | (k, some b) :: r, (k', some b') :: r', j, d, ⟨e, h1, h2, h3, h4⟩, h => by
    subst e
    simp only [hget] at h ⊢
    split at h
    · rename_i hk; injection h with h; subst h; exact ⟨b, rfl, h1, h2, h3⟩
    · rename_i hk; exact himp_get h4 h
  | [], _ :: _, _, _, h, _ => by cases h
  | (_, none) :: _, _, _, _, h, _ => by cases h
  | (_, some _) :: _, [], _, _, h, _ => by cases h
  | (_, some _) :: _, (_, none) :: _, _, _, h, _ => by cases h
theorem himp_safe {P : Program} {f : FuncId} {β0 : Env} {w0 : World} {R : Ending → World → Prop} {n : Nat} {W : List Nat} {todo : List Item} {T : List AV} {H H' : Heap} {fr : Nat} {p : List Bool} (hi : HImp H H') (h : ASafe P f β0 w0 R n W ⟨todo, ⟨T, H', fr, p⟩⟩) : ASafe P f β0 w0 R n W ⟨todo, ⟨T, H, fr, p⟩⟩ := by
  intro β a w hv hf
  refine h β a w { hv with good := ⟨fun b blk hb => ?_, fun b b' B n n' h1 h2 h3 h4 => ?_, hv.good.lt⟩ } hf
  · obtain ⟨x, hx, h1, h2, h3⟩ := himp_get hi hb
    exact relB_in (hv.good.heap b x hx) rfl (.inr ⟨h1, h2⟩) (h3 β)
  · refine hv.good.inj b b' B n n' ?_ ?_ h3 h4
    · obtain ⟨d, hd, hr⟩ := rwK_some h1
      obtain ⟨x, hx, q1, _⟩ := himp_get hi hd
      exact rwK_mk hx (by rw [← q1]; exact hr)
    · obtain ⟨d, hd⟩ := Option.isSome_iff_exists.1 h2
      obtain ⟨x, hx, _⟩ := himp_get hi hd
      rw [hx]; rfl
theorem same_cells (β : Env) (c : List Ch) (l : List Value) (h : relL β c l) : relL β c l := h
theorem ws_num {ds : List Int} {y : Nat} (e : (y : Int) = sumL ds) (β : Env) (l : List Value) (h : relL β (wsCh ds) l) : relL β [.num ds.length y] l := num_of_ws e h

/- Add, Neg, Sub -/
def ccC (x y : Nat) : Nat → List (Bool × Bool)
  | 0 => []
  | k + 1 => ccC x y k ++ [(is01 (cch x y k), true)]
theorem ccC_ok (x y : Nat) : ∀ k, okConds (ccC x y k)
  | 0 => trivial
  | k + 1 => ok_app (ccC_ok x y k) ⟨is01_of (cch_bd _ _ _), trivial⟩
theorem radd_run (x y : Nat) : pureRun Tryz.prog (orc ST K0) Tryz.f37 [num6 x, num6 y] [] 500 = some (ccC (x % pN) (y % pN) 6, num6 (sumN (x % pN) (y % pN) % pN)) := by kernel_rfl
theorem radd_ok (x y : Nat) : PureOk Tryz.prog 37 [num6 x, num6 y] (num6 (addN x y)) := by
  have h := pure_ok (orc_ok STok K0ok) mixed Tryz.func37 (radd_run x y) (ccC_ok _ _ _) rfl
  obtain ⟨h1, h2⟩ := sumN_eq (lt_RR_mod x) (lt_RR_mod y)
  have h3 := modp_lt x
  have h4 := modp_lt y
  have h5 := pN_RR
  have hc : (cch (x % pN) (y % pN) 6).toNat = 0 := by
    have := cch_bd (x % pN) (y % pN) 6
    have h01 : (cch (x % pN) (y % pN) 6).toNat = 0 ∨ (cch (x % pN) (y % pN) 6).toNat = 1 := by omega
    rcases h01 with e | e
    · exact e
    · rw [e] at h1; omega
  rw [hc] at h1
  have : sumN (x % pN) (y % pN) = x % pN + y % pN := by omega
  rw [this] at h
  exact h
theorem rneg_run (x : Nat) : pureRun Tryz.prog (orc ST K0) Tryz.f38 [num6 x] [] 500 = some ([], num6 (((natL PL + (RR - x % pN)) % RR) % pN)) := by kernel_rfl
theorem natL_PL' : natL PL = pN := by kernel_rfl
theorem rneg_ok (x : Nat) : PureOk Tryz.prog 38 [num6 x] (num6 (negN x)) := by
  have h := pure_ok (orc_ok STok K0ok) mixed Tryz.func38 (rneg_run x) trivial rfl
  have h3 := modp_lt x
  have h5 := pN_RR
  have : (natL PL + (RR - x % pN)) % RR = pN - x % pN := by
    rw [natL_PL', show pN + (RR - x % pN) = (pN - x % pN) + RR by omega, Nat.add_mod_right, Nat.mod_eq_of_lt (by omega)]
  rw [this] at h
  exact h
noncomputable def SU : List (FuncId × ASpec) := (37, pureSpec (sp2 fun x y => num6 (addN x y))) :: (38, pureSpec (sp1 fun x => num6 (negN x))) :: ST
theorem SUok : SpecsOk Tryz.prog SU := ⟨pureSpec_ok Tryz.func37 (by kernel_rfl) (by kernel_rfl) (sp2_ok fun x y _ _ => radd_ok x y), pureSpec_ok Tryz.func38 (by kernel_rfl) (by kernel_rfl) (sp1_ok fun x _ => rneg_ok x), STok⟩
theorem rsub_run (x y : Nat) : pureRun Tryz.prog (orc SU K0) Tryz.f101 [num6 x, num6 y] [] 300 = some ([], num6 (subN x y)) := by kernel_rfl
theorem rsub_ok (x y : Nat) : PureOk Tryz.prog 101 [num6 x, num6 y] (num6 (subN x y)) := pure_ok (orc_ok SUok K0ok) mixed Tryz.func101 (rsub_run x y) trivial rfl

/- Mul: a row -/
noncomputable def rmTodo : List Item := todoOf (aSeg Tryz.prog (orc SU K0) (some 0) 100 0 none (entry Tryz.f35 [num6 0, num6 0] [] 0 []))
noncomputable def rmS (x y : Nat) (t : List Ch) (i : Nat) (p : List Bool) : ASt := ⟨rmTodo, ⟨mkT Tryz.f35.ntmps [(4, .val false [.p 2 0]), (5, .val false [.p 3 0]), (6, .val false [.p 4 0]), (7, .val false [.p 5 0]), (8, .val false [.n .i64 i])],
  [(2, some ⟨24, zero6, false⟩), (3, some ⟨24, [.num 6 x], false⟩), (4, some ⟨24, [.num 6 y], false⟩), (5, some ⟨86, t, false⟩)], 6, p⟩⟩
abbrev rmK : Option (List Nat × List Nat × Nat) := some ([4, 5, 6, 7, 8], [2, 3, 4, 5], 6)
def rowC (xi : Int) (y T i : Nat) : Nat → Int
  | 0 => 0
  | k + 1 => mW (mW (mulHi xi (wordN y k) + carW (mulLo xi (wordN y k)) (rowC xi y T i k) 0) + carW (wordN T (i + k)) (sumW (mulLo xi (wordN y k)) (rowC xi y T i k) 0) 0)
def rowT (xi : Int) (y T i k : Nat) : Int := sumW (wordN T (i + k)) (sumW (mulLo xi (wordN y k)) (rowC xi y T i k) 0) 0
def rowL (xi : Int) (y T i : Nat) : List Int := (List.range i).map (wordN T) ++ ((List.range 6).map (rowT xi y T i) ++ (rowC xi y T i 6 :: (List.range (5 - i)).map fun j => wordN T (i + 7 + j)))
theorem rm_entry (x y : Nat) : aSeg Tryz.prog (orc SU K0) (some 4) 300 0 rmK (entry Tryz.f35 [num6 x, num6 y] [] 0 []) = some ([], [], rmS (x % pN) (y % pN) (List.replicate 12 (.n .u64 0)) 0 []) := by kernel_rfl
theorem rm_row (x y T i : Nat) (hi : i < 6) : aSeg Tryz.prog (orc SU K0) (some 4) 300 0 rmK (rmS x y [.num 12 T] i []) = some (allT 12, [], rmS x y (wsCh (rowL (wordN x i) y T i)) (i + 1) []) := by
  obtain rfl | rfl | rfl | rfl | rfl | rfl : i = 0 ∨ i = 1 ∨ i = 2 ∨ i = 3 ∨ i = 4 ∨ i = 5 := by omega
  all_goals kernel_rfl
def mE (T : Nat) : Nat → Nat
  | 0 => natL [wordN T 6, wordN T 7, wordN T 8, wordN T 9, wordN T 10, wordN T 11]
  | k + 1 => ((wordN T (5 - k)).toNat + 18446744073709551616 * mE T k) % pN
def mEC (T : Nat) : Nat → List (Bool × Bool)
  | 0 => []
  | k + 1 => mEC T k ++ [(decide (mE T k < pN), true)]
theorem rm_exit (x y T : Nat) : segRet Tryz.prog (orc SU K0) Tryz.f35 300 0 (rmS x y [.num 12 T] 6 []) = some (mEC T 6, [], num6 (mE T 6)) := by kernel_rfl
theorem row_st {xi : Int} {y T i : Nat} : ∀ k, rowC xi y T i k = stC xi y (T / 2 ^ (64 * i)) k
  | 0 => rfl
  | k + 1 => by
    have hw : wordN T (i + k) = wordN (T / 2 ^ (64 * i)) k := by
      unfold wordN
      rw [Nat.div_div_eq_div_mul, ← Nat.pow_add, show 64 * i + 64 * k = 64 * (i + k) by omega]
    simp only [rowC, stC]; rw [row_st k, hw]
theorem word_shift (T i k : Nat) : wordN T (i + k) = wordN (T / 2 ^ (64 * i)) k := by
  unfold wordN
  rw [Nat.div_div_eq_div_mul, ← Nat.pow_add, show 64 * i + 64 * k = 64 * (i + k) by omega]
theorem st_chain {x : Int} (hx : 0 ≤ x ∧ x < 18446744073709551616) (y T : Nat) : ∀ k, sumL ((List.range k).map (stT x y T)) + ((2 ^ (64 * k) : Nat) : Int) * stC x y T k = x * ((y % 2 ^ (64 * k) : Nat) : Int) + ((T % 2 ^ (64 * k) : Nat) : Int)
  | 0 => by simp [sumL, stC, Nat.mod_one]
  | k + 1 => by
    have ih := st_chain hx y T k
    have he := st_eq hx y T k
    rw [List.range_succ, List.map_append, sumL_append, mod_word, mod_word, pow_word]
    simp only [List.map_cons, List.map_nil, sumL, List.length_map, List.length_range, Int.mul_zero, Int.add_zero]
    generalize ((2 ^ (64 * k) : Nat) : Int) = Q at *
    have e1 : Q * stT x y T k = Q * (x * wordN y k) + Q * wordN T k + Q * stC x y T k - Q * 18446744073709551616 * stC x y T (k + 1) := by
      have : stT x y T k = x * wordN y k + wordN T k + stC x y T k - 18446744073709551616 * stC x y T (k + 1) := by omega
      rw [this, Int.mul_sub, Int.mul_add, Int.mul_add, Int.mul_assoc]
    have e2 : x * (((y % 2 ^ (64 * k) : Nat) : Int) + Q * wordN y k) = x * ((y % 2 ^ (64 * k) : Nat) : Int) + Q * (x * wordN y k) := by
      rw [Int.mul_add, Int.mul_left_comm]
    rw [e1, e2]
    omega
theorem row_num {x y T i : Nat} (hi : i < 6) (hy : y < RR) (hT : T < 2 ^ (64 * (i + 6))) :
    ((T + (wordN x i).toNat * y * 2 ^ (64 * i) : Nat) : Int) = sumL (rowL (wordN x i) y T i) ∧ (rowL (wordN x i) y T i).length = 12 := by
  have hw := word_bd x i
  obtain ⟨X, hX⟩ := Int.eq_ofNat_of_zero_le hw.1
  have hB : T / 2 ^ (64 * i) < 2 ^ (64 * 6) := by
    refine Nat.div_lt_of_lt_mul ?_
    have e : 2 ^ (64 * (i + 6)) = 2 ^ (64 * i) * 2 ^ (64 * 6) := by rw [Nat.mul_add 64 i 6]; exact Nat.pow_add 2 (64 * i) (64 * 6)
    exact e ▸ hT
  have hz : ((List.range (5 - i)).map fun j => wordN T (i + 7 + j)) = (List.range (5 - i)).map fun _ => (0 : Int) := by
    refine List.map_congr_left fun j _ => ?_
    unfold wordN
    rw [Nat.div_eq_of_lt (Nat.lt_of_lt_of_le hT (Nat.pow_le_pow_right (by decide) (by omega)))]; rfl
  have hz2 : ∀ n, sumL ((List.range n).map fun _ => (0 : Int)) = 0 := by
    intro n
    induction n with
    | zero => rfl
    | succ n ih => rw [List.range_succ, List.map_append, sumL_append, ih]; simp [sumL]
  have hA : sumL ((List.range i).map (wordN T)) = ((T % 2 ^ (64 * i) : Nat) : Int) := by
    have := sumL_digits i (T % 2 ^ (64 * i)) (Nat.mod_lt _ (Nat.pow_pos (by decide)))
    rw [← this]
    refine congrArg sumL (List.map_congr_left fun j hj => ?_)
    have hj' : j < i := List.mem_range.1 hj
    unfold wordN
    have e : 2 ^ (64 * i) = 2 ^ (64 * j) * (2 ^ 64 * 2 ^ (64 * (i - j - 1))) := by rw [← Nat.pow_add, ← Nat.pow_add]; congr 1; omega
    rw [e, Nat.mod_mul_right_div_self, Nat.mod_mul_right_mod]
  have hrow : (List.range 6).map (rowT X y T i) = (List.range 6).map (stT X y (T / 2 ^ (64 * i))) := by
    refine List.map_congr_left fun k _ => ?_
    unfold rowT stT
    rw [row_st, word_shift]
  rw [hX]
  have hc := st_chain (x := X) (by omega) y (T / 2 ^ (64 * i)) 6
  rw [Nat.mod_eq_of_lt hB, Nat.mod_eq_of_lt (a := y) (by rw [← RR_eq]; exact hy)] at hc
  constructor
  · unfold rowL
    rw [hz, sumL_append, sumL_append, hA, hrow, row_st]
    simp only [sumL, hz2, List.length_map, List.length_range, Int.mul_zero, Int.add_zero]
    rw [hc]
    have e := Nat.div_add_mod T (2 ^ (64 * i))
    generalize 2 ^ (64 * i) = Q at *
    rw [Int.toNat_natCast, Int.natCast_add, Int.natCast_mul, Int.natCast_mul]
    conv => lhs; rw [← e]
    rw [Int.natCast_add, Int.natCast_mul, Int.mul_add, Int.mul_comm ((X : Int) * y)]
    omega
  · unfold rowL; simp; omega
end Go.Proofs.YtohjpdglbeohpaaGreat
/- sigilref04.Mul: the contract. -/
namespace Go.Proofs.YtohjpdglbeohpaaGreat
open Ex Num
set_option maxRecDepth 100000
set_option maxHeartbeats 4000000

theorem mod_wordN (x i : Nat) : x % 2 ^ (64 * (i + 1)) = x % 2 ^ (64 * i) + (wordN x i).toNat * 2 ^ (64 * i) := by
  have h := mod_word x i
  have hw := word_bd x i
  obtain ⟨X, hX⟩ := Int.eq_ofNat_of_zero_le hw.1
  rw [hX, ← Int.natCast_mul, ← Int.natCast_add] at h
  rw [hX, Int.toNat_natCast, Nat.mul_comm X]
  exact Int.natCast_inj.1 h
theorem num_zero12 (β : Env) (l : List Value) (h : relL β (List.replicate 12 (.n .u64 0)) l) : relL β [.num 12 0] l := num_any (k := 12) (x := 0) (by kernel_rfl) h
theorem mE_z (T : Nat) : mE T 0 = natL [wordN T 6, wordN T 7, wordN T 8, wordN T 9, wordN T 10, wordN T 11] := rfl
theorem words6 (z : Nat) : (List.range 6).map (wordN z) = [wordN z 0, wordN z 1, wordN z 2, wordN z 3, wordN z 4, wordN z 5] := rfl
theorem mE_zero {T : Nat} (hT : T < pN * RR) : mE T 0 = T / RR ∧ T / RR < pN := by
  have hT12 : T / RR < pN := Nat.div_lt_of_lt_mul (by rw [Nat.mul_comm]; exact hT)
  refine ⟨?_, hT12⟩
  have h := natL_words (x := T / RR) (k := 6) (Nat.lt_trans hT12 (by rw [← RR_eq]; exact pN_lt_RR))
  rw [words6] at h
  have e : ∀ j, wordN T (6 + j) = wordN (T / RR) j := fun j => by rw [word_shift, ← RR_eq]
  rw [← e 0, ← e 1, ← e 2, ← e 3, ← e 4, ← e 5] at h
  rw [mE_z]
  exact h
theorem mE_succ (T k : Nat) : mE T (k + 1) = ((wordN T (5 - k)).toNat + 18446744073709551616 * mE T k) % pN := rfl
theorem div_word (T j : Nat) : T / 2 ^ (64 * j) = (wordN T j).toNat + 18446744073709551616 * (T / 2 ^ (64 * (j + 1))) := by
  rw [show 64 * (j + 1) = 64 * j + 64 by omega, Nat.pow_add, ← Nat.div_div_eq_div_mul]
  have := Nat.div_add_mod (T / 2 ^ (64 * j)) (2 ^ 64)
  unfold wordN
  rw [Int.toNat_natCast]
  omega
theorem mE_eq {T : Nat} (hT : T < pN * RR) (k : Nat) (hk : k ≤ 6) : mE T k = T / 2 ^ (64 * (6 - k)) % pN ∧ mE T k < pN := by
  induction k with
  | zero =>
    obtain ⟨e, h⟩ := mE_zero hT
    rw [e, Nat.sub_zero, ← RR_eq]
    exact ⟨(Nat.mod_eq_of_lt h).symm, h⟩
  | succ k ih =>
    obtain ⟨i1, i2⟩ := ih (by omega)
    rw [mE_succ]
    refine ⟨?_, Nat.mod_lt _ pN_pos⟩
    rw [i1, show 6 - (k + 1) = 5 - k by omega, div_word T (5 - k), show 5 - k + 1 = 6 - k by omega, Nat.add_mod, Nat.mul_mod_mod, ← Nat.add_mod]
theorem mEC_ok {T : Nat} (hT : T < pN * RR) : ∀ k, k ≤ 6 → okConds (mEC T k)
  | 0, _ => trivial
  | k + 1, hk => ok_app (mEC_ok hT k (by omega)) ⟨decide_eq_true (mE_eq hT k (by omega)).2, trivial⟩
theorem rmul_ok (x y : Nat) : PureOk Tryz.prog 35 [num6 x, num6 y] (num6 (mulN x y)) := by
  refine pure_entry (path := []) Tryz.func35 (by kernel_rfl) (by kernel_rfl) fun w0 => ?_
  refine seg_safe (orc_ok SUok K0ok) mixed (rm_entry x y) trivial (wfB_ok (by kernel_rfl)) (fun _ _ => rfl) (fun _ h => by cases h) fun _ => ?_
  have hx := modp_lt x
  have hy := modp_lt y
  have hyR := lt_RR_mod y
  have hxR := lt_RR_mod x
  have e : mulN x y = (x % pN) * (y % pN) % pN := by unfold mulN; rw [← Nat.mul_mod]
  rw [e]
  generalize x % pN = a at *
  generalize y % pN = b at *
  have loop : ∀ r i, i + r = 6 → ASafe Tryz.prog 35 noEnv w0 (PureOut w0 (num6 (a * b % pN))) Tryz.f35.ntmps [] (rmS a b [.num 12 ((a % 2 ^ (64 * i)) * b)] i []) := by
    intro r
    induction r with
    | zero =>
      intro i hi
      obtain rfl : i = 6 := by omega
      have e6 : a % 2 ^ (64 * 6) = a := Nat.mod_eq_of_lt (RR_eq ▸ hxR)
      have hT : a * b < pN * RR := Nat.mul_lt_mul'' hx hyR
      have h := ret_safe (w0 := w0) (β0 := noEnv) (n := Tryz.f35.ntmps) (orc_ok SUok K0ok) mixed Tryz.func35 (rm_exit a b (a * b)) (mEC_ok hT 6 (Nat.le_refl _)) (wfB_ok (by kernel_rfl)) (fun _ _ => rfl) rfl
      rw [(mE_eq hT 6 (Nat.le_refl _)).1, Nat.sub_self, Nat.mul_zero, Nat.pow_zero, Nat.div_one] at h
      exact (congrArg (fun z => ASafe Tryz.prog 35 noEnv w0 (PureOut w0 (num6 (a * b % pN))) Tryz.f35.ntmps [] (rmS a b [.num 12 (z * b)] 6 [])) e6).mpr h
    | succ r ih =>
      intro i hi
      have hlt : (a % 2 ^ (64 * i)) * b < 2 ^ (64 * (i + 6)) := by
        rw [show 64 * (i + 6) = 64 * i + 64 * 6 by omega, Nat.pow_add]
        exact Nat.mul_lt_mul'' (Nat.mod_lt _ (Nat.pow_pos (by decide))) (by rw [← RR_eq]; exact hyR)
      obtain ⟨r1, r2⟩ := row_num (x := a) (T := (a % 2 ^ (64 * i)) * b) (show i < 6 by omega) hyR hlt
      have e2 : (a % 2 ^ (64 * i)) * b + (wordN a i).toNat * b * 2 ^ (64 * i) = (a % 2 ^ (64 * (i + 1))) * b := by
        rw [mod_wordN, Nat.add_mul]; congr 1; rw [Nat.mul_right_comm]
      rw [e2] at r1
      refine seg_safe (orc_ok SUok K0ok) mixed (rm_row a b _ i (by omega)) (allT_ok 12) (wfB_ok (by kernel_rfl)) (fun _ _ => rfl) (fun _ h => by cases h) fun _ => ?_
      have := ws_num r1
      rw [r2] at this
      refine himp_safe ?_ (ih (i + 1) (by omega))
      exact ⟨rfl, rfl, rfl, fun β l h => h, rfl, rfl, rfl, fun β l h => h, rfl, rfl, rfl, fun β l h => h, rfl, rfl, rfl, this, trivial⟩
  have h0 := loop 6 0 rfl
  rw [Nat.mul_zero, Nat.pow_zero, Nat.mod_one, Nat.zero_mul] at h0
  refine himp_safe ?_ h0
  exact ⟨rfl, rfl, rfl, fun β l h => h, rfl, rfl, rfl, fun β l h => h, rfl, rfl, rfl, fun β l h => h, rfl, rfl, rfl, num_zero12, trivial⟩
noncomputable def SV : List (FuncId × ASpec) := (101, pureSpec (sp2 fun x y => num6 (subN x y))) :: (35, pureSpec (sp2 fun x y => num6 (mulN x y))) :: SU
theorem SVok : SpecsOk Tryz.prog SV := ⟨pureSpec_ok Tryz.func101 (by kernel_rfl) (by kernel_rfl) (sp2_ok fun x y _ _ => rsub_ok x y), pureSpec_ok Tryz.func35 (by kernel_rfl) (by kernel_rfl) (sp2_ok fun x y _ _ => rmul_ok x y), SUok⟩
end Go.Proofs.YtohjpdglbeohpaaGreat
/- sigilref03.At, more; sigilref04.Wide, Pow: the contracts. -/
namespace Go.Proofs.YtohjpdglbeohpaaGreat
open Ex Num
set_option maxRecDepth 100000
set_option maxHeartbeats 4000000

/-- Contracts of functions that read one list of words. -/
def wdSpec (g : Nat → List Int → AV) : ASpec := fun args H fr path =>
  match args with
  | [.val false [.sl k off n _]] => match hget H k with
    | some ⟨_, cs, _⟩ => match toSeq .u64 cs with
      | some xs => some (trR [k] 1 fr 0 [] (g n (win xs off n)) [] [(Nat.ble (off + n) xs.length, true), (Nat.ble n 1125899906842624, true)] path)
      | none => none
    | _ => none
  | _ => none
theorem wdSpec_ok {f : FuncId} {fn : Func} {g : Nat → List Int → AV} (hfn : Tryz.prog.funcs[f]? = some fn) (hb : fn.body.isSome = true) (hname : (fn.name == "runtime.NumGoroutine") = false) (hk : ∀ n l, canB 1 0 [] (g n l) [] = true)
    (h : ∀ (off n m : Nat) (xs : List Int), (∀ d ∈ xs, 0 ≤ d ∧ d < 18446744073709551616) → off + n ≤ xs.length → n ≤ 1125899906842624 → CanOk Tryz.prog f [slA 0 off n m] (seqH xs) 1 [] (g n (win xs off n)) []) : SpecOk Tryz.prog f (wdSpec g) := by
  refine can_spec hfn hb hname fun args H fr path r hs => ?_
  unfold wdSpec at hs
  split at hs
  case h_2 => cases hs
  rename_i k off n c
  split at hs
  case h_2 => cases hs
  rename_i ty cs o hk'
  split at hs
  case h_2 => cases hs
  rename_i xs hxs
  injection hs with hs
  refine ⟨[k], [slA 0 off n c], seqH xs, 1, 0, [], _, _, _, path, hs.symm, fun β us w ha hg hc => ?_⟩
  obtain ⟨u1, us1, r1, ha, rfl⟩ := ha
  obtain ⟨g1, g2, g3⟩ := good_seq hg hk' hxs
  exact ⟨h off n c xs g1 (Nat.le_of_ble_eq_true hc.1) (Nat.le_of_ble_eq_true hc.2.1), hk _ _, ⟨u1, _, r1, ha, rfl⟩, g2, g3⟩
theorem hasB_len {n : Nat} (h : n ≤ 1125899906842624) : hasB .i64 (n : Int) = true := by
  simp only [hasB, Bool.and_eq_true, decide_eq_true_eq]; omega

/- At -/
theorem rat_in (off n m : Nat) (i : Int) (xs : List Int) : segOut Tryz.prog (orc S0 K0) Tryz.f118 100 1 [] (entry Tryz.f118 (atA off n m i) (seqH xs) 1 [true]) =
  some ([(hasB .i64 n, true), (decide (i < n), true), (decide (0 ≤ i ∧ i < n), true), (decide (off + i.toNat * 1 < xs.length), true)], [], .val false [.v (.int .u64 (xs.getD (off + i.toNat * 1) 0))], []) := by kernel_rfl
theorem rat_out (off n m : Nat) (i : Int) (xs : List Int) : segOut Tryz.prog (orc S0 K0) Tryz.f118 100 1 [] (entry Tryz.f118 (atA off n m i) (seqH xs) 1 [false]) =
  some ([(hasB .i64 n, true), (decide (i < n), false)], [], .val false [.n .u64 0], []) := by kernel_rfl
theorem rat_can {off n m : Nat} {xs : List Int} (hlen : off + n ≤ xs.length) (hn : hasB .i64 n = true) {i : Int} (hi : 0 ≤ i) :
    CanOk Tryz.prog 118 (atA off n m i) (seqH xs) 1 [] (.val false [.v (.int .u64 (atV xs off n i))]) [] := by
  by_cases h : i < n
  · refine can_entry (path := [true]) Tryz.func118 (by kernel_rfl) (by kernel_rfl) fun β0 w0 hb => ?_
    rw [show atV xs off n i = xs.getD (off + i.toNat * 1) 0 from by rw [Nat.mul_one]; exact bit_word (by omega)]
    exact out_safe (orc_ok S0ok K0ok) mixed Tryz.func118 (rat_in off n m i xs) ⟨hn, by simp [h], by simp [hi, h], by simp; omega, trivial⟩ (wfB_ok (by kernel_rfl)) hb (fun _ h => by cases h)
  · have e : atV xs off n i = 0 := by
      unfold atV win
      rw [List.getD_eq_getElem?_getD, List.getElem?_eq_none (by rw [List.length_take]; omega)]; rfl
    rw [e]
    refine can_val (v := .val false [.n .u64 0]) (can_entry (path := [false]) Tryz.func118 (by kernel_rfl) (by kernel_rfl) fun β0 w0 hb => ?_) fun _ _ => nv_val
    exact out_safe (orc_ok S0ok K0ok) mixed Tryz.func118 (rat_out off n m i xs) ⟨hn, by simp [h], trivial⟩ (wfB_ok (by kernel_rfl)) hb (fun _ h => by cases h)
theorem ratSpec_ok : SpecOk Tryz.prog 118 atSpec := by
  refine can_spec Tryz.func118 (by kernel_rfl) (by kernel_rfl) fun args H fr path r h => ?_
  unfold atSpec at h
  split at h
  case h_2 => cases h
  rename_i k off n m I
  split at h
  case h_2 => cases h
  rename_i c0 i ty cs o hI hk
  split at h
  case h_2 => cases h
  rename_i xs hxs
  injection h with h
  refine ⟨[k], atA off n m i, seqH xs, 1, 0, [], _, [], _, path, h.symm, fun β us w ha hg hc => ?_⟩
  obtain ⟨u1, us1, r1, ⟨u2, us2, r2, ha, rfl⟩, rfl⟩ := ha
  obtain ⟨g1, g2, g3⟩ := good_seq hg hk hxs
  obtain ⟨rfl, p1⟩ := asI_rel (β := β) (u := u2) (fun A hA => by injection hA with hA; subst hA; exact r2) hI
  exact ⟨rat_can (Nat.le_of_ble_eq_true hc.1) hc.2.1 (by simpa using hc.2.2.1), by kernel_rfl, ⟨u1, _, r1, ⟨_, us2, rel_one' ⟨rfl, rfl, p1⟩, ha, rfl⟩, rfl⟩, g2, g3⟩
/- more -/
theorem more_t (i j : Int) : pureRun Tryz.prog (orc S0 K0) Tryz.f117 [iA i, iA j] [true] 100 = some ([(decide (j < i), true)], iA i) := by kernel_rfl
theorem more_f (i j : Int) : pureRun Tryz.prog (orc S0 K0) Tryz.f117 [iA i, iA j] [false] 100 = some ([(decide (j < i), false)], iA j) := by kernel_rfl
theorem more_ok (i j : Int) : PureOk Tryz.prog 117 [iA i, iA j] (iA (maxI i j)) := by
  by_cases h : j < i
  · have e : maxI i j = i := by unfold maxI; split <;> omega
    rw [e]
    exact pure_ok (orc_ok S0ok K0ok) mixed Tryz.func117 (more_t i j) ⟨decide_eq_true h, trivial⟩ rfl
  · have e : maxI i j = j := by unfold maxI; split <;> omega
    rw [e]
    exact pure_ok (orc_ok S0ok K0ok) mixed Tryz.func117 (more_f i j) ⟨decide_eq_false h, trivial⟩ rfl
noncomputable def SW : List (FuncId × ASpec) := (118, atSpec) :: (117, condSpec (spInts [.i64, .i64] fun l => match l with | [i, j] => some ([], iA (maxI i j)) | _ => none)) :: SV
theorem SWok : SpecsOk Tryz.prog SW := ⟨ratSpec_ok, condSpec_ok Tryz.func117 (by kernel_rfl) (by kernel_rfl) (spInts_ok fun is c v h hh hc => by
  split at h
  · injection h with h; injection h with h1 h2; subst h1; subst h2; exact more_ok _ _
  · cases h), SVok⟩
/- Wide -/
noncomputable def wdTodo : List Item := todoOf (aSeg Tryz.prog (orc SV K0) (some 0) 100 1 none (entry Tryz.f123 [slA 0 0 0 0] (seqH []) 1 []))
noncomputable def wdS (off n m : Nat) (xs : List Int) (v : List Ch) (i : Int) (p : List Bool) : ASt := ⟨wdTodo, ⟨mkT Tryz.f123.ntmps [(0, slA 0 off n m), (2, .val false [.p 1 0]), (3, .val false [.p 2 0]), (4, iA i)],
  [(0, some (roB [.seq .u64 xs])), (1, some ⟨24, zero6, false⟩), (2, some ⟨24, v, false⟩)], 3, p⟩⟩
abbrev wdK : Option (List Nat × List Nat × Nat) := some ([0, 2, 3, 4], [0, 1, 2], 3)
theorem wd_entry (off n m : Nat) (xs : List Int) : aSeg Tryz.prog (orc SV K0) (some 0) 100 1 wdK (entry Tryz.f123 [slA 0 off n m] (seqH xs) 1 []) = some ([(hasB .i64 n, true)], [], wdS off n m xs zero6 (wI ((n : Int) - 1)) []) := by kernel_rfl
def wdW (xs : List Int) (off : Nat) (i : Int) : Int := xs.getD (off + i.toNat * 1) 0
theorem wd_step (off n m : Nat) (xs : List Int) (v : Nat) (i : Int) : aSeg Tryz.prog (orc SV K0) (some 0) 100 1 wdK (wdS off n m xs [.num 6 v] i [true]) =
  some ([(decide (0 ≤ i), true), (decide (0 ≤ i ∧ i < n), true), (decide (off + i.toNat * 1 < xs.length), true), (decide (v < pN), true)], [], wdS off n m xs [.num 6 (((wdW xs off i).toNat + 18446744073709551616 * v) % pN)] (wI (i - 1)) []) := by kernel_rfl
theorem wd_exit (off n m : Nat) (xs : List Int) (v : Nat) (i : Int) : segOut Tryz.prog (orc SV K0) Tryz.f123 100 1 [] (wdS off n m xs [.num 6 v] i [false]) = some ([(decide (0 ≤ i), false)], [], num6 v, []) := by kernel_rfl
theorem zero_numL (β : Env) (l : List Value) (h : relL β zero6 l) : relL β [.num 6 0] l := num_any (k := 6) (x := 0) (by kernel_rfl) h
theorem wide_can {off n m : Nat} {xs : List Int} (hx : ∀ d ∈ xs, 0 ≤ d ∧ d < 18446744073709551616) (hl : off + n ≤ xs.length) (hn : n ≤ 1125899906842624) : CanOk Tryz.prog 123 [slA 0 off n m] (seqH xs) 1 [] (num6 (natL (win xs off n) % pN)) [] := by
  refine can_entry (path := []) Tryz.func123 (by kernel_rfl) (by kernel_rfl) fun β0 w0 hb => ?_
  refine seg_safe (orc_ok SVok K0ok) mixed (wd_entry off n m xs) ⟨hasB_len hn, trivial⟩ (wfB_ok (by kernel_rfl)) hb (fun _ h => by cases h) fun _ => ?_
  have hw : ∀ d ∈ win xs off n, 0 ≤ d ∧ d < 18446744073709551616 := win_has hx
  have hlen : (win xs off n).length = n := by unfold win; rw [List.length_take, List.length_drop]; omega
  have loop : ∀ c, c ≤ n → ASafe Tryz.prog 123 β0 w0 (Outs β0 w0 [] (num6 (natL (win xs off n) % pN)) []) Tryz.f123.ntmps [] (wdS off n m xs [.num 6 (natL (win xs off n) / 2 ^ (64 * c) % pN)] ((c : Int) - 1) []) := by
    intro c
    induction c with
    | zero =>
      intro _
      have h := out_safe (w0 := w0) (W := []) (n := Tryz.f123.ntmps) (orc_ok SVok K0ok) mixed Tryz.func123 (wd_exit off n m xs (natL (win xs off n) % pN) (((0 : Nat) : Int) - 1)) ⟨rfl, trivial⟩ (wfB_ok (by kernel_rfl)) hb (fun _ h => by cases h)
      rw [Nat.mul_zero, Nat.pow_zero, Nat.div_one]
      exact path_safe [false] h
    | succ c ih =>
      intro hc
      have hi : ((c + 1 : Nat) : Int) - 1 = (c : Int) := by omega
      rw [hi]
      have hs := natL_split hw c
      have hv : wdW xs off c = (win xs off n).getD c 0 := by
        unfold wdW
        rw [Int.toNat_natCast, Nat.mul_one]
        exact (bit_word (by omega)).symm
      refine path_safe [true] (seg_safe (orc_ok SVok K0ok) mixed (wd_step ..) ⟨by simp, by simp; omega, by simp; omega, decide_eq_true (Nat.mod_lt _ pN_pos), trivial⟩ (wfB_ok (by kernel_rfl)) hb (fun _ h => by cases h) fun _ => ?_)
      rw [hv, wI_eq (z := (c : Int) - 1) (by omega)]
      have e : ((win xs off n).getD c 0).toNat + 18446744073709551616 * (natL (win xs off n) / 2 ^ (64 * (c + 1)) % pN) = _ + _ := rfl
      rw [Nat.add_mod, Nat.mul_mod_mod, ← Nat.add_mod, ← hs]
      exact ih (by omega)
  have h0 := loop n (Nat.le_refl _)
  have hlt := natL_lt (win xs off n) hw
  rw [hlen] at hlt
  rw [Nat.div_eq_of_lt hlt, Nat.zero_mod] at h0
  rw [wI_eq (by omega)]
  refine himp_safe ?_ h0
  exact ⟨rfl, rfl, rfl, fun β l h => h, rfl, rfl, rfl, fun β l h => h, rfl, rfl, rfl, zero_numL, trivial⟩

/- Pow -/
noncomputable def rpTodo : List Item := todoOf (aSeg Tryz.prog (orc SV K0) (some 0) 100 1 none (entry Tryz.f126 (powA 0 0 0 0) (seqH []) 1 []))
noncomputable def rpS (off n m : Nat) (xs : List Int) (x : Nat) (v : List Ch) (i : Int) (p : List Bool) : ASt := ⟨rpTodo, ⟨mkT Tryz.f126.ntmps [(1, slA 0 off n m), (2, .val false [.p 1 0]), (4, .val false [.p 2 0]), (5, .val false [.p 3 0]), (6, iA i)],
  [(0, some (roB [.seq .u64 xs])), (1, some ⟨24, [.num 6 x], false⟩), (2, some ⟨24, zero6, false⟩), (3, some ⟨24, v, false⟩)], 4, p⟩⟩
abbrev rpK : Option (List Nat × List Nat × Nat) := some ([1, 2, 4, 5, 6], [0, 1, 2, 3], 4)
def one6 : List Ch := [.n .u64 1, .n .u64 0, .n .u64 0, .n .u64 0, .n .u64 0, .n .u64 0]
theorem rp_entry (x off n m : Nat) (xs : List Int) : aSeg Tryz.prog (orc SV K0) (some 0) 100 1 rpK (entry Tryz.f126 (powA x off n m) (seqH xs) 1 []) = some ([(hasB .i64 n, true)], [], rpS off n m xs x one6 (wI (wI (64 * (n : Int)) - 1)) []) := by kernel_rfl
def rpB (xs : List Int) (off : Nat) (i : Int) : Int := bits .and .u64 (Int.fdiv (powW xs off i) (2 ^ min (wrapc false .u64 (Int.tmod i 64)).toNat 64)) 1
def rpC (off n : Nat) (xs : List Int) (i : Int) (bit : Bool) : List (Bool × Bool) := [(decide (0 ≤ i), true), (true, true), (decide (0 ≤ wI (Int.tdiv i 64) ∧ wI (Int.tdiv i 64) < n), true), (decide (off + (wI (Int.tdiv i 64)).toNat * 1 < xs.length), true), (decide (0 ≤ i ∧ (0 : Int) < 64), true),
  (decide (0 ≤ wrapc false .u64 (Int.tmod i 64) ∧ 0 ≤ powW xs off i), true), (decide (rpB xs off i = 1), bit)]
theorem rp_one (off n m : Nat) (xs : List Int) (x v : Nat) (i : Int) : aSeg Tryz.prog (orc SV K0) (some 0) 100 1 rpK (rpS off n m xs x [.num 6 v] i [true, true]) = some (rpC off n xs i true, [], rpS off n m xs x [.num 6 (mulN (mulN v v) x)] (wI (i - 1)) []) := by kernel_rfl
theorem rp_zero (off n m : Nat) (xs : List Int) (x v : Nat) (i : Int) : aSeg Tryz.prog (orc SV K0) (some 0) 100 1 rpK (rpS off n m xs x [.num 6 v] i [true, false]) = some (rpC off n xs i false, [], rpS off n m xs x [.num 6 (mulN v v)] (wI (i - 1)) []) := by kernel_rfl
theorem rp_exit (off n m : Nat) (xs : List Int) (x v : Nat) (i : Int) : segOut Tryz.prog (orc SV K0) Tryz.f126 100 1 [] (rpS off n m xs x [.num 6 v] i [false]) = some ([(decide (0 ≤ i), false)], [], num6 v, []) := by kernel_rfl
theorem rpB_eq (xs : List Int) (off : Nat) (c : Nat) : rpB xs off c = bitI (powW xs off c) (Int.tmod c 64) ∧ wrapc false .u64 (Int.tmod c 64) = Int.tmod c 64 := by
  have hr : Int.tmod (c : Int) 64 = ((c % 64 : Nat) : Int) := by rw [Int.tmod_eq_emod_of_nonneg (by omega)]; rfl
  have e : wrapc false .u64 (Int.tmod (c : Int) 64) = Int.tmod c 64 := by rw [hr, wrapc_eq, IntKind.wrap_u64]; omega
  exact ⟨by unfold rpB; rw [e]; rfl, e⟩
theorem mulN_pow (x a b : Nat) : mulN (x ^ a % pN) (x ^ b % pN) = x ^ (a + b) % pN := by unfold mulN; rw [← Nat.mul_mod, Nat.pow_add]
theorem mulN_pow1 (x a : Nat) : mulN (x ^ a % pN) x = x ^ (a + 1) % pN := by unfold mulN; rw [Nat.mod_mul_mod, Nat.pow_succ]
theorem rpow_can {off n m : Nat} {xs : List Int} (hall : ∀ d ∈ xs, 0 ≤ d ∧ d < 18446744073709551616) (hlen : off + n ≤ xs.length) (hn : n ≤ 1125899906842624) (x : Nat) :
    CanOk Tryz.prog 126 (powA x off n m) (seqH xs) 1 [] (num6 (powN x (natL (win xs off n)))) [] := by
  refine can_entry (path := []) Tryz.func126 (by kernel_rfl) (by kernel_rfl) fun β0 w0 hb => ?_
  refine seg_safe (orc_ok SVok K0ok) mixed (rp_entry x off n m xs) ⟨hasB_len hn, trivial⟩ (wfB_ok (by kernel_rfl)) hb (fun _ h => by cases h) fun _ => ?_
  have hlt : ∀ d ∈ win xs off n, 0 ≤ d ∧ d < 18446744073709551616 := win_has hall
  have hwl : (win xs off n).length = n := by unfold win; rw [List.length_take, List.length_drop]; omega
  generalize hE : natL (win xs off n) = E at *
  have loop : ∀ c, c ≤ 64 * n → ASafe Tryz.prog 126 β0 w0 (Outs β0 w0 [] (num6 (powN x E)) []) Tryz.f126.ntmps [] (rpS off n m xs x [.num 6 (x ^ (E / 2 ^ c) % pN)] ((c : Int) - 1) []) := by
    intro c
    induction c with
    | zero =>
      intro _
      have h := out_safe (w0 := w0) (W := []) (n := Tryz.f126.ntmps) (orc_ok SVok K0ok) mixed Tryz.func126 (rp_exit off n m xs x (x ^ E % pN) (((0 : Nat) : Int) - 1)) ⟨rfl, trivial⟩ (wfB_ok (by kernel_rfl)) hb (fun _ h => by cases h)
      rw [Nat.pow_zero, Nat.div_one, powN_eq]
      exact path_safe [false] h
    | succ c ih =>
      intro hc
      have hi : ((c + 1 : Nat) : Int) - 1 = (c : Int) := by omega
      rw [hi]
      have hq : Int.tdiv (c : Int) 64 = ((c / 64 : Nat) : Int) := by rw [Int.tdiv_eq_ediv_of_nonneg (by omega)]; rfl
      have hr : Int.tmod (c : Int) 64 = ((c % 64 : Nat) : Int) := by rw [Int.tmod_eq_emod_of_nonneg (by omega)]; rfl
      have hw : wI (Int.tdiv (c : Int) 64) = ((c / 64 : Nat) : Int) := by rw [hq]; exact wI_eq (by omega)
      have hj : c / 64 < n := by omega
      have hv : powW xs off c = (win xs off n).getD (c / 64) 0 := by
        unfold powW
        rw [hw, Int.toNat_natCast, Nat.mul_one]; exact (bit_word hj).symm
      have hvb : 0 ≤ powW xs off c ∧ powW xs off c < 18446744073709551616 := by rw [hv]; exact getD_bd hlt _
      obtain ⟨eb, em⟩ := rpB_eq xs off c
      have hbit : rpB xs off c = ((E / 2 ^ c % 2 : Nat) : Int) := by
        obtain ⟨V, hV⟩ := Int.eq_ofNat_of_zero_le hvb.1
        rw [eb, hr, ← hE, ← natL_bit _ c hlt, ← hv, hV, Int.toNat_natCast]
        exact bitI_eq V _ (by omega) (by omega)
      have hconds : ∀ bit, decide (rpB xs off c = 1) = bit → okConds (rpC off n xs c bit) := by
        intro bit hbt
        refine ⟨by simp, rfl, ?_, ?_, by simp, ?_, hbt, trivial⟩
        · rw [hw]; simp; omega
        · rw [hw]; simp; omega
        · rw [em, hr]; simp only [decide_eq_true_eq]; exact ⟨by omega, hvb.1⟩
      have hdiv : E / 2 ^ c = 2 * (E / 2 ^ (c + 1)) + E / 2 ^ c % 2 := by
        rw [Nat.pow_succ, ← Nat.div_div_eq_div_mul]; omega
      have ihc := ih (by omega)
      rcases Nat.mod_two_eq_zero_or_one (E / 2 ^ c) with h0 | h1
      · refine path_safe [true, false] (seg_safe (orc_ok SVok K0ok) mixed (rp_zero ..) (hconds false (by rw [hbit, h0]; rfl)) (wfB_ok (by kernel_rfl)) hb (fun _ h => by cases h) fun _ => ?_)
        rw [wI_eq (z := (c : Int) - 1) (by omega), mulN_pow, show E / 2 ^ (c + 1) + E / 2 ^ (c + 1) = E / 2 ^ c by omega]
        exact ihc
      · refine path_safe [true, true] (seg_safe (orc_ok SVok K0ok) mixed (rp_one ..) (hconds true (by rw [hbit, h1]; rfl)) (wfB_ok (by kernel_rfl)) hb (fun _ h => by cases h) fun _ => ?_)
        rw [wI_eq (z := (c : Int) - 1) (by omega), mulN_pow, mulN_pow1, show E / 2 ^ (c + 1) + E / 2 ^ (c + 1) + 1 = E / 2 ^ c by omega]
        exact ihc
  have h0 := loop (64 * n) (Nat.le_refl _)
  have hl := natL_lt (win xs off n) hlt
  rw [hwl, hE] at hl
  rw [Nat.div_eq_of_lt hl, Nat.pow_zero] at h0
  have e3 : wI (wI (64 * (n : Int)) - 1) = ((64 * n : Nat) : Int) - 1 := by
    rw [wI_eq (z := 64 * (n : Int)) (by omega), wI_eq (by omega)]; omega
  rw [e3]
  refine himp_safe ?_ h0
  exact ⟨rfl, rfl, rfl, fun β l h => h, rfl, rfl, rfl, fun β l h => h, rfl, rfl, rfl, fun β l h => h, rfl, rfl, rfl, fun β l h => num_any (k := 6) (x := 1) (by kernel_rfl) h, trivial⟩
theorem rpowSpec_ok : SpecOk Tryz.prog 126 powSpec := by
  refine can_spec Tryz.func126 (by kernel_rfl) (by kernel_rfl) fun args H fr path r h => ?_
  unfold powSpec at h
  split at h
  case h_2 => cases h
  rename_i a k off n m
  split at h
  case h_2 => cases h
  rename_i x ty cs o hx hk
  split at h
  case h_2 => cases h
  rename_i xs hxs
  injection h with h
  refine ⟨[k], powA x off n m, seqH xs, 1, 0, [], num6 (powN x (natL ((xs.drop off).take n))), [], _, path, h.symm, fun β us w ha hg hc => ?_⟩
  obtain ⟨u1, us1, r1, ⟨u2, us2, r2, ha, rfl⟩, rfl⟩ := ha
  obtain ⟨g1, g2, g3⟩ := good_seq hg hk hxs
  refine ⟨rpow_can g1 (Nat.le_of_ble_eq_true hc.1) (Nat.le_of_ble_eq_true hc.2.1) x, by kernel_rfl, ⟨u1, _, ?_, ⟨u2, us2, ?_, ha, rfl⟩, rfl⟩, g2, g3⟩
  · obtain ⟨l, q, rfl⟩ := r1; exact ⟨l, num_any hx q, rfl⟩
  · exact r2
noncomputable def SX : List (FuncId × ASpec) := (123, wdSpec fun _ l => num6 (natL l % pN)) :: (126, powSpec) :: SW
theorem SXok : SpecsOk Tryz.prog SX := ⟨wdSpec_ok Tryz.func123 (by kernel_rfl) (by kernel_rfl) (fun _ _ => rfl) (fun _ _ _ _ hx hl hn => wide_can hx hl hn), rpowSpec_ok, SWok⟩
end Go.Proofs.YtohjpdglbeohpaaGreat
/- sigilref03: Cmp, Octets, Words: the contracts. -/
namespace Go.Proofs.YtohjpdglbeohpaaGreat
open Ex Num
set_option maxRecDepth 100000
set_option maxHeartbeats 4000000

/- Cmp -/
noncomputable def rcTodo : List Item := todoOf (aSeg Tryz.prog (orc SX K0) (some 0) 100 2 none (entry Tryz.f66 (sl2 0 0 0 0 0 0) (seqH2 [] []) 2 []))
abbrev rcK : Option (List Nat × List Nat × Nat) := some ([0, 1, 5], [0, 1], 2)
section
variable (off n m off' n' m' : Nat) (xs ys : List Int)
noncomputable def rcS (i : Int) (p : List Bool) : ASt := ⟨rcTodo, ⟨mkT Tryz.f66.ntmps [(0, slA 0 off n m), (1, slA 1 off' n' m'), (5, iA i)], seqH2 xs ys, 2, p⟩⟩
theorem rc_entry : aSeg Tryz.prog (orc SX K0) (some 0) 100 2 rcK (entry Tryz.f66 (sl2 off n m off' n' m') (seqH2 xs ys) 2 []) =
  some ([(hasB .i64 n, true), (hasB .i64 n', true)], [], rcS off n m off' n' m' xs ys (wI (maxI n n' - 1)) []) := by kernel_rfl
def rcC (i : Int) (r : List (Bool × Bool)) : List (Bool × Bool) := (Nat.ble (off + n) xs.length, true) :: (hasB .i64 n, true) :: (decide (0 ≤ i), true) :: (Nat.ble (off' + n') ys.length, true) :: (hasB .i64 n', true) :: (decide (0 ≤ i), true) :: r
theorem rc_same (i : Int) : aSeg Tryz.prog (orc SX K0) (some 0) 100 2 rcK (rcS off n m off' n' m' xs ys i [true, false, false]) =
  some ((decide (0 ≤ i), true) :: rcC off n off' n' xs ys i ((decide (atV xs off n i < atV ys off' n' i), false) :: rcC off n off' n' xs ys i [(decide (atV ys off' n' i < atV xs off n i), false)]), [], rcS off n m off' n' m' xs ys (wI (i - 1)) []) := by kernel_rfl
theorem rc_lt (i : Int) : segOut Tryz.prog (orc SX K0) Tryz.f66 100 2 [] (rcS off n m off' n' m' xs ys i [true, true]) =
  some ((decide (0 ≤ i), true) :: rcC off n off' n' xs ys i [(decide (atV xs off n i < atV ys off' n' i), true)], [], .val false [.n .i64 (-1)], []) := by kernel_rfl
theorem rc_gt (i : Int) : segOut Tryz.prog (orc SX K0) Tryz.f66 100 2 [] (rcS off n m off' n' m' xs ys i [true, false, true]) =
  some ((decide (0 ≤ i), true) :: rcC off n off' n' xs ys i ((decide (atV xs off n i < atV ys off' n' i), false) :: rcC off n off' n' xs ys i [(decide (atV ys off' n' i < atV xs off n i), true)]), [], .val false [.n .i64 1], []) := by kernel_rfl
theorem rc_end (i : Int) : segOut Tryz.prog (orc SX K0) Tryz.f66 100 2 [] (rcS off n m off' n' m' xs ys i [false]) =
  some ([(decide (0 ≤ i), false)], [], .val false [.n .i64 0], []) := by kernel_rfl
end
theorem rcmp_can {off n m off' n' m' : Nat} {xs ys : List Int} (hx : ∀ d ∈ xs, 0 ≤ d ∧ d < 18446744073709551616) (hy : ∀ d ∈ ys, 0 ≤ d ∧ d < 18446744073709551616) (hl : off + n ≤ xs.length) (hl' : off' + n' ≤ ys.length)
    (hn : hasB .i64 n = true) (hn' : hasB .i64 n' = true) : CanOk Tryz.prog 66 (sl2 off n m off' n' m') (seqH2 xs ys) 2 [] (.val false [.v (.int .i64 (cmpI (natL (win xs off n)) (natL (win ys off' n'))))]) [] := by
  refine can_entry (path := []) Tryz.func66 (by kernel_rfl) (by kernel_rfl) fun β0 w0 hb => ?_
  refine seg_safe (orc_ok SXok K0ok) mixed (rc_entry off n m off' n' m' xs ys) ⟨hn, hn', trivial⟩ (wfB_ok (by kernel_rfl)) hb (fun _ h => by cases h) fun _ => ?_
  have bn : n ≤ 9223372036854775807 := by simp only [hasB, Bool.and_eq_true, decide_eq_true_eq] at hn; omega
  have bn' : n' ≤ 9223372036854775807 := by simp only [hasB, Bool.and_eq_true, decide_eq_true_eq] at hn'; omega
  have e : wI (maxI n n' - 1) = ((max n n' : Nat) : Int) - 1 := by
    have : maxI n n' = ((max n n' : Nat) : Int) := by unfold maxI; split <;> omega
    rw [this, wI_eq (by omega)]
  rw [e]
  have loop : ∀ c, c ≤ max n n' → natL (win xs off n) / 2 ^ (64 * c) = natL (win ys off' n') / 2 ^ (64 * c) →
      ASafe Tryz.prog 66 β0 w0 (Outs β0 w0 [] (.val false [.v (.int .i64 (cmpI (natL (win xs off n)) (natL (win ys off' n'))))]) []) Tryz.f66.ntmps [] (rcS off n m off' n' m' xs ys ((c : Int) - 1) []) := by
    intro c
    induction c with
    | zero =>
      intro _ heq
      rw [Nat.mul_zero, Nat.pow_zero, Nat.div_one, Nat.div_one] at heq
      have h := out_safe (w0 := w0) (W := []) (n := Tryz.f66.ntmps) (orc_ok SXok K0ok) mixed Tryz.func66 (rc_end off n m off' n' m' xs ys (((0 : Nat) : Int) - 1)) ⟨rfl, trivial⟩ (wfB_ok (by kernel_rfl)) hb (fun _ h => by cases h)
      exact path_safe [false] (asafe_val h fun _ _ => nval (by unfold cmpI; rw [heq]; simp))
    | succ c ih =>
      intro hc heq
      have hi : ((c + 1 : Nat) : Int) - 1 = (c : Int) := by omega
      rw [hi]
      have sx := natL_split (win_has (off := off) (n := n) hx) c
      have sy := natL_split (win_has (off := off') (n := n') hy) c
      have bx := getD_bd (win_has (off := off) (n := n) hx) c
      have byy := getD_bd (win_has (off := off') (n := n') hy) c
      have ex : atV xs off n c = (win xs off n).getD c 0 := by unfold atV; rw [Int.toNat_natCast]
      have ey : atV ys off' n' c = (win ys off' n').getD c 0 := by unfold atV; rw [Int.toNat_natCast]
      have hC : ∀ r, okConds r → okConds (rcC off n off' n' xs ys c r) := fun r hr => ⟨Nat.ble_eq_true_of_le hl, hn, by simp, Nat.ble_eq_true_of_le hl', hn', by simp, hr⟩
      by_cases hlt : atV xs off n c < atV ys off' n' c
      · have h := out_safe (w0 := w0) (W := []) (n := Tryz.f66.ntmps) (orc_ok SXok K0ok) mixed Tryz.func66 (rc_lt off n m off' n' m' xs ys c) ⟨by simp, hC _ ⟨decide_eq_true hlt, trivial⟩⟩ (wfB_ok (by kernel_rfl)) hb (fun _ h => by cases h)
        refine path_safe [true, true] (asafe_val h fun _ _ => nval ?_)
        have : natL (win xs off n) < natL (win ys off' n') := ltdiv (Q := 2 ^ (64 * c)) (by rw [sx, sy, heq]; omega)
        unfold cmpI; rw [if_pos this]
      · by_cases hgt : atV ys off' n' c < atV xs off n c
        · have h := out_safe (w0 := w0) (W := []) (n := Tryz.f66.ntmps) (orc_ok SXok K0ok) mixed Tryz.func66 (rc_gt off n m off' n' m' xs ys c) ⟨by simp, hC _ ⟨decide_eq_false hlt, hC _ ⟨decide_eq_true hgt, trivial⟩⟩⟩ (wfB_ok (by kernel_rfl)) hb (fun _ h => by cases h)
          refine path_safe [true, false, true] (asafe_val h fun _ _ => nval ?_)
          have : natL (win ys off' n') < natL (win xs off n) := ltdiv (Q := 2 ^ (64 * c)) (by rw [sx, sy, heq]; omega)
          unfold cmpI; rw [if_neg (by omega), if_pos this]
        · refine path_safe [true, false, false] (seg_safe (orc_ok SXok K0ok) mixed (rc_same ..) ⟨by simp, hC _ ⟨decide_eq_false hlt, hC _ ⟨decide_eq_false hgt, trivial⟩⟩⟩ (wfB_ok (by kernel_rfl)) hb (fun _ h => by cases h) fun _ => ?_)
          rw [wI_eq (z := (c : Int) - 1) (by omega)]
          exact ih (by omega) (by rw [sx, sy, heq]; omega)
  refine loop _ (Nat.le_refl _) ?_
  have big : ∀ (zs : List Int) (of k : Nat), (∀ d ∈ zs, 0 ≤ d ∧ d < 18446744073709551616) → k ≤ max n n' → natL (win zs of k) / 2 ^ (64 * max n n') = 0 := by
    intro zs of k hz hk
    refine Nat.div_eq_of_lt (Nat.lt_of_lt_of_le (natL_lt _ (win_has hz)) (Nat.pow_le_pow_right (by decide) ?_))
    have : (win zs of k).length ≤ k := by unfold win; rw [List.length_take]; omega
    omega
  rw [big xs off n hx (by omega), big ys off' n' hy (by omega)]
theorem rcmpSpec_ok : SpecOk Tryz.prog 66 cmpSpec := by
  refine can_spec Tryz.func66 (by kernel_rfl) (by kernel_rfl) fun args H fr path r h => ?_
  unfold cmpSpec at h
  split at h
  case h_2 => cases h
  rename_i k off n m t off' n' m'
  split at h
  case h_2 => cases h
  rename_i ty cs o ty' ds o' hk ht
  split at h
  case h_2 => cases h
  rename_i xs ys hxs hys
  injection h with h
  refine ⟨[k, t], sl2 off n m off' n' m', seqH2 xs ys, 2, 0, [], _, [], _, path, h.symm, fun β us w ha hg hc => ?_⟩
  obtain ⟨u1, us1, r1, ⟨u2, us2, r2, ha, rfl⟩, rfl⟩ := ha
  obtain ⟨g1, g1', g2, g3⟩ := good_seq2 hg hk ht hxs hys
  exact ⟨rcmp_can g1 g1' (Nat.le_of_ble_eq_true hc.1) (Nat.le_of_ble_eq_true hc.2.1) hc.2.2.1 hc.2.2.2.1, by kernel_rfl, ⟨u1, _, r1, ⟨u2, _, r2, ha, rfl⟩, rfl⟩, g2, g3⟩

/- Octets -/
noncomputable def roTodo : List Item := todoOf (aSeg Tryz.prog (orc SX K0) (some 0) 100 1 none (entry Tryz.f119 [slA 0 0 0 0, iA 0] (seqH []) 1 []))
noncomputable def roT (off m c : Nat) (n : Int) (s : AV) (i : AV) : List AV := mkT Tryz.f119.ntmps [(0, slA 0 off m c), (1, iA n), (5, s), (6, i)]
def roH (xs : List Int) (ys : List Int) : Heap := [(0, some (roB [.seq .u64 xs])), (1, some ⟨5, [.seq .u8 ys], true⟩)]
noncomputable def roS (off m c : Nat) (n : Int) (xs : List Int) (L : Nat) (ys : List Int) (i : Int) (p : List Bool) : ASt := ⟨roTodo, ⟨roT off m c n (.val false [.sx 1 L 1]) (iA i), roH xs ys, 2, p⟩⟩
theorem ro_entry (off m c : Nat) (n : Int) (xs : List Int) : aSeg Tryz.prog (orc SX K0) (some 0) 100 1 (some ([0, 1, 5, 6], [0], 1)) (entry Tryz.f119 [slA 0 off m c, iA n] (seqH xs) 1 []) =
  some ([], [], ⟨roTodo, ⟨roT off m c n (.val false [.v (.slice none 0 0)]) (.val false [.n .i64 0]), seqH xs, 1, []⟩⟩) := by kernel_rfl
theorem ro_nil (off m c : Nat) (n : Int) (xs : List Int) : (⟨roTodo, ⟨(nilT 1 1 [5] 0 (roT off m c n (.val false [.v (.slice none 0 0)]) (.val false [.n .i64 0]))).map nvA, seqH xs ++ [(1, some ⟨5, [.seq .u8 []], true⟩)], 1 + 1, []⟩⟩ : ASt) = roS off m c n xs 0 [] 0 [] := by kernel_rfl
def roV (xs : List Int) (off m : Nat) (k : Int) : Int := wrapc false .u8 (Int.fdiv (atV xs off m (wI (Int.tdiv k 8))) (2 ^ min (wrapc false .u64 (wI (8 * Int.tmod k 8))).toNat 64))
def roC (off m : Nat) (n : Int) (xs : List Int) (L : Nat) (ys : List Int) (i : Int) : List (Bool × Bool) := [(decide (i < n), true), (true, true), (Nat.ble (off + m) xs.length, true), (hasB .i64 m, true), (decide (0 ≤ wI (Int.tdiv (octK8 n i) 8)), true),
  (decide (0 ≤ octK8 n i ∧ (0 : Int) < 8), true), (decide (0 ≤ wrapc false .u64 (wI (8 * Int.tmod (octK8 n i) 8)) ∧ 0 ≤ atV xs off m (wI (Int.tdiv (octK8 n i) 8))), true), (Nat.ble L ys.length, true), (decide (1 ≤ 1 ∧ 2 * (L + 1) * 1 ≤ 281474976710656), true)]
theorem ro_step (off m c : Nat) (n : Int) (xs : List Int) (L : Nat) (ys : List Int) (i : Int) : aSeg Tryz.prog (orc SX K0) (some 0) 100 1 (some ([0, 1, 5, 6], [0, 3], 4)) (roS off m c n xs L ys i [true]) =
  some (roC off m n xs L ys i, [], ⟨roTodo, ⟨renTs (rkey 1 [3]) (roT off m c n (.val false [.sx 1 (L + 1) 1]) (iA (wI (i + 1)))), renH (rkey 1 [3]) (roH xs (ys.take L ++ [roV xs off m (octK8 n i)])), 4, []⟩⟩) := by kernel_rfl
def roOut (ys : List Int) : Heap := [(1, some ⟨5, [.seq .u8 ys], true⟩)]
theorem ro_exit (off m c : Nat) (n : Int) (xs : List Int) (L : Nat) (ys : List Int) (i : Int) : segOut Tryz.prog (orc SX K0) Tryz.f119 100 1 [1] (roS off m c n xs L ys i [false]) =
  some ([(decide (i < n), false)], [], .val false [.sx 1 L 1], roOut ys) := by kernel_rfl
theorem roV_eq {xs : List Int} {off m : Nat} (hx : ∀ d ∈ xs, 0 ≤ d ∧ d < 18446744073709551616) {k : Nat} (hk : k ≤ 35184372088832) : roV xs off m (k : Int) = byteN (natL (win xs off m)) k ∧ 0 ≤ atV xs off m (wI (Int.tdiv (k : Int) 8)) ∧ 0 ≤ wrapc false .u64 (wI (8 * Int.tmod (k : Int) 8)) := by
  have e2 : wI (8 * Int.tmod (k : Int) 8) = ((8 * (k % 8) : Nat) : Int) := by rw [tmod8, wI_eq (by omega)]; omega
  have e3 : wrapc false .u64 (wI (8 * Int.tmod (k : Int) 8)) = wI (8 * Int.tmod (k : Int) 8) := by rw [e2, wrapc_eq, IntKind.wrap_u64]; omega
  obtain ⟨h1, h2⟩ := octV_eq (off := off) (m := m) hx hk
  refine ⟨by unfold roV; rw [e3]; exact h1, h2, by rw [e3, e2]; omega⟩
theorem roct_can {off m c : Nat} {xs : List Int} (hx : ∀ d ∈ xs, 0 ≤ d ∧ d < 18446744073709551616) (hl : off + m ≤ xs.length) (hm : hasB .i64 m = true) {n : Nat} (hn : n ≤ 35184372088832) :
    CanOk Tryz.prog 119 [slA 0 off m c, iA n] (seqH xs) 1 [] (.val false [.sx 1 n 1]) (roOut (octL (natL (win xs off m)) n)) := by
  refine can_entry (path := []) Tryz.func119 (by kernel_rfl) (by kernel_rfl) fun β0 w0 hb => ?_
  refine seg_safe (orc_ok SXok K0ok) mixed (ro_entry off m c n xs) trivial (wfB_ok (by kernel_rfl)) hb (fun _ h => by cases h) fun _ => ?_
  refine nil_safe (ts := [5]) (sz := 1) (ty := 5) (kd := .u8) rfl (hb 1 (Nat.le_refl _)) (nv_safe ?_)
  rw [ro_nil]
  have loop : ∀ r i, i + r = n → ASafe Tryz.prog 119 β0 w0 (Outs β0 w0 [] (.val false [.sx 1 n 1]) (roOut (octL (natL (win xs off m)) n))) Tryz.f119.ntmps [] (roS off m c n xs i ((List.range i).map fun i => byteN (natL (win xs off m)) (n - 1 - i)) i []) := by
    intro r
    induction r with
    | zero =>
      intro i hi
      obtain rfl : i = n := by omega
      exact path_safe [false] (out_safe (orc_ok SXok K0ok) mixed Tryz.func119 (ro_exit ..) ⟨by simp, trivial⟩ (wfB_ok (by kernel_rfl)) hb (fun _ h => by cases h))
    | succ r ih =>
      intro i hi
      have ek : octK8 (n : Int) i = ((n - 1 - i : Nat) : Int) := wI_k hn (by omega)
      have ev := roV_eq (off := off) (m := m) hx (k := n - 1 - i) (by omega)
      have ed : wI (Int.tdiv ((n - 1 - i : Nat) : Int) 8) = (((n - 1 - i) / 8 : Nat) : Int) := by rw [tdiv8]; exact wI_eq (by omega)
      refine path_safe [true] (seg_safe (orc_ok SXok K0ok) mixed (ro_step ..) ?_ (wfB_ok (by kernel_rfl)) hb (fun _ h => by cases h) fun _ => ?_)
      · rw [roC, ek]
        refine ⟨by simp; omega, rfl, Nat.ble_eq_true_of_le hl, hm, by rw [ed]; simp only [decide_eq_true_eq]; omega, by simp, by simp only [decide_eq_true_eq]; exact ⟨ev.2.2, ev.2.1⟩, by simp, by simp only [decide_eq_true_eq]; omega, trivial⟩
      · refine ren_safe (m := 2) (by kernel_rfl) hb ?_
        rw [ek, ev.1, wI_eq (z := (i : Int) + 1) (by omega), List.take_of_length_le (by simp)]
        have := ih (i + 1) (by omega)
        rw [List.range_succ, List.map_append] at this
        exact this
  exact loop n 0 (by omega)
def roctSpec : ASpec := fun args H fr path =>
  match args with
  | [.val false [.sl k off m _], I] => match asI (some I), hget H k with
    | some (_, .i64, i), some ⟨_, cs, _⟩ => match toSeq .u64 cs with
      | some xs => some (trR [k] 1 fr 1 [] (.val false [.sx 1 i.toNat 1]) (roOut (octL (natL (win xs off m)) i.toNat)) [(Nat.ble (off + m) xs.length, true), (hasB .i64 m, true), (decide (0 ≤ i ∧ i ≤ 35184372088832), true)] path)
      | none => none
    | _, _ => none
  | _ => none
theorem roctSpec_ok : SpecOk Tryz.prog 119 roctSpec := by
  refine can_spec Tryz.func119 (by kernel_rfl) (by kernel_rfl) fun args H fr path r h => ?_
  unfold roctSpec at h
  split at h
  case h_2 => cases h
  rename_i k off m c I
  split at h
  case h_2 => cases h
  rename_i c0 i ty cs o hI hk
  split at h
  case h_2 => cases h
  rename_i xs hxs
  injection h with h
  refine ⟨[k], [slA 0 off m c, iA i], seqH xs, 1, 1, [], _, _, _, path, h.symm, fun β us w ha hg hc => ?_⟩
  obtain ⟨u1, us1, r1, ⟨u2, us2, r2, ha, rfl⟩, rfl⟩ := ha
  obtain ⟨g1, g2, g3⟩ := good_seq hg hk hxs
  obtain ⟨rfl, p1⟩ := asI_rel (β := β) (u := u2) (fun A hA => by injection hA with hA; subst hA; exact r2) hI
  have hi := hc.2.2.1
  simp only [decide_eq_true_eq] at hi
  obtain ⟨n, rfl⟩ := Int.eq_ofNat_of_zero_le hi.1
  exact ⟨roct_can g1 (Nat.le_of_ble_eq_true hc.1) hc.2.1 (by omega), by kernel_rfl, ⟨u1, _, r1, ⟨_, us2, rel_one' ⟨rfl, rfl, p1⟩, ha, rfl⟩, rfl⟩, g2, g3⟩

/- Words -/
noncomputable def rwTodo : List Item := todoOf (aSeg Tryz.prog (orc SX K0) (some 0) 100 1 none (entry Tryz.f122 [slA 0 0 0 0] (byH []) 1 []))
noncomputable def rwS (off n c : Nat) (xs : List Int) (L : Nat) (ys : List Int) (i : AV) (p : List Bool) : ASt := ⟨rwTodo, ⟨mkT Tryz.f122.ntmps [(0, slA 0 off n c), (3, slA 1 0 L L), (4, i)], [(0, some (roB [.seq .u8 xs])), (1, some ⟨22, [.seq .u64 ys], false⟩)], 2, p⟩⟩
abbrev rwK' : Option (List Nat × List Nat × Nat) := some ([0, 3, 4], [0, 1], 2)
theorem rw_entry (off n c : Nat) (xs : List Int) : aSeg Tryz.prog (orc SX K0) (some 0) 100 1 rwK' (entry Tryz.f122 [slA 0 off n c] (byH xs) 1 []) =
  some ([(hasB .i64 n, true), (true, true), (mkC (wI (Int.tdiv (wI ((n : Int) + 7)) 8)) 8, true)], [], rwS off n c xs (wrdL n) (List.replicate (wrdL n) 0) (.val false [.n .i64 0]) []) := by kernel_rfl
def rwX (xs : List Int) (off : Nat) (n : Int) (i : Int) : Int := IntKind.u64.wrap (wrapc false .u64 (xs.getD (off + i.toNat * 1) 0) * 2 ^ min (wrapc false .u64 (wI (8 * Int.tmod (octK8 n i) 8))).toNat 64)
def rwV (xs : List Int) (off : Nat) (n : Int) (ys : List Int) (i : Int) : Int := IntKind.u64.wrap (ys.getD (0 + (wrdJ n i).toNat * 1) 0 + rwX xs off n i)
def rwC (off n : Nat) (xs : List Int) (L : Nat) (ys : List Int) (i : Int) : List (Bool × Bool) := [(hasB .i64 n, true), (decide (i < n), true), (hasB .i64 n, true), (true, true), (true, true), (decide (0 ≤ wrdJ n i ∧ wrdJ n i < L), true), (decide (0 + (wrdJ n i).toNat * 1 < ys.length), true),
  (decide (0 ≤ i ∧ i < n), true), (decide (off + i.toNat * 1 < xs.length), true), (decide (0 ≤ octK8 n i ∧ (0 : Int) < 8), true), (decide (0 ≤ wrapc false .u64 (wI (8 * Int.tmod (octK8 n i) 8))), true), (decide (0 ≤ wrdJ n i ∧ wrdJ n i < L), true), (decide (0 + (wrdJ n i).toNat * 1 < ys.length), true)]
theorem rw_step (off n c : Nat) (xs : List Int) (L : Nat) (ys : List Int) (i : Int) : aSeg Tryz.prog (orc SX K0) (some 0) 100 1 rwK' (rwS off n c xs L ys (iA i) [true]) =
  some (rwC off n xs L ys i, [], rwS off n c xs L (ys.set (0 + (wrdJ n i).toNat * 1) (rwV xs off n ys i)) (iA (wI (i + 1))) []) := by kernel_rfl
theorem rw_exit (off n c : Nat) (xs : List Int) (L : Nat) (ys : List Int) (i : Int) : segOut Tryz.prog (orc SX K0) Tryz.f122 100 1 [1] (rwS off n c xs L ys (iA i) [false]) =
  some ([(hasB .i64 n, true), (decide (i < n), false)], [], slA 1 0 L L, wrdH ys) := by kernel_rfl
theorem rwrd_can {off n c : Nat} {xs : List Int} (hx : ∀ d ∈ xs, 0 ≤ d ∧ d < 256) (hl : off + n ≤ xs.length) (hn : n ≤ 35184372088832) :
    CanOk Tryz.prog 122 [slA 0 off n c] (byH xs) 1 [] (slA 1 0 ((n + 7) / 8) ((n + 7) / 8)) (wrdN (natB (win xs off n)) ((n + 7) / 8)) := by
  have hlen : (win xs off n).length = n := by unfold win; rw [List.length_take, List.length_drop]; omega
  have hfin : natB (win xs off n) < 2 ^ (64 * ((n + 7) / 8)) := by
    have h1 := natB_lt (win xs off n) (win_has hx)
    rw [hlen, p256] at h1
    exact Nat.lt_of_lt_of_le h1 (Nat.pow_le_pow_right (by decide) (by omega))
  refine can_entry (path := []) Tryz.func122 (by kernel_rfl) (by kernel_rfl) fun β0 w0 hb => ?_
  obtain ⟨l1, l2⟩ := wrdL_eq hn
  have hw : hasB .i64 (n : Int) = true := by simp only [hasB, Bool.and_eq_true, decide_eq_true_eq]; omega
  refine seg_safe (orc_ok SXok K0ok) mixed (rw_entry off n c xs) ⟨hw, rfl, ?_, trivial⟩ (wfB_ok (by kernel_rfl)) hb (fun _ h => by cases h) fun _ => ?_
  · rw [l2]; unfold mkC; simp only [decide_eq_true_eq]; omega
  · rw [l1]
    refine nv_safe ?_
    have hbd : ∀ d ∈ win xs off n, 0 ≤ d ∧ d < 256 := win_has hx
    have loop : ∀ r i, i + r = n → ASafe Tryz.prog 122 β0 w0 (Outs β0 w0 [] (slA 1 0 ((n + 7) / 8) ((n + 7) / 8)) (wrdH (wordL (natB (win xs off n)) ((n + 7) / 8)))) Tryz.f122.ntmps []
        (rwS off n c xs ((n + 7) / 8) (wordL (natB ((win xs off n).take i) * 256 ^ (n - i)) ((n + 7) / 8)) (iA i) []) := by
      intro r
      induction r with
      | zero =>
        intro i hi
        obtain rfl : i = n := by omega
        rw [Nat.sub_self, Nat.pow_zero, Nat.mul_one, List.take_of_length_le (by omega)]
        exact path_safe [false] (out_safe (orc_ok SXok K0ok) mixed Tryz.func122 (rw_exit ..) ⟨hw, by simp, trivial⟩ (wfB_ok (by kernel_rfl)) hb (fun _ h => by cases h))
      | succ r ih =>
        intro i hi
        have ek : octK8 (n : Int) i = ((n - 1 - i : Nat) : Int) := wI_k hn (by omega)
        have ej : wrdJ (n : Int) i = (((n - 1 - i) / 8 : Nat) : Int) := by unfold wrdJ; rw [ek, tdiv8]; exact wI_eq (by omega)
        have em : wI (8 * Int.tmod ((n - 1 - i : Nat) : Int) 8) = ((8 * ((n - 1 - i) % 8) : Nat) : Int) := by rw [tmod8, wI_eq (by omega)]; omega
        have em' : wrapc false .u64 (wI (8 * Int.tmod ((n - 1 - i : Nat) : Int) 8)) = ((8 * ((n - 1 - i) % 8) : Nat) : Int) := by rw [em, wrapc_eq, IntKind.wrap_u64]; omega
        have hjL : (n - 1 - i) / 8 < (n + 7) / 8 := by omega
        have hlenw : ∀ N, (wordL N ((n + 7) / 8)).length = (n + 7) / 8 := fun N => by simp [wordL]
        have hwx : xs.getD (off + i) 0 = (win xs off n).getD i 0 := (bit_word (by omega)).symm
        have hxb : 0 ≤ (win xs off n).getD i 0 ∧ (win xs off n).getD i 0 < 256 := by
          rw [List.getD_eq_getElem?_getD]
          cases h' : (win xs off n)[i]? with
          | none => simp
          | some d => exact hbd d (List.mem_of_getElem? h')
        refine path_safe [true] (seg_safe (orc_ok SXok K0ok) mixed (rw_step ..) ?_ (wfB_ok (by kernel_rfl)) hb (fun _ h => by cases h) fun _ => ?_)
        · unfold rwC
          rw [ej, ek, em', hlenw]
          refine ⟨hw, by simp; omega, hw, rfl, rfl, by simp only [decide_eq_true_eq]; omega, by simp only [decide_eq_true_eq]; omega, by simp only [decide_eq_true_eq]; omega, by simp; omega, by simp only [decide_eq_true_eq]; omega, by simp only [decide_eq_true_eq]; omega, by simp only [decide_eq_true_eq]; omega, by simp only [decide_eq_true_eq]; omega, trivial⟩
        · have hset : ((wordL (natB ((win xs off n).take i) * 256 ^ (n - i)) ((n + 7) / 8)).set (0 + (wrdJ n i).toNat * 1) (rwV xs off n (wordL (natB ((win xs off n).take i) * 256 ^ (n - i)) ((n + 7) / 8)) i)) =
              wordL (natB ((win xs off n).take (i + 1)) * 256 ^ (n - (i + 1))) ((n + 7) / 8) := by
            have ei : 0 + (((n - 1 - i) / 8 : Nat) : Int).toNat * 1 = (n - 1 - i) / 8 := by omega
            have eo : off + (i : Int).toNat * 1 = off + i := by omega
            unfold rwV rwX
            rw [ej, ek, em', ei, eo, hwx, wordL_getD hjL]
            obtain ⟨X, hX⟩ := Int.eq_ofNat_of_zero_le hxb.1
            have hX2 : X < 256 := by omega
            rw [hX, wrapc_eq, IntKind.wrap_u64, IntKind.wrap_u64, IntKind.wrap_u64, Int.toNat_natCast, Nat.min_eq_left (by omega)]
            have en : n - i = (n - 1 - i) + 1 := by omega
            have en' : n - (i + 1) = n - 1 - i := by omega
            have et : natB ((win xs off n).take (i + 1)) * 256 ^ (n - (i + 1)) = natB ((win xs off n).take i) * 256 ^ (n - 1 - i + 1) + X * 256 ^ (n - 1 - i) := by
              rw [natB_take (by omega), hX, Int.toNat_natCast, en', Nat.add_mul, Nat.mul_assoc, ← Nat.pow_succ']
            rw [et, en]
            obtain ⟨hh, B, w1, w2, w3, w4, w5⟩ := word_more (M := natB ((win xs off n).take i)) (k := n - 1 - i) hX2
            have hle : 8 * ((n - 1 - i) % 8) + 8 ≤ 64 := by omega
            have hs64 : hh * 2 ^ (8 * ((n - 1 - i) % 8) + 8) + B < 18446744073709551616 := by
              have := Nat.mod_lt ((natB ((win xs off n).take i) * 256 ^ (n - 1 - i + 1) + X * 256 ^ (n - 1 - i)) / 2 ^ (64 * ((n - 1 - i) / 8))) (show 0 < 2 ^ 64 by decide)
              rw [w5] at this
              exact this
            refine wordL_set ?_ fun j hj => ?_
            · have hB64 : X * 2 ^ (8 * ((n - 1 - i) % 8)) < 2 ^ 64 := by
                rw [w2]; exact Nat.lt_of_lt_of_le w3 (Nat.pow_le_pow_right (by decide) hle)
              have ex : ((X : Int) % 18446744073709551616 * 2 ^ (8 * ((n - 1 - i) % 8))) % 18446744073709551616 = (B : Int) := by
                have a1 : ((X : Int) % 18446744073709551616) = (X : Int) := by omega
                have a2 : ((X : Int) * 2 ^ (8 * ((n - 1 - i) % 8))) = ((X * 2 ^ (8 * ((n - 1 - i) % 8)) : Nat) : Int) := by rw [Int.natCast_mul, Int.natCast_pow]; rfl
                rw [a1, a2, w2]
                rw [w2] at hB64
                have : B < 18446744073709551616 := hB64
                omega
              rw [ex]
              unfold wordN
              rw [w5, w1]
              omega
            · unfold wordN
              rw [word_same hX2 hj]
          rw [hset, wI_eq (z := (i : Int) + 1) (by omega)]
          exact ih (i + 1) (by omega)
    have := loop n 0 (by omega)
    rw [List.take_zero, show natB [] = 0 from rfl, Nat.zero_mul, wordL_zero] at this
    exact asafe_outs this fun e w h => outs_block1 (seq_words hfin) h
theorem rwrdSpec_ok : SpecOk Tryz.prog 122 wrdSpec := by
  refine can_spec Tryz.func122 (by kernel_rfl) (by kernel_rfl) fun args H fr path r h => ?_
  unfold wrdSpec at h
  split at h
  case h_2 => cases h
  rename_i k off n c
  split at h
  case h_2 => cases h
  rename_i ty cs o hk
  split at h
  case h_2 => cases h
  rename_i xs hxs
  injection h with h
  refine ⟨[k], [slA 0 off n c], byH xs, 1, 1, [], _, _, _, path, h.symm, fun β us w ha hg hc => ?_⟩
  obtain ⟨u1, us1, r1, ha, rfl⟩ := ha
  obtain ⟨g1, g2, g3⟩ := good_by hg hk hxs
  exact ⟨rwrd_can g1 (Nat.le_of_ble_eq_true hc.1) (Nat.le_of_ble_eq_true hc.2.1), by kernel_rfl, ⟨u1, _, r1, ha, rfl⟩, g2, g3⟩
noncomputable def SY : List (FuncId × ASpec) := (66, cmpSpec) :: (119, roctSpec) :: (122, wrdSpec) :: SX
theorem SYok : SpecsOk Tryz.prog SY := ⟨rcmpSpec_ok, roctSpec_ok, rwrdSpec_ok, SXok⟩
end Go.Proofs.YtohjpdglbeohpaaGreat
/- sigilref04: Inv, Bytes, FromBytes: the contracts; nil arguments. -/
namespace Go.Proofs.YtohjpdglbeohpaaGreat
open Ex Num
set_option maxRecDepth 100000
set_option maxHeartbeats 4000000

def PM2 : List Int := [0xb9feffffffffaaa9, 0x1eabfffeb153ffff, 0x6730d2a0f6b0f624, 0x64774b84f38512bf, 0x4b1ba7b6434bacd7, 0x1a0111ea397fe69a]
theorem natL_PM2 : natL (win PM2 0 6) = pN - 2 := by kernel_rfl
theorem rinv_run (x : Nat) : pureRun Tryz.prog (orc SY K0) Tryz.f114 [num6 x] [] 300 = some (allT 2, num6 (powN x (natL (win PM2 0 6)))) := by kernel_rfl
theorem rinv_ok (x : Nat) : PureOk Tryz.prog 114 [num6 x] (num6 (invN x)) := by
  have h := pure_ok (orc_ok SYok K0ok) mixed Tryz.func114 (rinv_run x) (allT_ok 2) rfl
  rw [natL_PM2] at h
  exact h
theorem rbytes_run (a : Nat) : pureRun Tryz.prog (orc SY K0) Tryz.f67 [num6 a] [] 3000 = some (allT 99, .val true ((octL (natL (win (ws6 (a % pN)) 0 6)) 48).map fun d => .v (.int .u8 d))) := by kernel_rfl
theorem by_seq {β : Env} : ∀ {ds : List Int} {l : List Value}, relL β (ds.map fun d => .v (.int .u8 d)) l → relL β [.seq .u8 ds] l
  | ds, l, h => by
    have key : ∀ (ds : List Int) (l : List Value), relL β (ds.map fun d => .v (.int .u8 d)) l → l = ds.map (.int .u8) ∧ ∀ d ∈ ds, has .u8 d := by
      intro ds
      induction ds with
      | nil => intro l h; exact ⟨h, by simp⟩
      | cons d r ih =>
        rintro l ⟨l1, l2, ⟨h1, h2⟩, h3, h4⟩
        obtain ⟨i1, i2⟩ := ih l2 h3
        subst h1; subst i1; subst h4
        refine ⟨rfl, fun x hx => ?_⟩
        rcases List.mem_cons.1 hx with rfl | hx
        · exact h2.2
        · exact i2 x hx
    obtain ⟨h1, h2⟩ := key ds l h
    exact ⟨l, [], ⟨h1, h2⟩, rfl, by simp⟩
theorem rbytes_ok (a : Nat) : PureOk Tryz.prog 67 [num6 a] (bytesA (a % pN)) := by
  have h := pure_ok (orc_ok SYok K0ok) mixed Tryz.func67 (rbytes_run a) (allT_ok 99) rfl
  rw [natL_ws6 (lt_RR_mod a)] at h
  exact pure_val h fun u ⟨l, q, e⟩ => ⟨l, by_seq q, e⟩

theorem rfb_len (off n m : Nat) (xs : List Int) : segOut Tryz.prog (orc SY K0) Tryz.f80 300 1 [] (entry Tryz.f80 [slA 0 off n m] (byH xs) 1 [true]) =
  some ([(hasB .i64 n, true), (!decide ((n : Int) = 48), true)], [], fb0 40, []) := by kernel_rfl
def rfC (N : Nat) : Bool := decide (0 ≤ cmpI (natL (win (ws6 N) 0 6)) (natL (win PL 0 6)))
theorem rfb_range (off m : Nat) (xs : List Int) : segOut Tryz.prog (orc SY K0) Tryz.f80 300 1 [] (entry Tryz.f80 [slA 0 off 48 m] (byH xs) 1 [false, true]) =
  some ([(true, true), (false, false), (Nat.ble (off + 48) xs.length, true), (true, true), (true, true), (true, true), (true, true), (true, true), (rfC (natB (win xs off 48)), true)], [], fb0 41, []) := by kernel_rfl
theorem rfb_num (off m : Nat) (xs : List Int) : segOut Tryz.prog (orc SY K0) Tryz.f80 300 1 [] (entry Tryz.f80 [slA 0 off 48 m] (byH xs) 1 [false, false]) =
  some ([(true, true), (false, false), (Nat.ble (off + 48) xs.length, true), (true, true), (true, true), (true, true), (true, true), (true, true), (rfC (natB (win xs off 48)), false), (true, true), (true, true)], [],
    .tup [(true, [.num 6 (natL (win (ws6 (natB (win xs off 48))) 0 6) % pN)]), (false, [.n .i64 0])], []) := by kernel_rfl
theorem rfC_eq {N : Nat} (hN : N < RR) : rfC N = !decide (N < pN) := by
  unfold rfC
  rw [natL_ws6 hN, natL_PL]
  unfold cmpI
  by_cases h : N < pN
  · rw [if_pos h, decide_eq_true h]; rfl
  · rw [if_neg h, decide_eq_false h]; split <;> rfl
theorem rfb_can {off n m : Nat} {xs : List Int} (hx : ∀ d ∈ xs, 0 ≤ d ∧ d < 256) (hl : off + n ≤ xs.length) (hn : hasB .i64 n = true) :
    CanOk Tryz.prog 80 [slA 0 off n m] (byH xs) 1 [] (fbA n (natB (win xs off n))) [] := by
  by_cases h : n = 48
  · subst h
    have hR : natB (win xs off 48) < RR := by
      have h1 := natB_lt (win xs off 48) (win_has hx)
      have h2 : (win xs off 48).length = 48 := by unfold win; rw [List.length_take, List.length_drop]; omega
      rw [h2] at h1
      exact Nat.lt_of_lt_of_eq h1 (by kernel_rfl)
    by_cases hN : natB (win xs off 48) < pN
    · refine can_val (can_entry (path := [false, false]) Tryz.func80 (by kernel_rfl) (by kernel_rfl) fun β0 w0 hb =>
        out_safe (orc_ok SYok K0ok) mixed Tryz.func80 (rfb_num off m xs) ⟨rfl, rfl, Nat.ble_eq_true_of_le hl, rfl, rfl, rfl, rfl, rfl, by rw [rfC_eq hR, decide_eq_true hN]; rfl, rfl, rfl, trivial⟩ (wfB_ok (by kernel_rfl)) hb (fun _ h => by cases h)) fun β u hu => ?_
      unfold fbA fbV fbE
      rw [if_pos ⟨rfl, hN⟩, if_pos rfl, if_pos hN]
      rw [natL_ws6 hR, Nat.mod_eq_of_lt hN] at hu
      exact relT2 (fun _ q => q) (fun _ q => gval rfl q) hu
    · refine can_val (can_entry (path := [false, true]) Tryz.func80 (by kernel_rfl) (by kernel_rfl) fun β0 w0 hb =>
        out_safe (orc_ok SYok K0ok) mixed Tryz.func80 (rfb_range off m xs) ⟨rfl, rfl, Nat.ble_eq_true_of_le hl, rfl, rfl, rfl, rfl, rfl, by rw [rfC_eq hR, decide_eq_false hN]; rfl, trivial⟩ (wfB_ok (by kernel_rfl)) hb (fun _ h => by cases h)) fun β u hu => ?_
      unfold fbA fbV fbE
      rw [if_neg (fun q => hN q.2), if_pos rfl, if_neg hN]
      exact relT2 (fun _ q => zero_num q) (fun _ q => gval rfl q) hu
  · refine can_val (can_entry (path := [true]) Tryz.func80 (by kernel_rfl) (by kernel_rfl) fun β0 w0 hb =>
      out_safe (orc_ok SYok K0ok) mixed Tryz.func80 (rfb_len off n m xs) ⟨hn, by simp; omega, trivial⟩ (wfB_ok (by kernel_rfl)) hb (fun _ h => by cases h)) fun β u hu => ?_
    unfold fbA fbV fbE
    rw [if_neg (fun q => h q.1), if_neg h]
    exact relT2 (fun _ q => zero_num q) (fun _ q => gval rfl q) hu
theorem fbSpec_ok : SpecOk Tryz.prog 68 (bySpec fun n l => fbA n (natB l)) := bySpec_ok Tryz.func68 (by kernel_rfl) (by kernel_rfl) (fun _ _ => rfl) (fun _ _ _ _ _ hl hn => fb_can hl hn)
noncomputable def SZ : List (FuncId × ASpec) := (114, pureSpec (sp1 fun x => num6 (invN x))) :: (67, pureSpec (sp1 fun x => bytesA (x % pN))) :: (80, nilSpec (bySpec fun n l => fbA n (natB l))) :: (68, nilSpec (bySpec fun n l => fbA n (natB l))) :: (70, nilSpec powSpec) :: (126, nilSpec powSpec) :: (123, nilSpec (wdSpec fun _ l => num6 (natL l % pN))) :: SY
theorem SZok : SpecsOk Tryz.prog SZ := ⟨pureSpec_ok Tryz.func114 (by kernel_rfl) (by kernel_rfl) (sp1_ok fun x _ => rinv_ok x), pureSpec_ok Tryz.func67 (by kernel_rfl) (by kernel_rfl) (sp1_ok fun x _ => rbytes_ok x), nilSpec_ok (bySpec_ok Tryz.func80 (by kernel_rfl) (by kernel_rfl) (fun _ _ => rfl) (fun _ _ _ _ hx hl hn => rfb_can hx hl hn)), nilSpec_ok fbSpec_ok, nilSpec_ok powSpec_ok, nilSpec_ok rpowSpec_ok, nilSpec_ok (wdSpec_ok Tryz.func123 (by kernel_rfl) (by kernel_rfl) (fun _ _ => rfl) (fun _ _ _ _ hx hl hn => wide_can hx hl hn)), SYok⟩
end Go.Proofs.YtohjpdglbeohpaaGreat
/- Octets of numbers, and numbers of octets. -/
namespace Go.Proofs.YtohjpdglbeohpaaGreat
open Ex
set_option maxRecDepth 100000
set_option maxHeartbeats 4000000

theorem octL_length (x n : Nat) : (octL x n).length = n := by simp [octL]
theorem octL_succ (x n : Nat) : octL x (n + 1) = byteN x n :: octL x n := by
  unfold octL
  rw [List.range_succ_eq_map, List.map_cons, List.map_map]
  congr 1
  refine List.map_congr_left fun i hi => ?_
  have : i < n := List.mem_range.1 hi
  simp only [Function.comp]
  congr 1; omega
theorem natB_octL : ∀ (n x : Nat), natB (octL x n) = x % 256 ^ n
  | 0, x => by simp [octL, natB, Nat.mod_one]
  | n + 1, x => by
    rw [octL_succ]
    simp only [natB]
    rw [octL_length, natB_octL n x, Nat.pow_succ, Nat.mod_mul]
    unfold byteN
    rw [Int.toNat_natCast, Nat.mul_comm, Nat.add_comm]
theorem octL_natB : ∀ (l : List Int), (∀ d ∈ l, 0 ≤ d ∧ d < 256) → octL (natB l) l.length = l
  | [], _ => rfl
  | d :: r, h => by
    have hd := h d (by simp)
    have hr : ∀ d ∈ r, 0 ≤ d ∧ d < 256 := fun x hx => h x (by simp [hx])
    have hlt := natB_lt r hr
    have ih := octL_natB r hr
    rw [List.length_cons, octL_succ]
    have e1 : byteN (natB (d :: r)) r.length = d := by
      unfold byteN
      simp only [natB]
      rw [Nat.mul_comm, Nat.mul_add_div (Nat.pow_pos (by decide)), Nat.div_eq_of_lt hlt]
      omega
    have e2 : octL (natB (d :: r)) r.length = octL (natB r) r.length := by
      unfold octL
      refine List.map_congr_left fun i hi => ?_
      have hi' : i < r.length := List.mem_range.1 hi
      unfold byteN
      simp only [natB]
      have e : 256 ^ r.length = 256 ^ (r.length - 1 - i) * (256 * 256 ^ i) := by
        rw [← Nat.pow_succ', ← Nat.pow_add]; congr 1; omega
      rw [e, Nat.mul_left_comm, Nat.mul_add_div (Nat.pow_pos (by decide)), Nat.mul_left_comm d.toNat, Nat.mul_add_mod]
    rw [e1, e2, ih]
end Go.Proofs.YtohjpdglbeohpaaGreat
/- What comes in with the call of a law: lists of numbers too. -/
namespace Go.Proofs.YtohjpdglbeohpaaGreat
open Ex
open Go.RowKit (Below)
set_option maxRecDepth 100000
set_option maxHeartbeats 4000000

def locEnv (ls : List Ex.Loc) : Env := fun k => ls[k]?
theorem locEnv_le (ls : List Ex.Loc) (L : Ex.Loc) : Env.le (locEnv ls) (locEnv (ls ++ [L])) := fun b X h => by
  have hb : b < ls.length := by
    rcases Nat.lt_or_ge b ls.length with q | q
    · exact q
    · simp only [locEnv] at h; rw [List.getElem?_eq_none q] at h; cases h
  simp only [locEnv] at h ⊢
  rw [List.getElem?_append_left hb]; exact h
theorem locEnv_last (ls : List Ex.Loc) (L : Ex.Loc) : locEnv (ls ++ [L]) ls.length = some L := by simp [locEnv]
structure ArgsOk (W : World) (ls : List Ex.Loc) (bs : List Blk) : Prop where
  len : ls.length = bs.length
  blk : ∀ (j : Nat) (b : Blk), bs[j]? = some b → b.ty = roTy ∧ relB (locEnv ls) b j W
  lt : ∀ (j B : Nat) (n : Nat × Nat), ls[j]? = some (Ex.Loc.at_ B n) → B < W.heap.size
theorem ArgsOk.nil (W : World) : ArgsOk W [] [] := ⟨rfl, fun j b h => by simp at h, fun j B n h => by simp at h⟩
theorem ArgsOk.good {W : World} {ls : List Ex.Loc} {bs : List Blk} (h : ArgsOk W ls bs) : Ex.Good (locEnv ls) (enumH 0 bs) W := by
  refine ⟨fun b blk hb => ?_, fun b b' B n n' h1 _ _ _ => ?_, fun b B n hb => h.lt b B n hb⟩
  · obtain ⟨_, hj⟩ := hget_enum hb
    exact (h.blk b blk (by simpa using hj)).2
  · obtain ⟨d, hd, hr⟩ := rwK_some h1
    obtain ⟨_, hj⟩ := hget_enum hd
    exact absurd (h.blk b d (by simpa using hj)).1 hr
theorem ArgsOk.none {W : World} {ls : List Ex.Loc} {bs : List Blk} (h : ArgsOk W ls bs) : ∀ b, bs.length ≤ b → locEnv ls b = none := fun b hb => by
  simp only [locEnv]
  rw [List.getElem?_eq_none (by rw [h.len]; exact hb)]
theorem ArgsOk.snoc {W : World} {ls : List Ex.Loc} {bs : List Blk} (h : ArgsOk W ls bs) {L : Ex.Loc} {b : Blk} (hb : relB (locEnv (ls ++ [L])) b ls.length W) (hr : b.ty = roTy) (hl : ∀ B n, L = Ex.Loc.at_ B n → B < W.heap.size) : ArgsOk W (ls ++ [L]) (bs ++ [b]) := by
  refine ⟨by simp [h.len], fun j d hd => ?_, fun j B n hj => ?_⟩
  · rcases Nat.lt_or_ge j bs.length with q | q
    · rw [List.getElem?_append_left q] at hd
      exact ⟨(h.blk j d hd).1, relB_mono (locEnv_le ls L) (h.blk j d hd).2⟩
    · rw [List.getElem?_append_right q] at hd
      have e : j = bs.length := by
        rcases Nat.eq_or_lt_of_le q with q' | q'
        · exact q'.symm
        · rw [List.getElem?_eq_none (by simp; omega)] at hd; cases hd
      subst e
      simp at hd
      subst hd
      exact ⟨hr, by rw [← h.len]; exact hb⟩
  · rcases Nat.lt_or_ge j ls.length with q | q
    · rw [List.getElem?_append_left q] at hj; exact h.lt j B n hj
    · rw [List.getElem?_append_right q] at hj
      have e : j - ls.length = 0 := by
        rcases Nat.eq_zero_or_pos (j - ls.length) with q' | q'
        · exact q'
        · rw [List.getElem?_eq_none (by simp; omega)] at hj; cases hj
      rw [e] at hj
      simp at hj
      exact hl B n hj

theorem rowAt_le {P : Program} {fits : TypeId → Bool} : ∀ (d : Nat) {e : TypeId} {count off n : Nat}, rowAt P fits d e count off n = true → off ≤ count * P.cellsOf e
  | 0, _, _, _, _, h => by simp [rowAt] at h
  | d + 1, e, count, off, n, h => by
    by_cases hs : P.cellsOf e = 0
    · unfold rowAt at h
      simp [hs] at h
    · unfold rowAt at h
      rw [if_neg hs] at h
      have hpos : 0 < P.cellsOf e := Nat.pos_of_ne_zero hs
      have hdm := Nat.div_add_mod off (P.cellsOf e)
      have hlt := Nat.mod_lt off hpos
      have key : off / P.cellsOf e < count ∨ (off % P.cellsOf e = 0 ∧ off / P.cellsOf e ≤ count) := by
        simp only [Bool.or_eq_true, Bool.and_eq_true, decide_eq_true_eq, beq_iff_eq] at h
        rcases h with ⟨⟨h1, h2⟩, _⟩ | ⟨h1, _⟩
        · exact .inr ⟨h1, by omega⟩
        · exact .inl h1
      rcases key with q | ⟨q1, q2⟩
      · have := Nat.mul_le_mul_left (P.cellsOf e) (show off / P.cellsOf e + 1 ≤ count from q)
        rw [Nat.mul_add, Nat.mul_one] at this
        rw [Nat.mul_comm count]
        omega
      · have := Nat.mul_le_mul_left (P.cellsOf e) q2
        rw [Nat.mul_comm count]
        omega
theorem liesAt_le {P : Program} : ∀ (d : Nat) {e u : TypeId} {count off n : Nat}, liesAt P d e count off u n = true → off ≤ count * P.cellsOf e
  | 0, _, _, _, _, _, h => by simp [liesAt] at h
  | d + 1, e, u, count, off, n, h => by
    unfold liesAt at h
    rw [Bool.or_eq_true] at h
    rcases h with h | h
    · exact rowAt_le _ h
    · split at h
      · exact liesAt_le d h
      · cases h
/-- A list of numbers that came in. -/
theorem ints_arg {H : Type} {enc : TypeId × Value → H} {W : World} {base : Nat} {t e : TypeId} {k : IntKind} {v : Value} {d : DataW H} {p : List MemPlace} (hu : Tryz.prog.underlying t = some (.slice e)) (he : Tryz.prog.underlying e = some (.int k)) (hc : Tryz.prog.cellsOf e = 1)
    (hv : Value.okWide Tryz.prog W .any base t v) (ht : DataW.Trod enc Tryz.prog W 0 (fun _ => true) true t v d p) :
    ∃ (L : Ex.Loc) (zs : List Int) (n m : Nat), (∀ x ∈ zs, has k x) ∧ n ≤ zs.length ∧ n ≤ maxLen ∧ (∀ B q, L = Ex.Loc.at_ B q → B < W.heap.size) ∧ ∀ ls : List Ex.Loc, relA (locEnv (ls ++ [L])) (.val false [.sl ls.length 0 n m]) v ∧ relB (locEnv (ls ++ [L])) (roB [.seq k zs]) ls.length W := by
  obtain ⟨fuel, hf⟩ := ht
  obtain ⟨a0, len0, cap0, rfl⟩ := Go.WideShapes.okWide_slice hu hv
  have hcells : (Value.slice a0 len0 cap0).cells = #[Value.slice a0 len0 cap0] := rfl
  rw [hcells] at hf
  rcases Go.ChangeShapes.open_ints hu he hc hf with ⟨hcs, _⟩ | ⟨a, len, cap, zs, hcs, hb, hl, hm, hz, _, hcell, hwf⟩
  · have e1 : Value.slice a0 len0 cap0 = .slice none 0 0 := by simpa using hcs
    rw [e1]
    refine ⟨.nil, [], 0, 0, by simp, by simp, Nat.zero_le _, (fun B q h => by cases h), fun ls => ⟨?_, .inr ⟨locEnv_last _ _, .inr rfl, ⟨[], [], ⟨rfl, by simp⟩, rfl, rfl⟩⟩⟩⟩
    exact rel_one' (.inr ⟨locEnv_last _ _, rfl, rfl, rfl, rfl⟩)
  · have e1 : Value.slice a0 len0 cap0 = .slice (some a) len cap := by simpa using hcs
    rw [e1] at hv ⊢
    simp only [if_true] at hz
    have hk : Cell.ok Tryz.prog W .any base t (.slice (some a) len cap) := by
      have := hv
      simp only [Value.okWide, hu, Cell.okWide] at this
      exact this
    simp only [Cell.ok, hu] at hk
    obtain ⟨_, _, _, hspot, row, cells, hsh, hlies⟩ := hk
    obtain ⟨c, fz, hblk, hsz⟩ : ∃ c fz, W.heap[a.block]? = some (.cells c row fz) ∧ cells = c.size := by
      unfold World.shape? at hsh
      split at hsh
      · rename_i c el fz hq
        injection hsh with hsh; injection hsh with h1 h2
        exact ⟨c, fz, by rw [hq, h1], h2.symm⟩
      · cases hsh
    have hoff : a.off ≤ c.size := by
      have h1 := liesAt_le _ hlies
      have h2 := Nat.div_mul_le_self cells (Tryz.prog.cellsOf row)
      omega
    have hget : ∀ i, i < zs.length → c[a.off + i]? = some (.int k (zs.getD i 0)) := by
      intro i hi
      have h1 := hcell i hi
      have e2 : a.add i = ⟨a.block, a.off + i, none⟩ := by
        unfold Addr.add
        split
        · rename_i h0; subst h0
          cases a; simp only at hspot; simp [hspot]
        · rfl
      rw [e2] at h1
      simp only [World.cell?, hblk] at h1
      simpa using h1
    have hend : a.off + zs.length ≤ c.size := by
      rcases Nat.eq_zero_or_pos zs.length with h0 | hp
      · omega
      · have := (Array.getElem?_eq_some_iff.1 (hget (zs.length - 1) (by omega))).1
        omega
    have hlist : c.toList = c.toList.take a.off ++ (zs.map (.int k) ++ c.toList.drop (a.off + zs.length)) := by
      have hmid : (c.toList.drop a.off).take zs.length = zs.map (.int k) := by
        refine List.ext_getElem? fun i => ?_
        by_cases hi : i < zs.length
        · rw [List.getElem?_take_of_lt hi, List.getElem?_drop, Array.getElem?_toList, hget i hi, List.getElem?_map, List.getElem?_eq_getElem hi, List.getD_eq_getElem?_getD, List.getElem?_eq_getElem hi]; rfl
        · rw [List.getElem?_eq_none (by simp; omega), List.getElem?_eq_none (by simp; omega)]
      rw [← hmid, ← List.drop_drop, List.take_append_drop, List.take_append_drop]
    have ea : a = ⟨a.block, a.off, none⟩ := by cases a; simp only at hspot; simp [hspot]
    have hhas : ∀ x ∈ zs, has k x := fun x hx => wf_has (hwf x hx)
    refine ⟨.at_ a.block (c.size, a.off), zs, len, cap, hhas, by omega, Nat.le_trans hl hm, fun B q h => ?_, fun ls => ⟨?_, .inl ⟨a.block, (c.size, a.off), zs.map (.int k), c.toList.drop (a.off + zs.length), c.toList.take a.off, row, fz, locEnv_last _ _, ⟨_, [], ⟨rfl, hhas⟩, rfl, by simp⟩, ?_, ?_, fun hr => absurd rfl hr⟩⟩⟩
    · injection h with h1 h2
      rw [← h1]
      exact (Array.getElem?_eq_some_iff.1 hblk).1
    · refine rel_one' (.inl ⟨a.block, (c.size, a.off), locEnv_last _ _, ?_⟩)
      rw [Nat.add_zero, ← ea]
    · rw [← hlist]; exact hblk
    · simp; omega
/-- A contract over what came in, as a walk. -/
theorem walk_can {f : FuncId} {fn : Func} (h : ∀ (H : Type) (enc : TypeId × Value → H) (us : List Value) (W : World) (base : Nat) (ds : List (DataW H)) (ps : List MemPlace), (∀ (j : Nat) t v, fn.params[j]? = some t → us[j]? = some v → Value.okWide Tryz.prog W .any base t v) →
    DataW.TrodAll enc Tryz.prog W 0 (fun _ => true) true fn.params.toList us ds ps → ∃ ls bs args, ArgsOk W ls bs ∧ relAs (locEnv ls) args us ∧ CanOk Tryz.prog f args (enumH 0 bs) bs.length [] (boolA true) []) : LawWalk Tryz.prog f fn := by
  intro H enc us W base ds ps hv hA _ _
  obtain ⟨ls, bs, args, ho, ha, hc⟩ := h H enc us W base ds ps hv hA
  refine (hc (locEnv ls) us W ha ho.good ho.none).mono ?_
  rintro e w' ⟨u, β, rfl, out⟩
  obtain ⟨l1, l2, ⟨h1, _⟩, h3, h4⟩ := out.val
  simp only [relL] at h3
  subst h1; subst h3
  injection h4 with h4 _
  refine ⟨by rw [h4], ⟨out.os, out.tape, out.output, out.size, fun k hk => out.frame k hk (fun _ _ h => by cases h)⟩⟩
theorem can_bool {f : FuncId} {args : List AV} {H : Heap} {k0 : Nat} {b : Bool} (h : CanOk Tryz.prog f args H k0 [] (boolA b) []) (e : b = true) : CanOk Tryz.prog f args H k0 [] (boolA true) [] := by rw [← e]; exact h
end Go.Proofs.YtohjpdglbeohpaaGreat
/- Slices of either kind (cut out of a block, or grown) as arguments. -/
namespace Go.Proofs.YtohjpdglbeohpaaGreat
open Ex Num
set_option maxRecDepth 100000
set_option maxHeartbeats 4000000

def asSl : AV → Option (Nat × Nat × Nat)
  | .val false [.sl k off n _] => some (k, off, n)
  | .val false [.sx k n _] => some (k, 0, n)
  | _ => none
theorem asSl_rel {β : Env} {A : AV} {k off n : Nat} {u : Value} (h : asSl A = some (k, off, n)) (hr : relA β A u) : ∃ m, relA β (slA k off n m) u := by
  unfold asSl at h
  split at h
  · rename_i k' off' n' m
    injection h with h; injection h with h1 h; injection h with h2 h3
    subst h1; subst h2; subst h3
    exact ⟨m, hr⟩
  · rename_i k' n' sz
    injection h with h; injection h with h1 h; injection h with h2 h3
    subst h1; subst h2; subst h3
    obtain ⟨l1, l2, h1, h2, h3⟩ := hr
    rcases h1 with ⟨B, q, cap, q1, q2, q3, q4⟩ | ⟨q1, q2, q3⟩
    · exact ⟨cap, l1, l2, .inl ⟨B, (q, 0), q1, by rw [q2]⟩, h2, h3⟩
    · exact ⟨0, l1, l2, .inr ⟨q1, rfl, q2, rfl, q3⟩, h2, h3⟩
  · cases h
theorem can_spec2 {f : FuncId} {fn : Func} (hfn : Tryz.prog.funcs[f]? = some fn) (hbd : fn.body.isSome = true) (hname : (fn.name == "runtime.NumGoroutine") = false) {s : ASpec}
    (h : ∀ args H fr path r, s args H fr path = some r → ∃ (ρ : List Nat) (k0 nw : Nat) (W : List Nat) (val : AV) (H1 : Heap) (conds : List (Bool × Bool)) (path' : List Bool),
      r = trR ρ k0 fr nw W val H1 conds path' ∧ (∀ β us w, relAs β args us → Ex.Good β H w → okConds conds → ∃ args0 H0, CanOk Tryz.prog f args0 H0 k0 W val H1 ∧ canB k0 nw W val H1 = true ∧ relAs (inEnv β ρ k0) args0 us ∧ Ex.Good (inEnv β ρ k0) H0 w ∧ (∀ k, k < k0 → ∃ X, β (nth ρ k) = some X))) : SpecOk Tryz.prog f s := by
  intro args H fr path r β us w hs hc ha hg hf
  obtain ⟨ρ, k0, nw, W, val, H1, conds, path', rfl, hh⟩ := h args H fr path r hs
  obtain ⟨args0, H0, hcan, hb, ha0, hg0, hdef⟩ := hh β us w ha hg hc
  refine callX_of_calls hfn hbd hname (Calls.mono (hcan (inEnv β ρ k0) us w ha0 hg0 fun b hb => ?_) ?_)
  · have : Nat.blt b k0 = false := by cases h : Nat.blt b k0 with | false => rfl | true => have := nblt.1 h; omega
    simp [inEnv, this]
  · rintro e w' ⟨u, β1, rfl, ho⟩
    obtain ⟨β', he⟩ := tr_eff (conds := conds) (path := path') hg ho hb hf hdef
    exact ⟨u, β', rfl, he⟩
/-- A slice that is handed over, as key j's. -/
theorem sl_in {β : Env} {k j off n m : Nat} {ρ : List Nat} {k0 : Nat} {u : Value} (hj : j < k0) (hn : nth ρ j = k) (h : relA β (slA k off n m) u) : relA (inEnv β ρ k0) (slA j off n m) u := by
  obtain ⟨l1, l2, h1, h2, h3⟩ := h
  refine ⟨l1, l2, ?_, h2, h3⟩
  have e : inEnv β ρ k0 j = β k := by rw [inEnv_at hj, hn]
  rcases h1 with ⟨B, q, q1, q2⟩ | ⟨q1, q2⟩
  · exact .inl ⟨B, q, by rw [e]; exact q1, q2⟩
  · exact .inr ⟨by rw [e]; exact q1, q2⟩
/-- Contracts of functions that read one list of bytes. -/
def bySp (g : Nat → List Int → AV) : ASpec := fun args H fr path =>
  match args with
  | [S] => match asSl S with
    | some (k, off, n) => match hget H k with
      | some ⟨_, cs, _⟩ => match toSeq .u8 cs with
        | some xs => some (trR [k] 1 fr 0 [] (g n (win xs off n)) [] [(Nat.ble (off + n) xs.length, true), (hasB .i64 n, true)] path)
        | none => none
      | _ => none
    | none => none
  | _ => none
theorem bySp_ok {f : FuncId} {fn : Func} {g : Nat → List Int → AV} (hfn : Tryz.prog.funcs[f]? = some fn) (hb : fn.body.isSome = true) (hname : (fn.name == "runtime.NumGoroutine") = false) (hk : ∀ n l, canB 1 0 [] (g n l) [] = true)
    (h : ∀ (off n m : Nat) (xs : List Int), (∀ d ∈ xs, 0 ≤ d ∧ d < 256) → off + n ≤ xs.length → hasB .i64 n = true → CanOk Tryz.prog f [slA 0 off n m] (byH xs) 1 [] (g n (win xs off n)) []) : SpecOk Tryz.prog f (bySp g) := by
  refine can_spec2 hfn hb hname fun args H fr path r hs => ?_
  unfold bySp at hs
  split at hs
  case h_2 => cases hs
  rename_i S
  split at hs
  case h_2 => cases hs
  rename_i k off n hS
  split at hs
  case h_2 => cases hs
  rename_i ty cs o hk'
  split at hs
  case h_2 => cases hs
  rename_i xs hxs
  injection hs with hs
  refine ⟨[k], 1, 0, [], _, _, _, path, hs.symm, fun β us w ha hg hc => ?_⟩
  obtain ⟨u1, us1, r1, ha, rfl⟩ := ha
  obtain ⟨m, r1⟩ := asSl_rel hS r1
  obtain ⟨g1, g2, g3⟩ := good_by hg hk' hxs
  exact ⟨[slA 0 off n m], byH xs, h off n m xs g1 (Nat.le_of_ble_eq_true hc.1) hc.2.1, hk _ _, ⟨u1, _, sl_in (by omega) rfl r1, ha, rfl⟩, g2, g3⟩
/-- Contracts of functions that read one list of words. -/
def wdSp (g : Nat → List Int → AV) : ASpec := fun args H fr path =>
  match args with
  | [S] => match asSl S with
    | some (k, off, n) => match hget H k with
      | some ⟨_, cs, _⟩ => match toSeq .u64 cs with
        | some xs => some (trR [k] 1 fr 0 [] (g n (win xs off n)) [] [(Nat.ble (off + n) xs.length, true), (Nat.ble n 1125899906842624, true)] path)
        | none => none
      | _ => none
    | none => none
  | _ => none
theorem wdSp_ok {f : FuncId} {fn : Func} {g : Nat → List Int → AV} (hfn : Tryz.prog.funcs[f]? = some fn) (hb : fn.body.isSome = true) (hname : (fn.name == "runtime.NumGoroutine") = false) (hk : ∀ n l, canB 1 0 [] (g n l) [] = true)
    (h : ∀ (off n m : Nat) (xs : List Int), (∀ d ∈ xs, 0 ≤ d ∧ d < 18446744073709551616) → off + n ≤ xs.length → n ≤ 1125899906842624 → CanOk Tryz.prog f [slA 0 off n m] (seqH xs) 1 [] (g n (win xs off n)) []) : SpecOk Tryz.prog f (wdSp g) := by
  refine can_spec2 hfn hb hname fun args H fr path r hs => ?_
  unfold wdSp at hs
  split at hs
  case h_2 => cases hs
  rename_i S
  split at hs
  case h_2 => cases hs
  rename_i k off n hS
  split at hs
  case h_2 => cases hs
  rename_i ty cs o hk'
  split at hs
  case h_2 => cases hs
  rename_i xs hxs
  injection hs with hs
  refine ⟨[k], 1, 0, [], _, _, _, path, hs.symm, fun β us w ha hg hc => ?_⟩
  obtain ⟨u1, us1, r1, ha, rfl⟩ := ha
  obtain ⟨m, r1⟩ := asSl_rel hS r1
  obtain ⟨g1, g2, g3⟩ := good_seq hg hk' hxs
  exact ⟨[slA 0 off n m], seqH xs, h off n m xs g1 (Nat.le_of_ble_eq_true hc.1) (Nat.le_of_ble_eq_true hc.2.1), hk _ _, ⟨u1, _, sl_in (by omega) rfl r1, ha, rfl⟩, g2, g3⟩
noncomputable def powSp : ASpec := fun args H fr path =>
  match args with
  | [.val true a, S] => match asSl S with
    | some (k, off, n) => match asNum 6 a, hget H k with
      | some x, some ⟨_, cs, _⟩ => match toSeq .u64 cs with
        | some xs => some (trR [k] 1 fr 0 [] (num6 (powN x (natL (win xs off n)))) [] [(Nat.ble (off + n) xs.length, true), (Nat.ble n 1125899906842624, true)] path)
        | none => none
      | _, _ => none
    | none => none
  | _ => none
theorem powSp_ok {f : FuncId} {fn : Func} (hfn : Tryz.prog.funcs[f]? = some fn) (hb : fn.body.isSome = true) (hname : (fn.name == "runtime.NumGoroutine") = false)
    (h : ∀ (off n m : Nat) (xs : List Int) (x : Nat), (∀ d ∈ xs, 0 ≤ d ∧ d < 18446744073709551616) → off + n ≤ xs.length → n ≤ 1125899906842624 → CanOk Tryz.prog f (powA x off n m) (seqH xs) 1 [] (num6 (powN x (natL (win xs off n)))) []) : SpecOk Tryz.prog f powSp := by
  refine can_spec2 hfn hb hname fun args H fr path r hs => ?_
  unfold powSp at hs
  split at hs
  case h_2 => cases hs
  rename_i a S
  split at hs
  case h_2 => cases hs
  rename_i k off n hS
  split at hs
  case h_2 => cases hs
  rename_i x ty cs o hx hk'
  split at hs
  case h_2 => cases hs
  rename_i xs hxs
  injection hs with hs
  refine ⟨[k], 1, 0, [], _, _, _, path, hs.symm, fun β us w ha hg hc => ?_⟩
  obtain ⟨u1, us1, r1, ⟨u2, us2, r2, ha, rfl⟩, rfl⟩ := ha
  obtain ⟨m, r2⟩ := asSl_rel hS r2
  obtain ⟨g1, g2, g3⟩ := good_seq hg hk' hxs
  refine ⟨powA x off n m, seqH xs, h off n m xs x g1 (Nat.le_of_ble_eq_true hc.1) (Nat.le_of_ble_eq_true hc.2.1), by kernel_rfl, ⟨u1, _, ?_, ⟨u2, us2, sl_in (by omega) rfl r2, ha, rfl⟩, rfl⟩, g2, g3⟩
  obtain ⟨l, q, rfl⟩ := r1; exact ⟨l, num_any hx q, rfl⟩
noncomputable def SB : List (FuncId × ASpec) := (80, nilSpec (bySp fun n l => fbA n (natB l))) :: (68, nilSpec (bySp fun n l => fbA n (natB l))) :: (70, nilSpec powSp) :: (126, nilSpec powSp) :: (123, nilSpec (wdSp fun _ l => num6 (natL l % pN))) :: SZ
theorem SBok : SpecsOk Tryz.prog SB := ⟨nilSpec_ok (bySp_ok Tryz.func80 (by kernel_rfl) (by kernel_rfl) (fun _ _ => rfl) (fun _ _ _ _ hx hl hn => rfb_can hx hl hn)), nilSpec_ok (bySp_ok Tryz.func68 (by kernel_rfl) (by kernel_rfl) (fun _ _ => rfl) (fun _ _ _ _ _ hl hn => fb_can hl hn)), nilSpec_ok (powSp_ok Tryz.func70 (by kernel_rfl) (by kernel_rfl) fun _ _ _ _ x hx hl hn => pow_can hx hl hn x), nilSpec_ok (powSp_ok Tryz.func126 (by kernel_rfl) (by kernel_rfl) fun _ _ _ _ x hx hl hn => rpow_can hx hl hn x), nilSpec_ok (wdSp_ok Tryz.func123 (by kernel_rfl) (by kernel_rfl) (fun _ _ => rfl) (fun _ _ _ _ hx hl hn => wide_can hx hl hn)), SZok⟩
def KB : List (TypeId × List (Option IntKind)) := (71, List.replicate 48 (some .u8)) :: K0
theorem KBok : KindsOk Tryz.prog KB := ⟨⟨by kernel_rfl, by kernel_rfl, by kernel_rfl⟩, K0ok⟩
end Go.Proofs.YtohjpdglbeohpaaGreat
/- Runs as contracts; arguments of a law, one by one. -/
namespace Go.Proofs.YtohjpdglbeohpaaGreat
open Ex Num
set_option maxRecDepth 100000
set_option maxHeartbeats 4000000

/-- So many conditions that hold of themselves, ahead of others. -/
def tt : Nat → List (Bool × Bool) → List (Bool × Bool)
  | 0, r => r
  | n + 1, r => (true, true) :: tt n r
theorem tt_ok : ∀ (n : Nat) {r : List (Bool × Bool)}, okConds r → okConds (tt n r)
  | 0, _, h => h
  | n + 1, _, h => ⟨rfl, tt_ok n h⟩
theorem can_run {S : List (FuncId × ASpec)} {K : List (TypeId × List (Option IntKind))} (hS : SpecsOk Tryz.prog S) (hK : KindsOk Tryz.prog K) {f : FuncId} {fn : Func} (hfn : Tryz.prog.funcs[f]? = some fn) (hb : fn.body.isSome = true) {args : List AV} {H H1 : Heap} {fuel k0 : Nat} {ks : List Nat} {path : List Bool} {conds : List (Bool × Bool)} {v : AV}
    (hlen : Nat.ble (alen args) fn.ntmps = true) (h : segOut Tryz.prog (orc S K) fn fuel k0 ks (entry fn args H k0 path) = some (conds, [], v, H1)) (hw : wfB fn.ntmps (entry fn args H k0 path).s = true) (hc : okConds conds) : CanOk Tryz.prog f args H k0 [] v H1 :=
  can_entry (path := path) hfn hb hlen fun _ _ h0 => out_safe (orc_ok hS hK) mixed hfn h hc (wfB_ok hw) h0 (fun _ h => by cases h)

section
variable {H : Type} {enc : TypeId × Value → H} {W : World} {base : Nat} {v : Value} {d : DataW H} {p : List MemPlace}
theorem shp_u64 : shp Tryz.prog 20 22 = some [some .u64] := by kernel_rfl
theorem agg_u64 : isAggT Tryz.prog 22 = false := by kernel_rfl
theorem u64_arg (hv : Value.okWide Tryz.prog W .any base 22 v) (ht : DataW.Trod enc Tryz.prog W 0 (fun _ => true) true 22 v d p) : ∃ e : Nat, e < 18446744073709551616 ∧ ∀ β : Env, relA β (.val false [.v (.int .u64 (e : Int))]) v := by
  have h := plain_of shp_u64 agg_u64 hv ht
  change fitsH [some .u64] [v] at h
  cases v <;> simp only [fitsH] at h
  rename_i k i
  obtain ⟨rfl, hi, _⟩ := h
  have hb := u64_bounds hi
  obtain ⟨e, rfl⟩ := Int.eq_ofNat_of_zero_le hb.1
  exact ⟨e, by omega, fun β => rel_one' ⟨rfl, rfl, hi⟩⟩
theorem fp_arg (hv : Value.okWide Tryz.prog W .any base 24 v) (ht : DataW.Trod enc Tryz.prog W 0 (fun _ => true) true 24 v d p) : ∃ x, x < RR ∧ ∀ β : Env, relA β (num6 x) v := by
  obtain ⟨x, hx, hr⟩ := fp_num (plain_of shp_fp agg_fp hv ht)
  exact ⟨x, hx, fun β => relA_any rfl hr⟩
theorem under_bytes : Tryz.prog.underlying 28 = some (.slice 5) := by kernel_rfl
theorem under_u8 : Tryz.prog.underlying 5 = some (.int .u8) := by kernel_rfl
theorem cells_u8 : Tryz.prog.cellsOf 5 = 1 := by kernel_rfl
theorem under_words : Tryz.prog.underlying 75 = some (.slice 22) := by kernel_rfl
theorem under_u64 : Tryz.prog.underlying 22 = some (.int .u64) := by kernel_rfl
theorem cells_u64 : Tryz.prog.cellsOf 22 = 1 := by kernel_rfl
theorem len_has {n : Nat} (h : n ≤ maxLen) : hasB .i64 (n : Int) = true := by
  unfold maxLen at h
  simp only [hasB, Bool.and_eq_true, decide_eq_true_eq]; omega
/-- A list of bytes that came in: told behind the blocks that came before. -/
theorem bytes_arg (hv : Value.okWide Tryz.prog W .any base 28 v) (ht : DataW.Trod enc Tryz.prog W 0 (fun _ => true) true 28 v d p) {ls : List Ex.Loc} {bs : List Blk} (ho : ArgsOk W ls bs) :
    ∃ (L : Ex.Loc) (zs : List Int) (n m : Nat), (∀ x ∈ zs, 0 ≤ x ∧ x < 256) ∧ n ≤ zs.length ∧ hasB .i64 (n : Int) = true ∧ relA (locEnv (ls ++ [L])) (slA ls.length 0 n m) v ∧ ArgsOk W (ls ++ [L]) (bs ++ [roB [.seq .u8 zs]]) := by
  obtain ⟨L, zs, n, m, h1, h2, h3, h4, h5⟩ := ints_arg under_bytes under_u8 cells_u8 hv ht
  exact ⟨L, zs, n, m, fun x hx => u8_bounds (h1 x hx), h2, len_has h3, (h5 ls).1, ho.snoc (h5 ls).2 rfl h4⟩
theorem words_arg (hv : Value.okWide Tryz.prog W .any base 75 v) (ht : DataW.Trod enc Tryz.prog W 0 (fun _ => true) true 75 v d p) {ls : List Ex.Loc} {bs : List Blk} (ho : ArgsOk W ls bs) :
    ∃ (L : Ex.Loc) (zs : List Int) (n m : Nat), (∀ x ∈ zs, 0 ≤ x ∧ x < 18446744073709551616) ∧ n ≤ zs.length ∧ hasB .i64 (n : Int) = true ∧ relA (locEnv (ls ++ [L])) (slA ls.length 0 n m) v ∧ ArgsOk W (ls ++ [L]) (bs ++ [roB [.seq .u64 zs]]) := by
  obtain ⟨L, zs, n, m, h1, h2, h3, h4, h5⟩ := ints_arg under_words under_u64 cells_u64 hv ht
  exact ⟨L, zs, n, m, fun x hx => u64_bounds (h1 x hx), h2, len_has h3, (h5 ls).1, ho.snoc (h5 ls).2 rfl h4⟩
end
end Go.Proofs.YtohjpdglbeohpaaGreat
/- sigilref05: the contracts. -/
namespace Go.Proofs.YtohjpdglbeohpaaGreat
open Ex Num
set_option maxRecDepth 100000
set_option maxHeartbeats 4000000

def qtH : Heap := [(0, some ⟨22, QC, false⟩)]
theorem rqt_run : segOut Tryz.prog (orc S0 K0) Tryz.f127 100 0 [0] (entry Tryz.f127 [] [] 0 []) = some ([], [], slA 0 0 6 6, qtH) := by kernel_rfl
def qtSp : ASpec := fun args _ fr path =>
  match args with
  | [] => some (trR [] 0 fr 1 [] (slA 0 0 6 6) qtH [] path)
  | _ => none
theorem qtSp_ok : SpecOk Tryz.prog 127 qtSp := by
  refine can_spec Tryz.func127 (by kernel_rfl) (by kernel_rfl) fun args H fr path r hs => ?_
  unfold qtSp at hs
  split at hs
  case h_2 => cases hs
  injection hs with hs
  refine ⟨[], [], [], 0, 1, [], _, _, _, path, hs.symm, fun β us w ha hg hc => ?_⟩
  refine ⟨can_run S0ok K0ok Tryz.func127 (by kernel_rfl) (by kernel_rfl) rqt_run (by kernel_rfl) trivial, by kernel_rfl, ha, ⟨fun b blk h => (by cases h), fun b b' B n n' h => (by cases h), fun b B n h => ?_⟩, fun k h => absurd h (Nat.not_lt_zero k)⟩
  unfold inEnv at h
  split at h
  · exact hg.lt _ _ _ h
  · cases h
noncomputable def SC : List (FuncId × ASpec) := (127, qtSp) :: SB
theorem SCok : SpecsOk Tryz.prog SC := ⟨qtSp_ok, SBok⟩
def QL : List Int := [0xee7fbfffffffeaab, 0x7aaffffac54ffff, 0xd9cc34a83dac3d89, 0xd91dd2e13ce144af, 0x92c6e9ed90d2eb35, 0x680447a8e5ff9a6]
theorem natL_QL : natL (win QL 0 6) = QN := by kernel_rfl
noncomputable def rtX (a : Nat) : Nat := powN a (natL (win QL 0 6))
theorem root_run (a : Nat) : pureRun Tryz.prog (orc SC K0) Tryz.f83 [num6 a] [] 300 = some (tt 2 [], .tup [(true, [.num 6 (rtX a)]), (false, [.v (.bool (decide (mulN (rtX a) (rtX a) = a % pN)))])]) := by kernel_rfl
noncomputable def rootA (a : Nat) : AV := .tup [(true, [.num 6 (powN a QN)]), (false, [.v (.bool (isSqN a))])]
theorem root_ok (a : Nat) : PureOk Tryz.prog 83 [num6 a] (rootA a) := by
  have h := pure_ok (orc_ok SCok K0ok) mixed Tryz.func83 (root_run a) (tt_ok 2 trivial) rfl
  have e : rtX a = powN a QN := by unfold rtX; rw [natL_QL]
  rw [e] at h
  exact h
theorem rsign_run (a : Nat) : pureRun Tryz.prog (orc SC K0) Tryz.f84 [num6 a] [] 300 = some ([(decide (0 ≤ wordN (a % pN) 0 ∧ (0 : Int) < 2), true)], intA (wI (Int.tmod (wordN (a % pN) 0) 2))) := by kernel_rfl
theorem rsign_ok (a : Nat) : PureOk Tryz.prog 84 [num6 a] (intA (signN a)) := by
  have hb := word_bd (a % pN) 0
  have h := pure_ok (orc_ok SCok K0ok) mixed Tryz.func84 (rsign_run a) ⟨by simp [hb.1], trivial⟩ rfl
  have e : wI (Int.tmod (wordN (a % pN) 0) 2) = signN a := by
    rw [word0_mod2, Int.tmod_eq_emod_of_nonneg (by omega), wI_eq (by omega)]
    unfold signN; omega
  rw [e] at h
  exact h
theorem rbigger_run (a : Nat) : pureRun Tryz.prog (orc SC K0) Tryz.f26 [num6 a] [] 300 = some (tt 4 [], boolA (decide (0 < cmpI (natL (win (ws6 (a % pN)) (0 + 0 * 1) (6 - 0))) (natL (win (ws6 (negN a)) (0 + 0 * 1) (6 - 0)))))) := by kernel_rfl
theorem rbigger_ok (x : Nat) : PureOk Tryz.prog 26 [num6 x] (boolA (biggerN x)) := by
  have h := pure_ok (orc_ok SCok K0ok) mixed Tryz.func26 (rbigger_run x) (tt_ok 4 trivial) rfl
  rw [natL_num6 (lt_RR_mod x), natL_num6 (Nat.lt_trans (negN_lt x) (by decide))] at h
  have e : decide (0 < cmpI (x % pN) (negN x)) = biggerN x := by
    unfold cmpI biggerN
    by_cases h1 : x % pN < negN x
    · rw [if_pos h1, decide_eq_false (by omega), decide_eq_false (by omega)]
    · by_cases h2 : negN x < x % pN
      · rw [if_neg h1, if_pos h2, decide_eq_true h2]; rfl
      · rw [if_neg h1, if_neg h2, decide_eq_false h2]; rfl
  rw [e] at h
  exact h
noncomputable def SD : List (FuncId × ASpec) := (83, pureSpec (sp1 rootA)) :: (84, pureSpec (sp1 fun x => intA (signN x))) :: (26, pureSpec (sp1 fun x => boolA (biggerN x))) :: SC
theorem SDok : SpecsOk Tryz.prog SD := ⟨pureSpec_ok Tryz.func83 (by kernel_rfl) (by kernel_rfl) (sp1_ok fun x _ => root_ok x), pureSpec_ok Tryz.func84 (by kernel_rfl) (by kernel_rfl) (sp1_ok fun x _ => rsign_ok x), pureSpec_ok Tryz.func26 (by kernel_rfl) (by kernel_rfl) (sp1_ok fun x _ => rbigger_ok x), SCok⟩
theorem rsqrt_no (a : Nat) : pureRun Tryz.prog (orc SD K0) Tryz.f36 [num6 a] [true] 300 = some ([(!isSqN a, true)], .tup [(true, zero6), (false, [.b false])]) := by kernel_rfl
theorem rsqrt_neg (a : Nat) : pureRun Tryz.prog (orc SD K0) Tryz.f36 [num6 a] [false, true] 300 = some ([(!isSqN a, false), (decide (signN (powN a QN) = 1), true)], .tup [(true, [.num 6 (negN (powN a QN))]), (false, [.b true])]) := by kernel_rfl
theorem rsqrt_pos (a : Nat) : pureRun Tryz.prog (orc SD K0) Tryz.f36 [num6 a] [false, false] 300 = some ([(!isSqN a, false), (decide (signN (powN a QN) = 1), false)], .tup [(true, [.num 6 (powN a QN)]), (false, [.b true])]) := by kernel_rfl
theorem rsqrt_ok (a : Nat) : PureOk Tryz.prog 36 [num6 a] (sqrtA a) := by
  by_cases h : isSqN a = true
  · have e : rootN a = evenN (powN a QN) := by unfold rootN; rw [if_pos h]
    unfold sqrtA
    rw [e]
    by_cases hs : signN (powN a QN) = 1
    · have e2 : evenN (powN a QN) = negN (powN a QN) := if_pos hs
      rw [e2]
      exact pure_val (pure_ok (orc_ok SDok K0ok) mixed Tryz.func36 (rsqrt_neg a) ⟨by rw [h]; rfl, decide_eq_true hs, trivial⟩ rfl) fun u hu => relT2 (fun _ q => q) (fun _ q => bv_one h.symm q) hu
    · have e2 : evenN (powN a QN) = powN a QN := if_neg hs
      rw [e2]
      exact pure_val (pure_ok (orc_ok SDok K0ok) mixed Tryz.func36 (rsqrt_pos a) ⟨by rw [h]; rfl, decide_eq_false hs, trivial⟩ rfl) fun u hu => relT2 (fun _ q => q) (fun _ q => bv_one h.symm q) hu
  · have h0 : isSqN a = false := by simpa using h
    have e : rootN a = 0 := by unfold rootN; rw [if_neg h]
    unfold sqrtA
    rw [e]
    exact pure_val (pure_ok (orc_ok SDok K0ok) mixed Tryz.func36 (rsqrt_no a) ⟨by rw [h0]; rfl, trivial⟩ rfl) fun u hu => relT2 (fun _ q => zero_num q) (fun _ q => bv_one h0.symm q) hu
noncomputable def SE : List (FuncId × ASpec) := (36, pureSpec (sp1 sqrtA)) :: SD
theorem SEok : SpecsOk Tryz.prog SE := ⟨pureSpec_ok Tryz.func36 (by kernel_rfl) (by kernel_rfl) (sp1_ok fun x _ => rsqrt_ok x), SDok⟩
end Go.Proofs.YtohjpdglbeohpaaGreat
/- Commutative rings, and their identities by polynomials, for the kernel. -/
namespace Go.Proofs.YtohjpdglbeohpaaGreat.Rg

/-- A commutative ring. -/
class CR (F : Type) extends Add F, Mul F, Neg F, Sub F, Zero F, One F where
  add_assoc : ∀ a b c : F, (a + b) + c = a + (b + c)
  add_comm : ∀ a b : F, a + b = b + a
  zero_add : ∀ a : F, 0 + a = a
  neg_add : ∀ a : F, -a + a = 0
  mul_assoc : ∀ a b c : F, (a * b) * c = a * (b * c)
  mul_comm : ∀ a b : F, a * b = b * a
  one_mul : ∀ a : F, 1 * a = a
  add_mul : ∀ a b c : F, (a + b) * c = a * c + b * c
  sub_eq : ∀ a b : F, a - b = a + -b

section
variable {F : Type} [CR F]
theorem add_assoc (a b c : F) : (a + b) + c = a + (b + c) := CR.add_assoc a b c
theorem add_comm (a b : F) : a + b = b + a := CR.add_comm a b
theorem mul_assoc (a b c : F) : (a * b) * c = a * (b * c) := CR.mul_assoc a b c
theorem mul_comm (a b : F) : a * b = b * a := CR.mul_comm a b
theorem zero_add (a : F) : 0 + a = a := CR.zero_add a
theorem add_zero (a : F) : a + 0 = a := by rw [add_comm, zero_add]
theorem neg_add (a : F) : -a + a = 0 := CR.neg_add a
theorem add_neg (a : F) : a + -a = 0 := by rw [add_comm, neg_add]
theorem one_mul (a : F) : 1 * a = a := CR.one_mul a
theorem mul_one (a : F) : a * 1 = a := by rw [mul_comm, one_mul]
theorem add_mul (a b c : F) : (a + b) * c = a * c + b * c := CR.add_mul a b c
theorem mul_add (a b c : F) : a * (b + c) = a * b + a * c := by rw [mul_comm, add_mul, mul_comm b, mul_comm c]
theorem sub_eq (a b : F) : a - b = a + -b := CR.sub_eq a b
theorem add_left_cancel {a b c : F} (h : a + b = a + c) : b = c := by
  have := congrArg (fun z => -a + z) h
  simpa [← add_assoc, neg_add, zero_add] using this
theorem zero_mul (a : F) : 0 * a = 0 := by
  have h : 0 * a + 0 * a = 0 * a + 0 := by rw [← add_mul, zero_add, add_zero]
  exact add_left_cancel h
theorem mul_zero (a : F) : a * 0 = 0 := by rw [mul_comm, zero_mul]
theorem neg_unique {a b : F} (h : a + b = 0) : b = -a := add_left_cancel (a := a) (by rw [h, add_neg])
theorem neg_mul (a b : F) : -a * b = -(a * b) := neg_unique (by rw [← add_mul, add_neg, zero_mul])
theorem neg_neg (a : F) : -(-a) = a := (neg_unique (neg_add a)).symm
theorem neg_zero : -(0 : F) = 0 := (neg_unique (zero_add 0)).symm
theorem neg_add_rev (a b : F) : -(a + b) = -a + -b := (neg_unique (by
  rw [add_comm a b, add_assoc, ← add_assoc a, add_neg, zero_add, add_neg])).symm
theorem sub_self (a : F) : a - a = 0 := by rw [sub_eq, add_neg]
theorem sub_zero_iff {a b : F} : a - b = 0 ↔ a = b := by
  constructor
  · intro h
    rw [sub_eq] at h
    have := neg_unique ((add_comm _ _).trans h)
    rw [this, neg_neg]
  · rintro rfl; exact sub_self a
theorem add_left_comm (a b c : F) : a + (b + c) = b + (a + c) := by rw [← add_assoc, add_comm a b, add_assoc]
theorem mul_left_comm (a b c : F) : a * (b * c) = b * (a * c) := by rw [← mul_assoc, mul_comm a b, mul_assoc]

/- whole numbers in a ring -/
def nat : Nat → F
  | 0 => 0
  | n + 1 => nat n + 1
theorem nat_add (a b : Nat) : (nat (a + b) : F) = nat a + nat b := by
  induction b with
  | zero => simp [nat, add_zero]
  | succ b ih => rw [← Nat.add_assoc]; simp only [nat]; rw [ih, add_assoc]
theorem nat_mul (a b : Nat) : (nat (a * b) : F) = nat a * nat b := by
  induction b with
  | zero => simp [nat, mul_zero]
  | succ b ih => rw [Nat.mul_succ, nat_add, ih]; simp only [nat]; rw [mul_add, mul_one]
def int : Int → F
  | .ofNat n => nat n
  | .negSucc n => -(nat (n + 1))
theorem int_sub_nat (a b : Nat) : (int ((a : Int) - b) : F) = nat a + -nat b := by
  rcases Nat.le_total b a with h | h
  · obtain ⟨c, rfl⟩ := Nat.exists_eq_add_of_le h
    rw [show ((b + c : Nat) : Int) - b = (c : Int) by omega, nat_add, add_comm (nat b) (nat c), add_assoc, add_neg, add_zero]; rfl
  · obtain ⟨c, rfl⟩ := Nat.exists_eq_add_of_le h
    cases c with
    | zero => rw [Nat.add_zero, add_neg, show (a : Int) - (a : Nat) = 0 by omega]; rfl
    | succ c =>
      rw [show (a : Int) - ((a + (c + 1) : Nat) : Int) = Int.negSucc c by omega, nat_add, neg_add_rev, ← add_assoc, add_neg, zero_add]; rfl
theorem int_cases (i : Int) : ∃ a b : Nat, i = (a : Int) - b := by
  cases i with
  | ofNat n => exact ⟨n, 0, by simp⟩
  | negSucc n => exact ⟨0, n + 1, by omega⟩
theorem int_add (i j : Int) : (int (i + j) : F) = int i + int j := by
  obtain ⟨a, b, rfl⟩ := int_cases i
  obtain ⟨c, d, rfl⟩ := int_cases j
  rw [show (a : Int) - b + (c - d) = ((a + c : Nat) : Int) - (b + d : Nat) by omega, int_sub_nat, int_sub_nat, int_sub_nat, nat_add, nat_add, neg_add_rev]
  rw [add_assoc, add_assoc]; congr 1
  rw [← add_assoc, ← add_assoc]; congr 1
  exact add_comm _ _
theorem mul_neg (a b : F) : a * -b = -(a * b) := by rw [mul_comm, neg_mul, mul_comm]
theorem int_mul (i j : Int) : (int (i * j) : F) = int i * int j := by
  obtain ⟨a, b, rfl⟩ := int_cases i
  obtain ⟨c, d, rfl⟩ := int_cases j
  rw [show ((a : Int) - b) * (c - d) = ((a * c + b * d : Nat) : Int) - (a * d + b * c : Nat) by
    rw [Int.natCast_add, Int.natCast_add, Int.natCast_mul, Int.natCast_mul, Int.natCast_mul, Int.natCast_mul, Int.sub_mul, Int.mul_sub, Int.mul_sub]; omega]
  rw [int_sub_nat, int_sub_nat, int_sub_nat, nat_add, nat_add, nat_mul, nat_mul, nat_mul, nat_mul]
  rw [add_mul, mul_add, mul_add, neg_mul, mul_neg, neg_mul, mul_neg, neg_neg, neg_add_rev]
  rw [add_assoc, add_assoc]; congr 1
  rw [add_comm (nat b * nat d), add_assoc]
theorem int_neg (i : Int) : (int (-i) : F) = -int i := by
  refine neg_unique ?_
  rw [← int_add, Int.add_right_neg]; rfl
theorem int_zero : (int 0 : F) = 0 := rfl
theorem int_one : (int 1 : F) = 1 := by show nat 0 + 1 = _; exact zero_add 1

def pw (x : F) : Nat → F
  | 0 => 1
  | n + 1 => pw x n * x
theorem pw_add (x : F) (a b : Nat) : pw x (a + b) = pw x a * pw x b := by
  induction b with
  | zero => simp [pw, mul_one]
  | succ b ih => rw [← Nat.add_assoc]; simp only [pw]; rw [ih, mul_assoc]
theorem pw_mul (x y : F) (n : Nat) : pw (x * y) n = pw x n * pw y n := by
  induction n with
  | zero => simp [pw, one_mul]
  | succ n ih => simp only [pw]; rw [ih, mul_assoc, mul_assoc]; congr 1; rw [mul_left_comm]
theorem pw_pw (x : F) (a b : Nat) : pw x (a * b) = pw (pw x a) b := by
  induction b with
  | zero => rfl
  | succ b ih => rw [Nat.mul_succ, pw_add, ih]; rfl
end

/- polynomials -/
abbrev Mon := List Nat
abbrev Pol := List (Mon × Int)
def madd : Mon → Mon → Mon
  | [], b => b
  | a :: ar, b => match b with
    | [] => a :: ar
    | c :: bs => (a + c) :: madd ar bs
/-- 0: the same; 1: the first goes ahead; 2: the second. -/
def mcmp : Mon → Mon → Nat
  | [], b => match b with
    | [] => 0
    | _ :: _ => 2
  | a :: ar, b => match b with
    | [] => 1
    | c :: bs => match Nat.beq a c with
      | true => mcmp ar bs
      | false => match Nat.ble a c with
        | true => 2
        | false => 1
theorem mcmp_eq : ∀ {a b : Mon}, mcmp a b = 0 → a = b
  | [], [], _ => rfl
  | [], _ :: _, h => by cases h
  | _ :: _, [], h => by cases h
  | a :: ar, c :: bs, h => by
    simp only [mcmp] at h
    cases hb : Nat.beq a c with
    | true => rw [hb] at h; rw [Nat.eq_of_beq_eq_true hb, mcmp_eq h]
    | false =>
      rw [hb] at h
      cases hl : Nat.ble a c <;> rw [hl] at h <;> cases h
def cons0 (m : Mon) (c : Int) (p : Pol) : Pol := match c with
  | .ofNat 0 => p
  | _ => (m, c) :: p
def padd : Nat → Pol → Pol → Pol
  | 0, p, q => p ++ q
  | n + 1, p, q => match p with
    | [] => q
    | (a, c) :: p' => match q with
      | [] => p
      | (b, d) :: q' => match mcmp a b with
        | 0 => cons0 a (c + d) (padd n p' q')
        | 1 => (a, c) :: padd n p' q
        | _ => (b, d) :: padd n p q'
def len : Pol → Nat
  | [] => 0
  | _ :: r => len r + 1
def plus (p q : Pol) : Pol := padd (len p + len q) p q
def pscale (m : Mon) (c : Int) : Pol → Pol
  | [] => []
  | (a, d) :: r => (madd m a, c * d) :: pscale m c r
def pmul : Pol → Pol → Pol
  | [], _ => []
  | (a, c) :: r, q => plus (pscale a c q) (pmul r q)
def pneg : Pol → Pol
  | [] => []
  | (a, c) :: r => (a, -c) :: pneg r
section
variable {F : Type} [CR F]
def mden : List F → Mon → F
  | [], _ => 1
  | x :: xs, m => match m with
    | [] => 1
    | e :: es => pw x e * mden xs es
def pden (xs : List F) : Pol → F
  | [] => 0
  | (m, c) :: r => int c * mden xs m + pden xs r
theorem mden_nil (xs : List F) : mden xs [] = 1 := by cases xs <;> rfl
theorem mden_add : ∀ (xs : List F) (a b : Mon), mden xs (madd a b) = mden xs a * mden xs b
  | [], a, b => by simp [mden, one_mul]
  | x :: xs, [], b => by simp [madd, mden_nil, one_mul]
  | x :: xs, a :: ar, [] => by simp [madd, mden_nil, mul_one]
  | x :: xs, a :: ar, c :: bs => by
    simp only [madd, mden]
    rw [pw_add, mden_add xs ar bs, mul_assoc, mul_assoc]; congr 1; rw [mul_left_comm]
theorem pden_cons0 (xs : List F) (m : Mon) (c : Int) (p : Pol) : pden xs (cons0 m c p) = int c * mden xs m + pden xs p := by
  unfold cons0
  split
  · show _ = int 0 * _ + _
    rw [int_zero, zero_mul, zero_add]
  · rfl
theorem pden_append (xs : List F) : ∀ p q : Pol, pden xs (p ++ q) = pden xs p + pden xs q
  | [], q => by simp [pden, zero_add]
  | (m, c) :: p, q => by simp only [List.cons_append, pden]; rw [pden_append xs p q, add_assoc]
theorem pden_padd (xs : List F) : ∀ (n : Nat) (p q : Pol), pden xs (padd n p q) = pden xs p + pden xs q
  | 0, p, q => pden_append xs p q
  | n + 1, [], q => by simp [padd, pden, zero_add]
  | n + 1, (a, c) :: p', [] => by simp [padd, pden, add_zero]
  | n + 1, (a, c) :: p', (b, d) :: q' => by
    simp only [padd]
    split
    · rename_i h
      rw [pden_cons0, pden_padd xs n p' q', mcmp_eq h]
      simp only [pden]
      rw [int_add, add_mul, add_assoc, add_assoc]; congr 1
      rw [add_left_comm]
    · simp only [pden]; rw [pden_padd xs n p' _]; simp only [pden]; rw [add_assoc]
    · simp only [pden]; rw [pden_padd xs n _ q']; simp only [pden]; rw [add_left_comm]
theorem pden_plus (xs : List F) (p q : Pol) : pden xs (plus p q) = pden xs p + pden xs q := pden_padd xs _ p q
theorem pden_scale (xs : List F) (m : Mon) (c : Int) : ∀ p : Pol, pden xs (pscale m c p) = int c * mden xs m * pden xs p
  | [] => by simp [pscale, pden, mul_zero]
  | (a, d) :: r => by
    simp only [pscale, pden]
    rw [pden_scale xs m c r, mden_add, int_mul, mul_add]; congr 1
    rw [mul_assoc, mul_assoc]; congr 1; rw [mul_left_comm]
theorem pden_mul (xs : List F) : ∀ p q : Pol, pden xs (pmul p q) = pden xs p * pden xs q
  | [], q => by simp [pmul, pden, zero_mul]
  | (a, c) :: r, q => by simp only [pmul, pden]; rw [pden_plus, pden_scale, pden_mul xs r q, add_mul]
theorem pden_neg (xs : List F) : ∀ p : Pol, pden xs (pneg p) = - pden xs p
  | [] => by simp [pneg, pden, neg_zero]
  | (a, c) :: r => by simp only [pneg, pden]; rw [pden_neg xs r, int_neg, neg_mul, neg_add_rev]
end

/- expressions -/
inductive E where
  | v (i : Nat)
  | c (k : Int)
  | add (a b : E)
  | sub (a b : E)
  | mul (a b : E)
  | neg (a : E)
  | pw (a : E) (n : Nat)
def unit : Nat → Mon
  | 0 => [1]
  | i + 1 => 0 :: unit i
def ppow (p : Pol) : Nat → Pol
  | 0 => [([], 1)]
  | n + 1 => pmul (ppow p n) p
def E.pol : E → Pol
  | .v i => [(unit i, 1)]
  | .c k => cons0 [] k []
  | .add a b => plus a.pol b.pol
  | .sub a b => plus a.pol (pneg b.pol)
  | .mul a b => pmul a.pol b.pol
  | .neg a => pneg a.pol
  | .pw a n => ppow a.pol n
def nth {F : Type} [One F] : List F → Nat → F
  | [], _ => 1
  | x :: _, 0 => x
  | _ :: xs, i + 1 => nth xs i
section
variable {F : Type} [CR F]
def E.den (xs : List F) : E → F
  | .v i => nth xs i
  | .c k => int k
  | .add a b => a.den xs + b.den xs
  | .sub a b => a.den xs - b.den xs
  | .mul a b => a.den xs * b.den xs
  | .neg a => - a.den xs
  | .pw a n => Rg.pw (a.den xs) n
theorem mden_unit : ∀ (xs : List F) (i : Nat), mden xs (unit i) = nth xs i
  | [], i => by simp [mden, nth]
  | x :: xs, 0 => by simp [unit, mden, mden_nil, nth, Rg.pw, one_mul, mul_one]
  | x :: xs, i + 1 => by simp only [unit, mden, nth, Rg.pw]; rw [one_mul, mden_unit xs i]
theorem pden_pow (xs : List F) (p : Pol) (n : Nat) : pden xs (ppow p n) = Rg.pw (pden xs p) n := by
  induction n with
  | zero => simp [ppow, pden, Rg.pw, mden_nil, int_one, mul_one, add_zero]
  | succ n ih => simp only [ppow, Rg.pw]; rw [pden_mul, ih]
theorem E.pol_den (xs : List F) : ∀ e : E, pden xs e.pol = e.den xs
  | .v i => by simp only [E.pol, pden, E.den]; rw [mden_unit, int_one, one_mul, add_zero]
  | .c k => by simp only [E.pol, E.den]; rw [pden_cons0]; simp [pden, mden_nil, mul_one, add_zero]
  | .add a b => by simp only [E.pol, E.den]; rw [pden_plus, a.pol_den xs, b.pol_den xs]
  | .sub a b => by simp only [E.pol, E.den]; rw [pden_plus, pden_neg, a.pol_den xs, b.pol_den xs, sub_eq]
  | .mul a b => by simp only [E.pol, E.den]; rw [pden_mul, a.pol_den xs, b.pol_den xs]
  | .neg a => by simp only [E.pol, E.den]; rw [pden_neg, a.pol_den xs]
  | .pw a n => by simp only [E.pol, E.den]; rw [pden_pow, a.pol_den xs]
/-- Sums of multiples of what is 0. -/
def comb : List (E × E) → E
  | [] => .c 0
  | (k, r) :: l => .add (.mul k r) (comb l)
def nilP : Pol → Bool
  | [] => true
  | _ :: _ => false
def zeros (xs : List F) : List (E × E) → Prop
  | [] => True
  | (_, r) :: l => r.den xs = 0 ∧ zeros xs l
theorem comb_den (xs : List F) : ∀ l : List (E × E), zeros xs l → (comb l).den xs = 0
  | [], _ => rfl
  | (k, r) :: l, ⟨h1, h2⟩ => by simp only [comb, E.den]; rw [h1, mul_zero, comb_den xs l h2, add_zero]
/-- What the kernel sees: that is 0 which is a sum of multiples of what is 0. -/
theorem lin (xs : List F) (g : E) (l : List (E × E)) (hz : zeros xs l) (h : nilP (E.pol (.sub g (comb l))) = true) : g.den xs = 0 := by
  have e : (E.pol (.sub g (comb l))) = [] := by
    cases hp : E.pol (.sub g (comb l)) with
    | nil => rfl
    | cons a b => rw [hp] at h; cases h
  have := E.pol_den xs (.sub g (comb l))
  rw [e] at this
  simp only [pden, E.den] at this
  rw [comb_den xs l hz] at this
  exact sub_zero_iff.1 this.symm
theorem ident (xs : List F) (a b : E) (h : nilP (E.pol (.sub a b)) = true) : a.den xs = b.den xs := by
  have e : (E.pol (.sub a b)) = [] := by
    cases hp : E.pol (.sub a b) with
    | nil => rfl
    | cons a b => rw [hp] at h; cases h
  have := E.pol_den xs (.sub a b)
  rw [e] at this
  exact sub_zero_iff.1 this.symm
end
end Go.Proofs.YtohjpdglbeohpaaGreat.Rg
/- Polynomial identities of a curve y*y = x*x*x + b (printed by wip/gen/ec.py). -/
namespace Go.Proofs.YtohjpdglbeohpaaGreat.Rg
set_option maxRecDepth 100000
set_option maxHeartbeats 4000000

theorem ln_e2 {F : Type} [CR F] (x1 y1 x2 y2 l b : F) (hl : (l * (x2 - x1)) = (y2 - y1)) (c1 : (y1 * y1) = (((x1 * x1) * x1) + b)) (c2 : (y2 * y2) = (((x2 * x2) * x2) + b)) : ((x2 - x1) * ((((x1 * x2) + (x1 * (((l * l) - x1) - x2))) + (x2 * (((l * l) - x1) - x2))) + ((l * (y1 - (l * x1))) + (l * (y1 - (l * x1)))))) = 0 :=
  sub_zero_iff.1 (lin [x1, y1, x2, y2, l, b] (.sub (.mul (.sub (.v 2) (.v 0)) (.add (.add (.add (.mul (.v 0) (.v 2)) (.mul (.v 0) (.sub (.sub (.mul (.v 4) (.v 4)) (.v 0)) (.v 2)))) (.mul (.v 2) (.sub (.sub (.mul (.v 4) (.v 4)) (.v 0)) (.v 2)))) (.add (.mul (.v 4) (.sub (.v 1) (.mul (.v 4) (.v 0)))) (.mul (.v 4) (.sub (.v 1) (.mul (.v 4) (.v 0))))))) (.c 0)) [((.add (.add (.neg (.mul (.v 0) (.v 4))) (.v 1)) (.add (.mul (.v 2) (.v 4)) (.v 3))), .sub (.mul (.v 4) (.sub (.v 2) (.v 0))) (.sub (.v 3) (.v 1))),
    ((.c (-1)), .sub (.mul (.v 1) (.v 1)) (.add (.mul (.mul (.v 0) (.v 0)) (.v 0)) (.v 5))),
    ((.c 1), .sub (.mul (.v 3) (.v 3)) (.add (.mul (.mul (.v 2) (.v 2)) (.v 2)) (.v 5)))] ⟨sub_zero_iff.2 hl, sub_zero_iff.2 c1, sub_zero_iff.2 c2, trivial⟩ (by kernel_rfl))
theorem ln_e2t {F : Type} [CR F] (x y l : F) (hl : ((y + y) * l) = (((x * x) + (x * x)) + (x * x))) : ((((x * x) + (x * (((l * l) - x) - x))) + (x * (((l * l) - x) - x))) + ((l * (y - (l * x))) + (l * (y - (l * x))))) = 0 :=
  sub_zero_iff.1 (lin [x, y, l] (.sub (.add (.add (.add (.mul (.v 0) (.v 0)) (.mul (.v 0) (.sub (.sub (.mul (.v 2) (.v 2)) (.v 0)) (.v 0)))) (.mul (.v 0) (.sub (.sub (.mul (.v 2) (.v 2)) (.v 0)) (.v 0)))) (.add (.mul (.v 2) (.sub (.v 1) (.mul (.v 2) (.v 0)))) (.mul (.v 2) (.sub (.v 1) (.mul (.v 2) (.v 0)))))) (.c 0)) [((.c 1), .sub (.mul (.add (.v 1) (.v 1)) (.v 2)) (.add (.add (.mul (.v 0) (.v 0)) (.mul (.v 0) (.v 0))) (.mul (.v 0) (.v 0))))] ⟨sub_zero_iff.2 hl, trivial⟩ (by kernel_rfl))
theorem ln_e3 {F : Type} [CR F] (x1 y1 x2 l b : F) (e2 : ((((x1 * x2) + (x1 * (((l * l) - x1) - x2))) + (x2 * (((l * l) - x1) - x2))) + ((l * (y1 - (l * x1))) + (l * (y1 - (l * x1))))) = 0) (c1 : (y1 * y1) = (((x1 * x1) * x1) + b)) : (((x1 * x2) * (((l * l) - x1) - x2)) + b) = ((y1 - (l * x1)) * (y1 - (l * x1))) :=
  sub_zero_iff.1 (lin [x1, y1, x2, l, b] (.sub (.add (.mul (.mul (.v 0) (.v 2)) (.sub (.sub (.mul (.v 3) (.v 3)) (.v 0)) (.v 2))) (.v 4)) (.mul (.sub (.v 1) (.mul (.v 3) (.v 0))) (.sub (.v 1) (.mul (.v 3) (.v 0))))) [((.v 0), .sub (.add (.add (.add (.mul (.v 0) (.v 2)) (.mul (.v 0) (.sub (.sub (.mul (.v 3) (.v 3)) (.v 0)) (.v 2)))) (.mul (.v 2) (.sub (.sub (.mul (.v 3) (.v 3)) (.v 0)) (.v 2)))) (.add (.mul (.v 3) (.sub (.v 1) (.mul (.v 3) (.v 0)))) (.mul (.v 3) (.sub (.v 1) (.mul (.v 3) (.v 0)))))) (.c 0)),
    ((.c (-1)), .sub (.mul (.v 1) (.v 1)) (.add (.mul (.mul (.v 0) (.v 0)) (.v 0)) (.v 4)))] ⟨sub_zero_iff.2 e2, sub_zero_iff.2 c1, trivial⟩ (by kernel_rfl))
theorem ln_on {F : Type} [CR F] (x1 y1 x2 x3 l n b : F) (h1 : y1 = ((l * x1) + n)) (e1 : ((x1 + x2) + x3) = (l * l)) (e2 : ((((x1 * x2) + (x1 * x3)) + (x2 * x3)) + ((l * n) + (l * n))) = 0) (e3 : (((x1 * x2) * x3) + b) = (n * n)) : (y1 * y1) = (((x1 * x1) * x1) + b) :=
  sub_zero_iff.1 (lin [x1, y1, x2, x3, l, n, b] (.sub (.mul (.v 1) (.v 1)) (.add (.mul (.mul (.v 0) (.v 0)) (.v 0)) (.v 6))) [((.add (.mul (.v 0) (.v 4)) (.add (.v 1) (.v 5))), .sub (.v 1) (.add (.mul (.v 4) (.v 0)) (.v 5))),
    ((.neg (.pw (.v 0) 2)), .sub (.add (.add (.v 0) (.v 2)) (.v 3)) (.mul (.v 4) (.v 4))),
    ((.v 0), .sub (.add (.add (.add (.mul (.v 0) (.v 2)) (.mul (.v 0) (.v 3))) (.mul (.v 2) (.v 3))) (.add (.mul (.v 4) (.v 5)) (.mul (.v 4) (.v 5)))) (.c 0)),
    ((.c (-1)), .sub (.add (.mul (.mul (.v 0) (.v 2)) (.v 3)) (.v 6)) (.mul (.v 5) (.v 5)))] ⟨sub_zero_iff.2 h1, sub_zero_iff.2 e1, sub_zero_iff.2 e2, sub_zero_iff.2 e3, trivial⟩ (by kernel_rfl))
theorem ln_tan {F : Type} [CR F] (x1 y1 x3 l n : F) (h1 : y1 = ((l * x1) + n)) (e1 : ((x1 + x1) + x3) = (l * l)) (e2 : ((((x1 * x1) + (x1 * x3)) + (x1 * x3)) + ((l * n) + (l * n))) = 0) : ((y1 + y1) * l) = (((x1 * x1) + (x1 * x1)) + (x1 * x1)) :=
  sub_zero_iff.1 (lin [x1, y1, x3, l, n] (.sub (.mul (.add (.v 1) (.v 1)) (.v 3)) (.add (.add (.mul (.v 0) (.v 0)) (.mul (.v 0) (.v 0))) (.mul (.v 0) (.v 0)))) [((.mul (.c 2) (.v 3)), .sub (.v 1) (.add (.mul (.v 3) (.v 0)) (.v 4))),
    ((.mul (.c (-2)) (.v 0)), .sub (.add (.add (.v 0) (.v 0)) (.v 2)) (.mul (.v 3) (.v 3))),
    ((.c 1), .sub (.add (.add (.add (.mul (.v 0) (.v 0)) (.mul (.v 0) (.v 2))) (.mul (.v 0) (.v 2))) (.add (.mul (.v 3) (.v 4)) (.mul (.v 3) (.v 4)))) (.c 0))] ⟨sub_zero_iff.2 h1, sub_zero_iff.2 e1, sub_zero_iff.2 e2, trivial⟩ (by kernel_rfl))
theorem ln_y3 {F : Type} [CR F] (x1 y1 x3 y3 l n : F) (h1 : y1 = ((l * x1) + n)) (h3 : y3 = ((l * x3) + n)) : ((l * (x1 - x3)) - y1) = (-y3) :=
  sub_zero_iff.1 (lin [x1, y1, x3, y3, l, n] (.sub (.sub (.mul (.v 4) (.sub (.v 0) (.v 2))) (.v 1)) (.neg (.v 3))) [((.c (-1)), .sub (.v 1) (.add (.mul (.v 4) (.v 0)) (.v 5))),
    ((.c 1), .sub (.v 3) (.add (.mul (.v 4) (.v 2)) (.v 5)))] ⟨sub_zero_iff.2 h1, sub_zero_iff.2 h3, trivial⟩ (by kernel_rfl))
theorem ln_x3 {F : Type} [CR F] (x1 x2 x3 l : F) (e1 : ((x1 + x2) + x3) = (l * l)) : (((l * l) - x1) - x2) = x3 :=
  sub_zero_iff.1 (lin [x1, x2, x3, l] (.sub (.sub (.sub (.mul (.v 3) (.v 3)) (.v 0)) (.v 1)) (.v 2)) [((.c (-1)), .sub (.add (.add (.v 0) (.v 1)) (.v 2)) (.mul (.v 3) (.v 3)))] ⟨sub_zero_iff.2 e1, trivial⟩ (by kernel_rfl))
theorem ln_sl {F : Type} [CR F] (x1 y1 x2 y2 l n : F) (h1 : y1 = ((l * x1) + n)) (h2 : y2 = ((l * x2) + n)) : ((x2 - x1) * l) = (y2 - y1) :=
  sub_zero_iff.1 (lin [x1, y1, x2, y2, l, n] (.sub (.mul (.sub (.v 2) (.v 0)) (.v 4)) (.sub (.v 3) (.v 1))) [((.c 1), .sub (.v 1) (.add (.mul (.v 4) (.v 0)) (.v 5))),
    ((.c (-1)), .sub (.v 3) (.add (.mul (.v 4) (.v 2)) (.v 5)))] ⟨sub_zero_iff.2 h1, sub_zero_iff.2 h2, trivial⟩ (by kernel_rfl))
theorem e1_sw {F : Type} [CR F] (x1 x2 x3 k : F) (e : ((x1 + x2) + x3) = k) : ((x2 + x1) + x3) = k :=
  sub_zero_iff.1 (lin [x1, x2, x3, k] (.sub (.add (.add (.v 1) (.v 0)) (.v 2)) (.v 3)) [((.c 1), .sub (.add (.add (.v 0) (.v 1)) (.v 2)) (.v 3))] ⟨sub_zero_iff.2 e, trivial⟩ (by kernel_rfl))
theorem e1_ro {F : Type} [CR F] (x1 x2 x3 k : F) (e : ((x1 + x2) + x3) = k) : ((x2 + x3) + x1) = k :=
  sub_zero_iff.1 (lin [x1, x2, x3, k] (.sub (.add (.add (.v 1) (.v 2)) (.v 0)) (.v 3)) [((.c 1), .sub (.add (.add (.v 0) (.v 1)) (.v 2)) (.v 3))] ⟨sub_zero_iff.2 e, trivial⟩ (by kernel_rfl))
theorem e2_sw {F : Type} [CR F] (x1 x2 x3 k : F) (e : ((((x1 * x2) + (x1 * x3)) + (x2 * x3)) + k) = 0) : ((((x2 * x1) + (x2 * x3)) + (x1 * x3)) + k) = 0 :=
  sub_zero_iff.1 (lin [x1, x2, x3, k] (.sub (.add (.add (.add (.mul (.v 1) (.v 0)) (.mul (.v 1) (.v 2))) (.mul (.v 0) (.v 2))) (.v 3)) (.c 0)) [((.c 1), .sub (.add (.add (.add (.mul (.v 0) (.v 1)) (.mul (.v 0) (.v 2))) (.mul (.v 1) (.v 2))) (.v 3)) (.c 0))] ⟨sub_zero_iff.2 e, trivial⟩ (by kernel_rfl))
theorem e2_ro {F : Type} [CR F] (x1 x2 x3 k : F) (e : ((((x1 * x2) + (x1 * x3)) + (x2 * x3)) + k) = 0) : ((((x2 * x3) + (x2 * x1)) + (x3 * x1)) + k) = 0 :=
  sub_zero_iff.1 (lin [x1, x2, x3, k] (.sub (.add (.add (.add (.mul (.v 1) (.v 2)) (.mul (.v 1) (.v 0))) (.mul (.v 2) (.v 0))) (.v 3)) (.c 0)) [((.c 1), .sub (.add (.add (.add (.mul (.v 0) (.v 1)) (.mul (.v 0) (.v 2))) (.mul (.v 1) (.v 2))) (.v 3)) (.c 0))] ⟨sub_zero_iff.2 e, trivial⟩ (by kernel_rfl))
theorem e3_sw {F : Type} [CR F] (x1 x2 x3 b k : F) (e : (((x1 * x2) * x3) + b) = k) : (((x2 * x1) * x3) + b) = k :=
  sub_zero_iff.1 (lin [x1, x2, x3, b, k] (.sub (.add (.mul (.mul (.v 1) (.v 0)) (.v 2)) (.v 3)) (.v 4)) [((.c 1), .sub (.add (.mul (.mul (.v 0) (.v 1)) (.v 2)) (.v 3)) (.v 4))] ⟨sub_zero_iff.2 e, trivial⟩ (by kernel_rfl))
theorem e3_ro {F : Type} [CR F] (x1 x2 x3 b k : F) (e : (((x1 * x2) * x3) + b) = k) : (((x2 * x3) * x1) + b) = k :=
  sub_zero_iff.1 (lin [x1, x2, x3, b, k] (.sub (.add (.mul (.mul (.v 1) (.v 2)) (.v 0)) (.v 3)) (.v 4)) [((.c 1), .sub (.add (.mul (.mul (.v 0) (.v 1)) (.v 2)) (.v 3)) (.v 4))] ⟨sub_zero_iff.2 e, trivial⟩ (by kernel_rfl))
theorem neg_line {F : Type} [CR F] (x y l n : F) (h : y = ((l * x) + n)) : (-y) = (((-l) * x) + (-n)) :=
  sub_zero_iff.1 (lin [x, y, l, n] (.sub (.neg (.v 1)) (.add (.mul (.neg (.v 2)) (.v 0)) (.neg (.v 3)))) [((.c (-1)), .sub (.v 1) (.add (.mul (.v 2) (.v 0)) (.v 3)))] ⟨sub_zero_iff.2 h, trivial⟩ (by kernel_rfl))
theorem neg_sq {F : Type} [CR F] (l : F)  : ((-l) * (-l)) = (l * l) :=
  sub_zero_iff.1 (lin [l] (.sub (.mul (.neg (.v 0)) (.neg (.v 0))) (.mul (.v 0) (.v 0))) [] trivial (by kernel_rfl))
theorem neg_pr {F : Type} [CR F] (l n : F)  : (((-l) * (-n)) + ((-l) * (-n))) = ((l * n) + (l * n)) :=
  sub_zero_iff.1 (lin [l, n] (.sub (.add (.mul (.neg (.v 0)) (.neg (.v 1))) (.mul (.neg (.v 0)) (.neg (.v 1)))) (.add (.mul (.v 0) (.v 1)) (.mul (.v 0) (.v 1)))) [] trivial (by kernel_rfl))
theorem sq_diff {F : Type} [CR F] (y1 y2 k : F) (h1 : (y1 * y1) = k) (h2 : (y2 * y2) = k) : ((y1 - y2) * (y1 + y2)) = 0 :=
  sub_zero_iff.1 (lin [y1, y2, k] (.sub (.mul (.sub (.v 0) (.v 1)) (.add (.v 0) (.v 1))) (.c 0)) [((.c 1), .sub (.mul (.v 0) (.v 0)) (.v 2)),
    ((.c (-1)), .sub (.mul (.v 1) (.v 1)) (.v 2))] ⟨sub_zero_iff.2 h1, sub_zero_iff.2 h2, trivial⟩ (by kernel_rfl))
theorem lin_same {F : Type} [CR F] (x y1 y2 l n : F) (h1 : y1 = ((l * x) + n)) (h2 : y2 = ((l * x) + n)) : y1 = y2 :=
  sub_zero_iff.1 (lin [x, y1, y2, l, n] (.sub (.v 1) (.v 2)) [((.c 1), .sub (.v 1) (.add (.mul (.v 3) (.v 0)) (.v 4))),
    ((.c (-1)), .sub (.v 2) (.add (.mul (.v 3) (.v 0)) (.v 4)))] ⟨sub_zero_iff.2 h1, sub_zero_iff.2 h2, trivial⟩ (by kernel_rfl))
theorem dbl_zero {F : Type} [CR F] (y z : F) (h : y = (-z)) (h2 : y = z) : ((int 2) * y) = 0 :=
  sub_zero_iff.1 (lin [y, z] (.sub (.mul (.c 2) (.v 0)) (.c 0)) [((.c 1), .sub (.v 0) (.neg (.v 1))),
    ((.c 1), .sub (.v 0) (.v 1))] ⟨sub_zero_iff.2 h, sub_zero_iff.2 h2, trivial⟩ (by kernel_rfl))
theorem mul_cancel_aux {F : Type} [CR F] (a b c : F) (h : (a * b) = (a * c)) : (a * (b - c)) = 0 :=
  sub_zero_iff.1 (lin [a, b, c] (.sub (.mul (.v 0) (.sub (.v 1) (.v 2))) (.c 0)) [((.c 1), .sub (.mul (.v 0) (.v 1)) (.mul (.v 0) (.v 2)))] ⟨sub_zero_iff.2 h, trivial⟩ (by kernel_rfl))
theorem mid1 {F : Type} [CR F] (x1 x2 y2 x4 l n : F) (h2 : y2 = ((l * x2) + n)) (e1 : ((x1 + x2) + x4) = (l * l)) (e2 : ((((x1 * x2) + (x1 * x4)) + (x2 * x4)) + ((l * n) + (l * n))) = 0) : (((l * y2) + (l * y2)) + ((l * l) * (x1 - x2))) = (((x1 * x1) + (x1 * x2)) + (x2 * x2)) :=
  sub_zero_iff.1 (lin [x1, x2, y2, x4, l, n] (.sub (.add (.add (.mul (.v 4) (.v 2)) (.mul (.v 4) (.v 2))) (.mul (.mul (.v 4) (.v 4)) (.sub (.v 0) (.v 1)))) (.add (.add (.mul (.v 0) (.v 0)) (.mul (.v 0) (.v 1))) (.mul (.v 1) (.v 1)))) [((.mul (.c 2) (.v 4)), .sub (.v 2) (.add (.mul (.v 4) (.v 1)) (.v 5))),
    ((.add (.neg (.v 0)) (.neg (.v 1))), .sub (.add (.add (.v 0) (.v 1)) (.v 3)) (.mul (.v 4) (.v 4))),
    ((.c 1), .sub (.add (.add (.add (.mul (.v 0) (.v 1)) (.mul (.v 0) (.v 3))) (.mul (.v 1) (.v 3))) (.add (.mul (.v 4) (.v 5)) (.mul (.v 4) (.v 5)))) (.c 0))] ⟨sub_zero_iff.2 h2, sub_zero_iff.2 e1, sub_zero_iff.2 e2, trivial⟩ (by kernel_rfl))
theorem mid2 {F : Type} [CR F] (x2 y2 x3 x5 m q : F) (h2 : y2 = ((m * x2) + q)) (e1 : ((x2 + x3) + x5) = (m * m)) (e2 : ((((x2 * x3) + (x2 * x5)) + (x3 * x5)) + ((m * q) + (m * q))) = 0) : (((m * y2) + (m * y2)) + ((m * m) * (x3 - x2))) = (((x3 * x3) + (x3 * x2)) + (x2 * x2)) :=
  sub_zero_iff.1 (lin [x2, y2, x3, x5, m, q] (.sub (.add (.add (.mul (.v 4) (.v 1)) (.mul (.v 4) (.v 1))) (.mul (.mul (.v 4) (.v 4)) (.sub (.v 2) (.v 0)))) (.add (.add (.mul (.v 2) (.v 2)) (.mul (.v 2) (.v 0))) (.mul (.v 0) (.v 0)))) [((.mul (.c 2) (.v 4)), .sub (.v 1) (.add (.mul (.v 4) (.v 0)) (.v 5))),
    ((.add (.neg (.v 0)) (.neg (.v 2))), .sub (.add (.add (.v 0) (.v 2)) (.v 3)) (.mul (.v 4) (.v 4))),
    ((.c 1), .sub (.add (.add (.add (.mul (.v 0) (.v 2)) (.mul (.v 0) (.v 3))) (.mul (.v 2) (.v 3))) (.add (.mul (.v 4) (.v 5)) (.mul (.v 4) (.v 5)))) (.c 0))] ⟨sub_zero_iff.2 h2, sub_zero_iff.2 e1, sub_zero_iff.2 e2, trivial⟩ (by kernel_rfl))
theorem genX {F : Type} [CR F] (x1 x2 x3 y2 l m s t : F) (r1 : (((l * y2) + (l * y2)) + ((l * l) * (x1 - x2))) = (((x1 * x1) + (x1 * x2)) + (x2 * x2))) (r2 : (((m * y2) + (m * y2)) + ((m * m) * (x3 - x2))) = (((x3 * x3) + (x3 * x2)) + (x2 * x2))) (hs : (s * ((((l * l) - x1) - x2) - x3)) = (((l * (x2 - (((l * l) - x1) - x2))) - y2) - (y2 + (m * (x3 - x2))))) (ht : (t * ((((m * m) - x2) - x3) - x1)) = (((m * (x2 - (((m * m) - x2) - x3))) - y2) - (y2 + (l * (x1 - x2))))) : (((((((l * l) - x1) - x2) - x3) * ((((l * l) - x1) - x2) - x3)) * (((((m * m) - x2) - x3) - x1) * ((((m * m) - x2) - x3) - x1))) * (((s * s) - (((l * l) - x1) - x2)) - x3)) = (((((((l * l) - x1) - x2) - x3) * ((((l * l) - x1) - x2) - x3)) * (((((m * m) - x2) - x3) - x1) * ((((m * m) - x2) - x3) - x1))) * (((t * t) - x1) - (((m * m) - x2) - x3))) :=
  sub_zero_iff.1 (lin [x1, x2, x3, y2, l, m, s, t] (.sub (.mul (.mul (.mul (.sub (.sub (.sub (.mul (.v 4) (.v 4)) (.v 0)) (.v 1)) (.v 2)) (.sub (.sub (.sub (.mul (.v 4) (.v 4)) (.v 0)) (.v 1)) (.v 2))) (.mul (.sub (.sub (.sub (.mul (.v 5) (.v 5)) (.v 1)) (.v 2)) (.v 0)) (.sub (.sub (.sub (.mul (.v 5) (.v 5)) (.v 1)) (.v 2)) (.v 0)))) (.sub (.sub (.mul (.v 6) (.v 6)) (.sub (.sub (.mul (.v 4) (.v 4)) (.v 0)) (.v 1))) (.v 2))) (.mul (.mul (.mul (.sub (.sub (.sub (.mul (.v 4) (.v 4)) (.v 0)) (.v 1)) (.v 2)) (.sub (.sub (.sub (.mul (.v 4) (.v 4)) (.v 0)) (.v 1)) (.v 2))) (.mul (.sub (.sub (.sub (.mul (.v 5) (.v 5)) (.v 1)) (.v 2)) (.v 0)) (.sub (.sub (.sub (.mul (.v 5) (.v 5)) (.v 1)) (.v 2)) (.v 0)))) (.sub (.sub (.mul (.v 7) (.v 7)) (.v 0)) (.sub (.sub (.mul (.v 5) (.v 5)) (.v 1)) (.v 2))))) [((.add (.add (.add (.add (.add (.mul (.c (-2)) (.pw (.v 0) 3)) (.mul (.mul (.c (-6)) (.pw (.v 0) 2)) (.v 1))) (.add (.mul (.mul (.c (-6)) (.pw (.v 0) 2)) (.v 2)) (.add (.mul (.mul (.c 3) (.pw (.v 0) 2)) (.pw (.v 4) 2)) (.mul (.mul (.c 3) (.pw (.v 0) 2)) (.pw (.v 5) 2))))) (.add (.add (.mul (.mul (.c (-4)) (.v 0)) (.pw (.v 1) 2)) (.add (.mul (.mul (.mul (.c (-10)) (.v 0)) (.v 1)) (.v 2)) (.mul (.mul (.mul (.c 3) (.v 0)) (.v 1)) (.pw (.v 4) 2)))) (.add (.mul (.mul (.mul (.mul (.c (-6)) (.v 0)) (.v 1)) (.v 4)) (.v 5)) (.add (.mul (.mul (.mul (.c 5) (.v 0)) (.v 1)) (.pw (.v 5) 2)) (.mul (.mul (.c (-4)) (.v 0)) (.pw (.v 2) 2)))))) (.add (.add (.add (.mul (.mul (.mul (.c 6) (.v 0)) (.v 2)) (.pw (.v 4) 2)) (.mul (.mul (.mul (.c 4) (.v 0)) (.v 2)) (.pw (.v 5) 2))) (.add (.mul (.mul (.mul (.c 4) (.v 0)) (.v 3)) (.v 4)) (.add (.neg (.mul (.v 0) (.pw (.v 4) 4))) (.mul (.mul (.mul (.c (-3)) (.v 0)) (.pw (.v 4) 2)) (.pw (.v 5) 2))))) (.add (.add (.mul (.mul (.mul (.c 2) (.v 0)) (.v 4)) (.pw (.v 5) 3)) (.add (.mul (.c 2) (.pw (.v 1) 3)) (.mul (.mul (.c 4) (.pw (.v 1) 2)) (.v 2)))) (.add (.neg (.mul (.pw (.v 1) 2) (.pw (.v 4) 2))) (.add (.mul (.mul (.mul (.c (-6)) (.pw (.v 1) 2)) (.v 4)) (.v 5)) (.mul (.pw (.v 1) 2) (.pw (.v 5) 2))))))) (.add (.add (.add (.add (.mul (.mul (.c 4) (.v 1)) (.pw (.v 2) 2)) (.mul (.mul (.mul (.c 2) (.v 1)) (.v 2)) (.pw (.v 4) 2))) (.add (.mul (.mul (.mul (.mul (.c (-6)) (.v 1)) (.v 2)) (.v 4)) (.v 5)) (.add (.mul (.mul (.mul (.c 2) (.v 1)) (.v 2)) (.pw (.v 5) 2)) (.mul (.mul (.mul (.c 4) (.v 1)) (.v 3)) (.v 4))))) (.add (.add (.mul (.mul (.mul (.c (-4)) (.v 1)) (.v 3)) (.v 5)) (.add (.mul (.v 1) (.pw (.v 4) 4)) (.mul (.mul (.mul (.c 4) (.v 1)) (.pw (.v 4) 3)) (.v 5)))) (.add (.neg (.mul (.mul (.v 1) (.pw (.v 4) 2)) (.pw (.v 5) 2))) (.add (.mul (.mul (.mul (.c 4) (.v 1)) (.v 4)) (.pw (.v 5) 3)) (.mul (.mul (.c (-2)) (.v 1)) (.pw (.v 5) 4)))))) (.add (.add (.add (.mul (.c 4) (.pw (.v 2) 3)) (.add (.mul (.mul (.c 2) (.pw (.v 2) 2)) (.pw (.v 4) 2)) (.mul (.mul (.c (-6)) (.pw (.v 2) 2)) (.pw (.v 5) 2)))) (.add (.mul (.mul (.mul (.c 4) (.v 2)) (.v 3)) (.v 4)) (.add (.mul (.mul (.mul (.c (-8)) (.v 2)) (.v 3)) (.v 5)) (.mul (.mul (.mul (.c 2) (.v 2)) (.pw (.v 4) 3)) (.v 5))))) (.add (.add (.mul (.mul (.mul (.c (-2)) (.v 2)) (.pw (.v 4) 2)) (.pw (.v 5) 2)) (.add (.mul (.mul (.c 2) (.v 2)) (.pw (.v 5) 4)) (.mul (.mul (.c (-2)) (.v 3)) (.pw (.v 4) 3)))) (.add (.mul (.mul (.mul (.c (-2)) (.v 3)) (.v 4)) (.pw (.v 5) 2)) (.add (.mul (.mul (.c 4) (.v 3)) (.pw (.v 5) 3)) (.mul (.mul (.c (-2)) (.pw (.v 4) 3)) (.pw (.v 5) 3)))))))), .sub (.add (.add (.mul (.v 4) (.v 3)) (.mul (.v 4) (.v 3))) (.mul (.mul (.v 4) (.v 4)) (.sub (.v 0) (.v 1)))) (.add (.add (.mul (.v 0) (.v 0)) (.mul (.v 0) (.v 1))) (.mul (.v 1) (.v 1)))),
    ((.add (.add (.add (.add (.add (.mul (.mul (.mul (.c 6) (.v 0)) (.v 1)) (.v 2)) (.mul (.mul (.mul (.mul (.c 6) (.v 0)) (.v 1)) (.v 4)) (.v 5))) (.add (.mul (.mul (.c 6) (.v 0)) (.pw (.v 2) 2)) (.mul (.mul (.mul (.c (-6)) (.v 0)) (.v 2)) (.pw (.v 5) 2)))) (.add (.add (.mul (.mul (.mul (.c (-4)) (.v 0)) (.v 3)) (.v 5)) (.mul (.mul (.mul (.c (-2)) (.v 0)) (.v 4)) (.pw (.v 5) 3))) (.add (.mul (.c (-2)) (.pw (.v 1) 3)) (.mul (.mul (.c (-3)) (.pw (.v 1) 2)) (.pw (.v 4) 2))))) (.add (.add (.add (.mul (.mul (.mul (.c 6) (.pw (.v 1) 2)) (.v 4)) (.v 5)) (.mul (.mul (.c 3) (.pw (.v 1) 2)) (.pw (.v 5) 2))) (.add (.mul (.mul (.c 6) (.v 1)) (.pw (.v 2) 2)) (.mul (.mul (.mul (.c (-9)) (.v 1)) (.v 2)) (.pw (.v 4) 2)))) (.add (.add (.mul (.mul (.mul (.mul (.c 6) (.v 1)) (.v 2)) (.v 4)) (.v 5)) (.mul (.mul (.mul (.c (-3)) (.v 1)) (.v 2)) (.pw (.v 5) 2))) (.add (.mul (.mul (.mul (.c 4) (.v 1)) (.v 3)) (.v 4)) (.mul (.mul (.mul (.c (-4)) (.v 1)) (.v 3)) (.v 5)))))) (.add (.add (.add (.add (.mul (.mul (.mul (.c (-4)) (.v 1)) (.pw (.v 4) 3)) (.v 5)) (.mul (.mul (.mul (.c 3) (.v 1)) (.pw (.v 4) 2)) (.pw (.v 5) 2))) (.add (.mul (.mul (.mul (.c (-4)) (.v 1)) (.v 4)) (.pw (.v 5) 3)) (.neg (.mul (.v 1) (.pw (.v 5) 4))))) (.add (.add (.mul (.c 2) (.pw (.v 2) 3)) (.mul (.mul (.c (-3)) (.pw (.v 2) 2)) (.pw (.v 4) 2))) (.add (.mul (.mul (.c (-3)) (.pw (.v 2) 2)) (.pw (.v 5) 2)) (.mul (.mul (.mul (.c 8) (.v 2)) (.v 3)) (.v 4))))) (.add (.add (.add (.mul (.mul (.mul (.c (-4)) (.v 2)) (.v 3)) (.v 5)) (.mul (.mul (.mul (.c (-2)) (.v 2)) (.pw (.v 4) 3)) (.v 5))) (.add (.mul (.mul (.mul (.c 3) (.v 2)) (.pw (.v 4) 2)) (.pw (.v 5) 2)) (.mul (.v 2) (.pw (.v 5) 4)))) (.add (.add (.mul (.mul (.mul (.c 2) (.v 3)) (.pw (.v 4) 2)) (.v 5)) (.mul (.mul (.mul (.c (-4)) (.v 3)) (.v 4)) (.pw (.v 5) 2))) (.add (.mul (.mul (.c 2) (.v 3)) (.pw (.v 5) 3)) (.mul (.mul (.c 2) (.pw (.v 4) 3)) (.pw (.v 5) 3))))))), .sub (.add (.add (.mul (.v 5) (.v 3)) (.mul (.v 5) (.v 3))) (.mul (.mul (.v 5) (.v 5)) (.sub (.v 2) (.v 1)))) (.add (.add (.mul (.v 2) (.v 2)) (.mul (.v 2) (.v 1))) (.mul (.v 1) (.v 1)))),
    ((.add (.add (.add (.add (.add (.add (.mul (.pw (.v 0) 3) (.v 4)) (.neg (.mul (.pw (.v 0) 3) (.v 6)))) (.add (.mul (.mul (.mul (.c 4) (.pw (.v 0) 2)) (.v 1)) (.v 4)) (.mul (.mul (.pw (.v 0) 2) (.v 1)) (.v 5)))) (.add (.add (.mul (.mul (.mul (.c (-3)) (.pw (.v 0) 2)) (.v 1)) (.v 6)) (.mul (.mul (.mul (.c 2) (.pw (.v 0) 2)) (.v 2)) (.v 4))) (.add (.neg (.mul (.mul (.pw (.v 0) 2) (.v 2)) (.v 5))) (.add (.mul (.mul (.mul (.c (-3)) (.pw (.v 0) 2)) (.v 2)) (.v 6)) (.mul (.mul (.c (-2)) (.pw (.v 0) 2)) (.v 3)))))) (.add (.add (.add (.neg (.mul (.pw (.v 0) 2) (.pw (.v 4) 3))) (.mul (.mul (.pw (.v 0) 2) (.pw (.v 4) 2)) (.v 6))) (.add (.mul (.mul (.mul (.c (-2)) (.pw (.v 0) 2)) (.v 4)) (.pw (.v 5) 2)) (.add (.mul (.mul (.mul (.c 2) (.pw (.v 0) 2)) (.pw (.v 5) 2)) (.v 6)) (.mul (.mul (.mul (.c 5) (.v 0)) (.pw (.v 1) 2)) (.v 4))))) (.add (.add (.mul (.mul (.mul (.c 2) (.v 0)) (.pw (.v 1) 2)) (.v 5)) (.mul (.mul (.mul (.c (-3)) (.v 0)) (.pw (.v 1) 2)) (.v 6))) (.add (.mul (.mul (.mul (.mul (.c 6) (.v 0)) (.v 1)) (.v 2)) (.v 4)) (.add (.mul (.mul (.mul (.mul (.c (-6)) (.v 0)) (.v 1)) (.v 2)) (.v 6)) (.mul (.mul (.mul (.c (-4)) (.v 0)) (.v 1)) (.v 3))))))) (.add (.add (.add (.add (.mul (.mul (.mul (.c (-2)) (.v 0)) (.v 1)) (.pw (.v 4) 3)) (.mul (.mul (.mul (.mul (.c 2) (.v 0)) (.v 1)) (.pw (.v 4) 2)) (.v 6))) (.add (.mul (.mul (.mul (.mul (.c (-6)) (.v 0)) (.v 1)) (.v 4)) (.pw (.v 5) 2)) (.add (.mul (.mul (.mul (.c (-2)) (.v 0)) (.v 1)) (.pw (.v 5) 3)) (.mul (.mul (.mul (.mul (.c 4) (.v 0)) (.v 1)) (.pw (.v 5) 2)) (.v 6))))) (.add (.add (.mul (.mul (.v 0) (.pw (.v 2) 2)) (.v 4)) (.mul (.mul (.mul (.c (-2)) (.v 0)) (.pw (.v 2) 2)) (.v 5))) (.add (.mul (.mul (.mul (.c (-3)) (.v 0)) (.pw (.v 2) 2)) (.v 6)) (.add (.mul (.mul (.mul (.c (-4)) (.v 0)) (.v 2)) (.v 3)) (.mul (.mul (.mul (.c (-2)) (.v 0)) (.v 2)) (.pw (.v 4) 3)))))) (.add (.add (.add (.mul (.mul (.mul (.mul (.c 2) (.v 0)) (.v 2)) (.pw (.v 4) 2)) (.v 6)) (.mul (.mul (.mul (.mul (.c (-2)) (.v 0)) (.v 2)) (.v 4)) (.pw (.v 5) 2))) (.add (.mul (.mul (.mul (.c 2) (.v 0)) (.v 2)) (.pw (.v 5) 3)) (.add (.mul (.mul (.mul (.mul (.c 4) (.v 0)) (.v 2)) (.pw (.v 5) 2)) (.v 6)) (.mul (.mul (.mul (.c 4) (.v 0)) (.v 3)) (.pw (.v 5) 2))))) (.add (.add (.mul (.mul (.mul (.c 2) (.v 0)) (.pw (.v 4) 3)) (.pw (.v 5) 2)) (.mul (.mul (.mul (.mul (.c (-2)) (.v 0)) (.pw (.v 4) 2)) (.pw (.v 5) 2)) (.v 6))) (.add (.mul (.mul (.v 0) (.v 4)) (.pw (.v 5) 4)) (.add (.neg (.mul (.mul (.v 0) (.pw (.v 5) 4)) (.v 6))) (.mul (.mul (.c 2) (.pw (.v 1) 3)) (.v 4)))))))) (.add (.add (.add (.add (.add (.mul (.pw (.v 1) 3) (.v 5)) (.neg (.mul (.pw (.v 1) 3) (.v 6)))) (.add (.mul (.mul (.mul (.c 4) (.pw (.v 1) 2)) (.v 2)) (.v 4)) (.add (.mul (.mul (.pw (.v 1) 2) (.v 2)) (.v 5)) (.mul (.mul (.mul (.c (-3)) (.pw (.v 1) 2)) (.v 2)) (.v 6))))) (.add (.add (.mul (.mul (.c (-2)) (.pw (.v 1) 2)) (.v 3)) (.neg (.mul (.pw (.v 1) 2) (.pw (.v 4) 3)))) (.add (.mul (.mul (.pw (.v 1) 2) (.pw (.v 4) 2)) (.v 6)) (.add (.mul (.mul (.mul (.c (-4)) (.pw (.v 1) 2)) (.v 4)) (.pw (.v 5) 2)) (.mul (.mul (.c (-2)) (.pw (.v 1) 2)) (.pw (.v 5) 3)))))) (.add (.add (.add (.mul (.mul (.mul (.c 2) (.pw (.v 1) 2)) (.pw (.v 5) 2)) (.v 6)) (.mul (.mul (.mul (.c 2) (.v 1)) (.pw (.v 2) 2)) (.v 4))) (.add (.neg (.mul (.mul (.v 1) (.pw (.v 2) 2)) (.v 5))) (.add (.mul (.mul (.mul (.c (-3)) (.v 1)) (.pw (.v 2) 2)) (.v 6)) (.mul (.mul (.mul (.c (-4)) (.v 1)) (.v 2)) (.v 3))))) (.add (.add (.mul (.mul (.mul (.c (-2)) (.v 1)) (.v 2)) (.pw (.v 4) 3)) (.mul (.mul (.mul (.mul (.c 2) (.v 1)) (.v 2)) (.pw (.v 4) 2)) (.v 6))) (.add (.mul (.mul (.mul (.mul (.c (-4)) (.v 1)) (.v 2)) (.v 4)) (.pw (.v 5) 2)) (.add (.mul (.mul (.mul (.mul (.c 4) (.v 1)) (.v 2)) (.pw (.v 5) 2)) (.v 6)) (.mul (.mul (.mul (.c 4) (.v 1)) (.v 3)) (.pw (.v 5) 2))))))) (.add (.add (.add (.add (.mul (.mul (.mul (.c 2) (.v 1)) (.pw (.v 4) 3)) (.pw (.v 5) 2)) (.mul (.mul (.mul (.mul (.c (-2)) (.v 1)) (.pw (.v 4) 2)) (.pw (.v 5) 2)) (.v 6))) (.add (.mul (.mul (.mul (.c 2) (.v 1)) (.v 4)) (.pw (.v 5) 4)) (.add (.mul (.v 1) (.pw (.v 5) 5)) (.neg (.mul (.mul (.v 1) (.pw (.v 5) 4)) (.v 6)))))) (.add (.add (.neg (.mul (.pw (.v 2) 3) (.v 5))) (.neg (.mul (.pw (.v 2) 3) (.v 6)))) (.add (.mul (.mul (.c (-2)) (.pw (.v 2) 2)) (.v 3)) (.add (.neg (.mul (.pw (.v 2) 2) (.pw (.v 4) 3))) (.mul (.mul (.pw (.v 2) 2) (.pw (.v 4) 2)) (.v 6)))))) (.add (.add (.add (.mul (.mul (.c 2) (.pw (.v 2) 2)) (.pw (.v 5) 3)) (.mul (.mul (.mul (.c 2) (.pw (.v 2) 2)) (.pw (.v 5) 2)) (.v 6))) (.add (.mul (.mul (.mul (.c 4) (.v 2)) (.v 3)) (.pw (.v 5) 2)) (.add (.mul (.mul (.mul (.c 2) (.v 2)) (.pw (.v 4) 3)) (.pw (.v 5) 2)) (.mul (.mul (.mul (.mul (.c (-2)) (.v 2)) (.pw (.v 4) 2)) (.pw (.v 5) 2)) (.v 6))))) (.add (.add (.neg (.mul (.v 2) (.pw (.v 5) 5))) (.neg (.mul (.mul (.v 2) (.pw (.v 5) 4)) (.v 6)))) (.add (.mul (.mul (.c (-2)) (.v 3)) (.pw (.v 5) 4)) (.add (.neg (.mul (.pw (.v 4) 3) (.pw (.v 5) 4))) (.mul (.mul (.pw (.v 4) 2) (.pw (.v 5) 4)) (.v 6))))))))), .sub (.mul (.v 6) (.sub (.sub (.sub (.mul (.v 4) (.v 4)) (.v 0)) (.v 1)) (.v 2))) (.sub (.sub (.mul (.v 4) (.sub (.v 1) (.sub (.sub (.mul (.v 4) (.v 4)) (.v 0)) (.v 1)))) (.v 3)) (.add (.v 3) (.mul (.v 5) (.sub (.v 2) (.v 1)))))),
    ((.add (.add (.add (.add (.add (.add (.mul (.pw (.v 0) 3) (.v 4)) (.mul (.pw (.v 0) 3) (.v 7))) (.add (.mul (.mul (.pw (.v 0) 2) (.v 1)) (.v 4)) (.mul (.mul (.mul (.c (-2)) (.pw (.v 0) 2)) (.v 1)) (.v 5)))) (.add (.add (.mul (.mul (.mul (.c 3) (.pw (.v 0) 2)) (.v 1)) (.v 7)) (.mul (.mul (.mul (.c 2) (.pw (.v 0) 2)) (.v 2)) (.v 4))) (.add (.neg (.mul (.mul (.pw (.v 0) 2) (.v 2)) (.v 5))) (.add (.mul (.mul (.mul (.c 3) (.pw (.v 0) 2)) (.v 2)) (.v 7)) (.mul (.mul (.c 2) (.pw (.v 0) 2)) (.v 3)))))) (.add (.add (.add (.mul (.mul (.c (-2)) (.pw (.v 0) 2)) (.pw (.v 4) 3)) (.mul (.mul (.mul (.c (-2)) (.pw (.v 0) 2)) (.pw (.v 4) 2)) (.v 7))) (.add (.mul (.pw (.v 0) 2) (.pw (.v 5) 3)) (.add (.neg (.mul (.mul (.pw (.v 0) 2) (.pw (.v 5) 2)) (.v 7))) (.neg (.mul (.mul (.v 0) (.pw (.v 1) 2)) (.v 4)))))) (.add (.add (.mul (.mul (.mul (.c (-4)) (.v 0)) (.pw (.v 1) 2)) (.v 5)) (.mul (.mul (.mul (.c 3) (.v 0)) (.pw (.v 1) 2)) (.v 7))) (.add (.mul (.mul (.mul (.mul (.c (-6)) (.v 0)) (.v 1)) (.v 2)) (.v 5)) (.add (.mul (.mul (.mul (.mul (.c 6) (.v 0)) (.v 1)) (.v 2)) (.v 7)) (.mul (.mul (.mul (.c 4) (.v 0)) (.v 1)) (.v 3))))))) (.add (.add (.add (.add (.mul (.mul (.mul (.mul (.c 4) (.v 0)) (.v 1)) (.pw (.v 4) 2)) (.v 5)) (.mul (.mul (.mul (.mul (.c (-4)) (.v 0)) (.v 1)) (.pw (.v 4) 2)) (.v 7))) (.add (.mul (.mul (.mul (.c 2) (.v 0)) (.v 1)) (.pw (.v 5) 3)) (.add (.mul (.mul (.mul (.mul (.c (-2)) (.v 0)) (.v 1)) (.pw (.v 5) 2)) (.v 7)) (.mul (.mul (.v 0) (.pw (.v 2) 2)) (.v 4))))) (.add (.add (.mul (.mul (.mul (.c (-2)) (.v 0)) (.pw (.v 2) 2)) (.v 5)) (.mul (.mul (.mul (.c 3) (.v 0)) (.pw (.v 2) 2)) (.v 7))) (.add (.mul (.mul (.mul (.c 4) (.v 0)) (.v 2)) (.v 3)) (.add (.mul (.mul (.mul (.c (-2)) (.v 0)) (.v 2)) (.pw (.v 4) 3)) (.mul (.mul (.mul (.mul (.c 2) (.v 0)) (.v 2)) (.pw (.v 4) 2)) (.v 5)))))) (.add (.add (.add (.mul (.mul (.mul (.mul (.c (-4)) (.v 0)) (.v 2)) (.pw (.v 4) 2)) (.v 7)) (.mul (.mul (.mul (.c 2) (.v 0)) (.v 2)) (.pw (.v 5) 3))) (.add (.mul (.mul (.mul (.mul (.c (-2)) (.v 0)) (.v 2)) (.pw (.v 5) 2)) (.v 7)) (.add (.mul (.mul (.mul (.c (-4)) (.v 0)) (.v 3)) (.pw (.v 4) 2)) (.mul (.v 0) (.pw (.v 4) 5))))) (.add (.add (.mul (.mul (.v 0) (.pw (.v 4) 4)) (.v 7)) (.mul (.mul (.mul (.c (-2)) (.v 0)) (.pw (.v 4) 2)) (.pw (.v 5) 3))) (.add (.mul (.mul (.mul (.mul (.c 2) (.v 0)) (.pw (.v 4) 2)) (.pw (.v 5) 2)) (.v 7)) (.add (.neg (.mul (.pw (.v 1) 3) (.v 4))) (.mul (.mul (.c (-2)) (.pw (.v 1) 3)) (.v 5)))))))) (.add (.add (.add (.add (.add (.mul (.pw (.v 1) 3) (.v 7)) (.mul (.mul (.mul (.c (-2)) (.pw (.v 1) 2)) (.v 2)) (.v 4))) (.add (.mul (.mul (.mul (.c (-5)) (.pw (.v 1) 2)) (.v 2)) (.v 5)) (.add (.mul (.mul (.mul (.c 3) (.pw (.v 1) 2)) (.v 2)) (.v 7)) (.mul (.mul (.c 2) (.pw (.v 1) 2)) (.v 3))))) (.add (.add (.mul (.mul (.c 2) (.pw (.v 1) 2)) (.pw (.v 4) 3)) (.mul (.mul (.mul (.c 4) (.pw (.v 1) 2)) (.pw (.v 4) 2)) (.v 5))) (.add (.mul (.mul (.mul (.c (-2)) (.pw (.v 1) 2)) (.pw (.v 4) 2)) (.v 7)) (.add (.mul (.pw (.v 1) 2) (.pw (.v 5) 3)) (.neg (.mul (.mul (.pw (.v 1) 2) (.pw (.v 5) 2)) (.v 7))))))) (.add (.add (.add (.neg (.mul (.mul (.v 1) (.pw (.v 2) 2)) (.v 4))) (.mul (.mul (.mul (.c (-4)) (.v 1)) (.pw (.v 2) 2)) (.v 5))) (.add (.mul (.mul (.mul (.c 3) (.v 1)) (.pw (.v 2) 2)) (.v 7)) (.add (.mul (.mul (.mul (.c 4) (.v 1)) (.v 2)) (.v 3)) (.mul (.mul (.mul (.c 2) (.v 1)) (.v 2)) (.pw (.v 4) 3))))) (.add (.add (.mul (.mul (.mul (.mul (.c 6) (.v 1)) (.v 2)) (.pw (.v 4) 2)) (.v 5)) (.mul (.mul (.mul (.mul (.c (-4)) (.v 1)) (.v 2)) (.pw (.v 4) 2)) (.v 7))) (.add (.mul (.mul (.mul (.c 2) (.v 1)) (.v 2)) (.pw (.v 5) 3)) (.add (.mul (.mul (.mul (.mul (.c (-2)) (.v 1)) (.v 2)) (.pw (.v 5) 2)) (.v 7)) (.mul (.mul (.mul (.c (-4)) (.v 1)) (.v 3)) (.pw (.v 4) 2))))))) (.add (.add (.add (.add (.neg (.mul (.v 1) (.pw (.v 4) 5))) (.mul (.mul (.mul (.c (-2)) (.v 1)) (.pw (.v 4) 4)) (.v 5))) (.add (.mul (.mul (.v 1) (.pw (.v 4) 4)) (.v 7)) (.add (.mul (.mul (.mul (.c (-2)) (.v 1)) (.pw (.v 4) 2)) (.pw (.v 5) 3)) (.mul (.mul (.mul (.mul (.c 2) (.v 1)) (.pw (.v 4) 2)) (.pw (.v 5) 2)) (.v 7))))) (.add (.add (.neg (.mul (.pw (.v 2) 3) (.v 5))) (.mul (.pw (.v 2) 3) (.v 7))) (.add (.mul (.mul (.c 2) (.pw (.v 2) 2)) (.v 3)) (.add (.mul (.mul (.mul (.c 2) (.pw (.v 2) 2)) (.pw (.v 4) 2)) (.v 5)) (.mul (.mul (.mul (.c (-2)) (.pw (.v 2) 2)) (.pw (.v 4) 2)) (.v 7)))))) (.add (.add (.add (.mul (.pw (.v 2) 2) (.pw (.v 5) 3)) (.neg (.mul (.mul (.pw (.v 2) 2) (.pw (.v 5) 2)) (.v 7)))) (.add (.mul (.mul (.mul (.c (-4)) (.v 2)) (.v 3)) (.pw (.v 4) 2)) (.add (.neg (.mul (.mul (.v 2) (.pw (.v 4) 4)) (.v 5))) (.mul (.mul (.v 2) (.pw (.v 4) 4)) (.v 7))))) (.add (.add (.mul (.mul (.mul (.c (-2)) (.v 2)) (.pw (.v 4) 2)) (.pw (.v 5) 3)) (.mul (.mul (.mul (.mul (.c 2) (.v 2)) (.pw (.v 4) 2)) (.pw (.v 5) 2)) (.v 7))) (.add (.mul (.mul (.c 2) (.v 3)) (.pw (.v 4) 4)) (.add (.mul (.pw (.v 4) 4) (.pw (.v 5) 3)) (.neg (.mul (.mul (.pw (.v 4) 4) (.pw (.v 5) 2)) (.v 7)))))))))), .sub (.mul (.v 7) (.sub (.sub (.sub (.mul (.v 5) (.v 5)) (.v 1)) (.v 2)) (.v 0))) (.sub (.sub (.mul (.v 5) (.sub (.v 1) (.sub (.sub (.mul (.v 5) (.v 5)) (.v 1)) (.v 2)))) (.v 3)) (.add (.v 3) (.mul (.v 4) (.sub (.v 0) (.v 1))))))] ⟨sub_zero_iff.2 r1, sub_zero_iff.2 r2, sub_zero_iff.2 hs, sub_zero_iff.2 ht, trivial⟩ (by kernel_rfl))
theorem genY {F : Type} [CR F] (x1 x2 x3 y2 l m s t : F) (r1 : (((l * y2) + (l * y2)) + ((l * l) * (x1 - x2))) = (((x1 * x1) + (x1 * x2)) + (x2 * x2))) (r2 : (((m * y2) + (m * y2)) + ((m * m) * (x3 - x2))) = (((x3 * x3) + (x3 * x2)) + (x2 * x2))) (hs : (s * ((((l * l) - x1) - x2) - x3)) = (((l * (x2 - (((l * l) - x1) - x2))) - y2) - (y2 + (m * (x3 - x2))))) (ht : (t * ((((m * m) - x2) - x3) - x1)) = (((m * (x2 - (((m * m) - x2) - x3))) - y2) - (y2 + (l * (x1 - x2))))) : ((((((((l * l) - x1) - x2) - x3) * ((((l * l) - x1) - x2) - x3)) * ((((l * l) - x1) - x2) - x3)) * ((((m * m) - x2) - x3) - x1)) * ((s * (x3 - (((s * s) - (((l * l) - x1) - x2)) - x3))) - (y2 + (m * (x3 - x2))))) = ((((((((l * l) - x1) - x2) - x3) * ((((l * l) - x1) - x2) - x3)) * ((((l * l) - x1) - x2) - x3)) * ((((m * m) - x2) - x3) - x1)) * ((t * (x1 - (((s * s) - (((l * l) - x1) - x2)) - x3))) - (y2 + (l * (x1 - x2))))) :=
  sub_zero_iff.1 (lin [x1, x2, x3, y2, l, m, s, t] (.sub (.mul (.mul (.mul (.mul (.sub (.sub (.sub (.mul (.v 4) (.v 4)) (.v 0)) (.v 1)) (.v 2)) (.sub (.sub (.sub (.mul (.v 4) (.v 4)) (.v 0)) (.v 1)) (.v 2))) (.sub (.sub (.sub (.mul (.v 4) (.v 4)) (.v 0)) (.v 1)) (.v 2))) (.sub (.sub (.sub (.mul (.v 5) (.v 5)) (.v 1)) (.v 2)) (.v 0))) (.sub (.mul (.v 6) (.sub (.v 2) (.sub (.sub (.mul (.v 6) (.v 6)) (.sub (.sub (.mul (.v 4) (.v 4)) (.v 0)) (.v 1))) (.v 2)))) (.add (.v 3) (.mul (.v 5) (.sub (.v 2) (.v 1)))))) (.mul (.mul (.mul (.mul (.sub (.sub (.sub (.mul (.v 4) (.v 4)) (.v 0)) (.v 1)) (.v 2)) (.sub (.sub (.sub (.mul (.v 4) (.v 4)) (.v 0)) (.v 1)) (.v 2))) (.sub (.sub (.sub (.mul (.v 4) (.v 4)) (.v 0)) (.v 1)) (.v 2))) (.sub (.sub (.sub (.mul (.v 5) (.v 5)) (.v 1)) (.v 2)) (.v 0))) (.sub (.mul (.v 7) (.sub (.v 0) (.sub (.sub (.mul (.v 6) (.v 6)) (.sub (.sub (.mul (.v 4) (.v 4)) (.v 0)) (.v 1))) (.v 2)))) (.add (.v 3) (.mul (.v 4) (.sub (.v 0) (.v 1))))))) [((.add (.add (.add (.add (.add (.mul (.mul (.c (-2)) (.pw (.v 0) 3)) (.v 4)) (.add (.mul (.mul (.mul (.c (-8)) (.pw (.v 0) 2)) (.v 1)) (.v 4)) (.mul (.mul (.mul (.c (-2)) (.pw (.v 0) 2)) (.v 1)) (.v 5)))) (.add (.add (.mul (.mul (.mul (.c (-4)) (.pw (.v 0) 2)) (.v 2)) (.v 4)) (.mul (.mul (.mul (.c 2) (.pw (.v 0) 2)) (.v 2)) (.v 5))) (.add (.mul (.mul (.c 2) (.pw (.v 0) 2)) (.v 3)) (.mul (.mul (.c 4) (.pw (.v 0) 2)) (.pw (.v 4) 3))))) (.add (.add (.add (.mul (.mul (.mul (.c 2) (.pw (.v 0) 2)) (.v 4)) (.pw (.v 5) 2)) (.mul (.mul (.mul (.c (-8)) (.v 0)) (.pw (.v 1) 2)) (.v 4))) (.add (.mul (.mul (.mul (.c (-4)) (.v 0)) (.pw (.v 1) 2)) (.v 5)) (.mul (.mul (.mul (.mul (.c (-10)) (.v 0)) (.v 1)) (.v 2)) (.v 4)))) (.add (.add (.mul (.mul (.mul (.c 4) (.v 0)) (.v 1)) (.v 3)) (.mul (.mul (.mul (.c 9) (.v 0)) (.v 1)) (.pw (.v 4) 3))) (.add (.neg (.mul (.mul (.mul (.v 0) (.v 1)) (.pw (.v 4) 2)) (.v 5))) (.mul (.mul (.mul (.mul (.c 5) (.v 0)) (.v 1)) (.v 4)) (.pw (.v 5) 2)))))) (.add (.add (.add (.add (.mul (.mul (.v 0) (.v 1)) (.pw (.v 5) 3)) (.mul (.mul (.mul (.c 4) (.v 0)) (.pw (.v 2) 2)) (.v 5))) (.add (.mul (.mul (.mul (.c 4) (.v 0)) (.v 2)) (.v 3)) (.mul (.mul (.mul (.c 7) (.v 0)) (.v 2)) (.pw (.v 4) 3)))) (.add (.add (.mul (.mul (.mul (.v 0) (.v 2)) (.pw (.v 4) 2)) (.v 5)) (.mul (.mul (.mul (.mul (.c 3) (.v 0)) (.v 2)) (.v 4)) (.pw (.v 5) 2))) (.add (.neg (.mul (.mul (.v 0) (.v 2)) (.pw (.v 5) 3))) (.mul (.mul (.mul (.c 2) (.v 0)) (.v 3)) (.pw (.v 4) 2))))) (.add (.add (.add (.mul (.mul (.mul (.c (-2)) (.v 0)) (.v 3)) (.pw (.v 5) 2)) (.mul (.mul (.c (-2)) (.v 0)) (.pw (.v 4) 5))) (.add (.mul (.mul (.mul (.c (-4)) (.v 0)) (.pw (.v 4) 3)) (.pw (.v 5) 2)) (.mul (.mul (.c 2) (.pw (.v 1) 3)) (.v 4)))) (.add (.add (.mul (.mul (.mul (.c 2) (.pw (.v 1) 2)) (.v 2)) (.v 4)) (.mul (.mul (.mul (.c (-2)) (.pw (.v 1) 2)) (.v 2)) (.v 5))) (.add (.mul (.mul (.c 2) (.pw (.v 1) 2)) (.pw (.v 4) 3)) (.mul (.mul (.mul (.c (-4)) (.pw (.v 1) 2)) (.pw (.v 4) 2)) (.v 5))))))) (.add (.add (.add (.add (.mul (.mul (.mul (.c 2) (.pw (.v 1) 2)) (.v 4)) (.pw (.v 5) 2)) (.add (.mul (.mul (.c 2) (.pw (.v 1) 2)) (.pw (.v 5) 3)) (.mul (.mul (.mul (.c 6) (.v 1)) (.pw (.v 2) 2)) (.v 4)))) (.add (.add (.mul (.mul (.mul (.c 2) (.v 1)) (.pw (.v 2) 2)) (.v 5)) (.mul (.mul (.mul (.c 2) (.v 1)) (.v 2)) (.v 3))) (.add (.mul (.mul (.mul (.c 8) (.v 1)) (.v 2)) (.pw (.v 4) 3)) (.mul (.mul (.mul (.mul (.c 6) (.v 1)) (.v 2)) (.pw (.v 4) 2)) (.v 5))))) (.add (.add (.add (.mul (.mul (.mul (.mul (.c 6) (.v 1)) (.v 2)) (.v 4)) (.pw (.v 5) 2)) (.mul (.mul (.mul (.c (-2)) (.v 1)) (.v 2)) (.pw (.v 5) 3))) (.add (.mul (.mul (.mul (.c 6) (.v 1)) (.v 3)) (.pw (.v 4) 2)) (.mul (.mul (.mul (.c (-4)) (.v 1)) (.v 3)) (.pw (.v 5) 2)))) (.add (.add (.neg (.mul (.v 1) (.pw (.v 4) 5))) (.mul (.mul (.mul (.c 3) (.v 1)) (.pw (.v 4) 4)) (.v 5))) (.add (.mul (.mul (.mul (.c (-5)) (.v 1)) (.pw (.v 4) 3)) (.pw (.v 5) 2)) (.neg (.mul (.mul (.v 1) (.pw (.v 4) 2)) (.pw (.v 5) 3))))))) (.add (.add (.add (.add (.mul (.mul (.mul (.c (-2)) (.v 1)) (.v 4)) (.pw (.v 5) 4)) (.mul (.mul (.c 4) (.pw (.v 2) 3)) (.v 4))) (.add (.mul (.mul (.mul (.c (-2)) (.pw (.v 2) 2)) (.pw (.v 4) 2)) (.v 5)) (.mul (.mul (.mul (.c (-6)) (.pw (.v 2) 2)) (.v 4)) (.pw (.v 5) 2)))) (.add (.add (.mul (.mul (.mul (.c (-2)) (.v 2)) (.v 3)) (.pw (.v 4) 2)) (.mul (.mul (.mul (.mul (.c (-12)) (.v 2)) (.v 3)) (.v 4)) (.v 5))) (.add (.mul (.mul (.c (-3)) (.v 2)) (.pw (.v 4) 5)) (.mul (.mul (.mul (.c (-3)) (.v 2)) (.pw (.v 4) 4)) (.v 5))))) (.add (.add (.add (.mul (.mul (.mul (.c (-3)) (.v 2)) (.pw (.v 4) 3)) (.pw (.v 5) 2)) (.mul (.mul (.v 2) (.pw (.v 4) 2)) (.pw (.v 5) 3))) (.add (.mul (.mul (.mul (.c 2) (.v 2)) (.v 4)) (.pw (.v 5) 4)) (.mul (.mul (.c (-4)) (.pw (.v 3) 2)) (.v 4)))) (.add (.add (.mul (.mul (.c (-4)) (.v 3)) (.pw (.v 4) 4)) (.mul (.mul (.mul (.c 2) (.v 3)) (.pw (.v 4) 2)) (.pw (.v 5) 2))) (.add (.mul (.mul (.mul (.c 4) (.v 3)) (.v 4)) (.pw (.v 5) 3)) (.mul (.mul (.c 2) (.pw (.v 4) 5)) (.pw (.v 5) 2)))))))), .sub (.add (.add (.mul (.v 4) (.v 3)) (.mul (.v 4) (.v 3))) (.mul (.mul (.v 4) (.v 4)) (.sub (.v 0) (.v 1)))) (.add (.add (.mul (.v 0) (.v 0)) (.mul (.v 0) (.v 1))) (.mul (.v 1) (.v 1)))),
    ((.add (.add (.add (.add (.add (.mul (.mul (.mul (.c 2) (.v 0)) (.pw (.v 1) 2)) (.v 4)) (.add (.mul (.mul (.mul (.c 2) (.v 0)) (.pw (.v 1) 2)) (.v 5)) (.mul (.mul (.mul (.mul (.c 8) (.v 0)) (.v 1)) (.v 2)) (.v 4)))) (.add (.mul (.mul (.mul (.mul (.c 2) (.v 0)) (.v 1)) (.v 2)) (.v 5)) (.add (.mul (.mul (.mul (.c (-2)) (.v 0)) (.v 1)) (.v 3)) (.mul (.mul (.mul (.c (-3)) (.v 0)) (.v 1)) (.pw (.v 4) 3))))) (.add (.add (.mul (.mul (.mul (.mul (.c 3) (.v 0)) (.v 1)) (.pw (.v 4) 2)) (.v 5)) (.add (.neg (.mul (.mul (.mul (.v 0) (.v 1)) (.v 4)) (.pw (.v 5) 2))) (.neg (.mul (.mul (.v 0) (.v 1)) (.pw (.v 5) 3))))) (.add (.add (.mul (.mul (.mul (.c 2) (.v 0)) (.pw (.v 2) 2)) (.v 4)) (.mul (.mul (.mul (.c (-4)) (.v 0)) (.pw (.v 2) 2)) (.v 5))) (.add (.mul (.mul (.mul (.c (-4)) (.v 0)) (.v 2)) (.v 3)) (.mul (.mul (.mul (.c (-3)) (.v 0)) (.v 2)) (.pw (.v 4) 3)))))) (.add (.add (.add (.mul (.mul (.mul (.mul (.c (-3)) (.v 0)) (.v 2)) (.pw (.v 4) 2)) (.v 5)) (.add (.mul (.mul (.mul (.mul (.c (-5)) (.v 0)) (.v 2)) (.v 4)) (.pw (.v 5) 2)) (.mul (.mul (.v 0) (.v 2)) (.pw (.v 5) 3)))) (.add (.add (.mul (.mul (.mul (.mul (.c (-4)) (.v 0)) (.v 3)) (.v 4)) (.v 5)) (.mul (.mul (.mul (.c 2) (.v 0)) (.v 3)) (.pw (.v 5) 2))) (.add (.mul (.mul (.mul (.c 2) (.v 0)) (.pw (.v 4) 3)) (.pw (.v 5) 2)) (.mul (.mul (.c (-2)) (.pw (.v 1) 3)) (.v 4))))) (.add (.add (.mul (.mul (.mul (.c 4) (.pw (.v 1) 2)) (.v 2)) (.v 4)) (.add (.mul (.mul (.mul (.c 4) (.pw (.v 1) 2)) (.v 2)) (.v 5)) (.mul (.mul (.c (-8)) (.pw (.v 1) 2)) (.pw (.v 4) 3)))) (.add (.add (.mul (.mul (.mul (.c 2) (.pw (.v 1) 2)) (.pw (.v 4) 2)) (.v 5)) (.mul (.mul (.mul (.c 4) (.pw (.v 1) 2)) (.v 4)) (.pw (.v 5) 2))) (.add (.mul (.mul (.mul (.c 4) (.v 1)) (.pw (.v 2) 2)) (.v 4)) (.mul (.mul (.mul (.c (-2)) (.v 1)) (.pw (.v 2) 2)) (.v 5))))))) (.add (.add (.add (.add (.mul (.mul (.mul (.c (-4)) (.v 1)) (.v 2)) (.v 3)) (.add (.mul (.mul (.mul (.c (-14)) (.v 1)) (.v 2)) (.pw (.v 4) 3)) (.mul (.mul (.mul (.mul (.c (-4)) (.v 1)) (.v 2)) (.pw (.v 4) 2)) (.v 5)))) (.add (.mul (.mul (.mul (.mul (.c (-10)) (.v 1)) (.v 2)) (.v 4)) (.pw (.v 5) 2)) (.add (.mul (.mul (.mul (.c (-2)) (.v 1)) (.v 2)) (.pw (.v 5) 3)) (.mul (.mul (.mul (.c 8) (.v 1)) (.v 3)) (.pw (.v 4) 2))))) (.add (.add (.mul (.mul (.mul (.mul (.c (-8)) (.v 1)) (.v 3)) (.v 4)) (.v 5)) (.add (.mul (.mul (.mul (.c (-2)) (.v 1)) (.v 3)) (.pw (.v 5) 2)) (.mul (.mul (.c 3) (.v 1)) (.pw (.v 4) 5)))) (.add (.add (.mul (.mul (.mul (.c (-3)) (.v 1)) (.pw (.v 4) 4)) (.v 5)) (.mul (.mul (.mul (.c 5) (.v 1)) (.pw (.v 4) 3)) (.pw (.v 5) 2))) (.add (.mul (.mul (.v 1) (.pw (.v 4) 2)) (.pw (.v 5) 3)) (.mul (.mul (.c (-2)) (.pw (.v 2) 3)) (.v 5)))))) (.add (.add (.add (.mul (.mul (.c (-2)) (.pw (.v 2) 2)) (.v 3)) (.add (.mul (.mul (.c (-2)) (.pw (.v 2) 2)) (.pw (.v 4) 3)) (.mul (.mul (.mul (.c 2) (.pw (.v 2) 2)) (.pw (.v 4) 2)) (.v 5)))) (.add (.add (.mul (.mul (.c 2) (.pw (.v 2) 2)) (.pw (.v 5) 3)) (.mul (.mul (.mul (.c 10) (.v 2)) (.v 3)) (.pw (.v 4) 2))) (.add (.mul (.mul (.mul (.c 6) (.v 2)) (.v 3)) (.pw (.v 5) 2)) (.mul (.mul (.c 3) (.v 2)) (.pw (.v 4) 5))))) (.add (.add (.mul (.mul (.mul (.c 3) (.v 2)) (.pw (.v 4) 4)) (.v 5)) (.add (.mul (.mul (.mul (.c 5) (.v 2)) (.pw (.v 4) 3)) (.pw (.v 5) 2)) (.neg (.mul (.mul (.v 2) (.pw (.v 4) 2)) (.pw (.v 5) 3))))) (.add (.add (.mul (.mul (.c 4) (.pw (.v 3) 2)) (.v 5)) (.mul (.mul (.mul (.c 4) (.v 3)) (.pw (.v 4) 3)) (.v 5))) (.add (.mul (.mul (.mul (.c (-6)) (.v 3)) (.pw (.v 4) 2)) (.pw (.v 5) 2)) (.mul (.mul (.c (-2)) (.pw (.v 4) 5)) (.pw (.v 5) 2)))))))), .sub (.add (.add (.mul (.v 5) (.v 3)) (.mul (.v 5) (.v 3))) (.mul (.mul (.v 5) (.v 5)) (.sub (.v 2) (.v 1)))) (.add (.add (.mul (.v 2) (.v 2)) (.mul (.v 2) (.v 1))) (.mul (.v 1) (.v 1)))),
    ((.add (.add (.add (.add (.add (.add (.add (.pw (.v 0) 4) (.mul (.mul (.c 4) (.pw (.v 0) 3)) (.v 1))) (.add (.mul (.pw (.v 0) 3) (.v 2)) (.add (.neg (.mul (.pw (.v 0) 3) (.pw (.v 4) 2))) (.mul (.mul (.mul (.c (-2)) (.pw (.v 0) 3)) (.v 4)) (.v 6))))) (.add (.add (.neg (.mul (.pw (.v 0) 3) (.pw (.v 5) 2))) (.add (.mul (.pw (.v 0) 3) (.pw (.v 6) 2)) (.mul (.mul (.c 6) (.pw (.v 0) 2)) (.pw (.v 1) 2)))) (.add (.mul (.mul (.mul (.c 3) (.pw (.v 0) 2)) (.v 1)) (.v 2)) (.add (.mul (.mul (.mul (.c (-2)) (.pw (.v 0) 2)) (.v 1)) (.pw (.v 4) 2)) (.mul (.mul (.mul (.pw (.v 0) 2) (.v 1)) (.v 4)) (.v 5)))))) (.add (.add (.add (.mul (.mul (.mul (.mul (.c (-5)) (.pw (.v 0) 2)) (.v 1)) (.v 4)) (.v 6)) (.add (.mul (.mul (.mul (.c (-3)) (.pw (.v 0) 2)) (.v 1)) (.pw (.v 5) 2)) (.mul (.mul (.mul (.pw (.v 0) 2) (.v 1)) (.v 5)) (.v 6)))) (.add (.mul (.mul (.mul (.c 3) (.pw (.v 0) 2)) (.v 1)) (.pw (.v 6) 2)) (.add (.mul (.mul (.c (-3)) (.pw (.v 0) 2)) (.pw (.v 2) 2)) (.neg (.mul (.mul (.pw (.v 0) 2) (.v 2)) (.pw (.v 4) 2)))))) (.add (.add (.mul (.mul (.mul (.mul (.c (-4)) (.pw (.v 0) 2)) (.v 2)) (.v 4)) (.v 5)) (.add (.mul (.mul (.mul (.mul (.c (-4)) (.pw (.v 0) 2)) (.v 2)) (.v 4)) (.v 6)) (.mul (.mul (.mul (.mul (.c 2) (.pw (.v 0) 2)) (.v 2)) (.v 5)) (.v 6)))) (.add (.mul (.mul (.mul (.c 3) (.pw (.v 0) 2)) (.v 2)) (.pw (.v 6) 2)) (.add (.mul (.mul (.mul (.c (-4)) (.pw (.v 0) 2)) (.v 3)) (.v 4)) (.neg (.mul (.pw (.v 0) 2) (.pw (.v 4) 4)))))))) (.add (.add (.add (.add (.mul (.mul (.mul (.c 4) (.pw (.v 0) 2)) (.pw (.v 4) 3)) (.v 6)) (.mul (.mul (.mul (.c 2) (.pw (.v 0) 2)) (.pw (.v 4) 2)) (.pw (.v 5) 2))) (.add (.mul (.mul (.mul (.c (-2)) (.pw (.v 0) 2)) (.pw (.v 4) 2)) (.pw (.v 6) 2)) (.add (.mul (.mul (.pw (.v 0) 2) (.v 4)) (.pw (.v 5) 3)) (.mul (.mul (.mul (.pw (.v 0) 2) (.v 4)) (.pw (.v 5) 2)) (.v 6))))) (.add (.add (.neg (.mul (.mul (.pw (.v 0) 2) (.pw (.v 5) 3)) (.v 6))) (.add (.neg (.mul (.mul (.pw (.v 0) 2) (.pw (.v 5) 2)) (.pw (.v 6) 2))) (.mul (.mul (.c 4) (.v 0)) (.pw (.v 1) 3)))) (.add (.mul (.mul (.mul (.c 3) (.v 0)) (.pw (.v 1) 2)) (.v 2)) (.add (.mul (.mul (.mul (.c (-2)) (.v 0)) (.pw (.v 1) 2)) (.pw (.v 4) 2)) (.mul (.mul (.mul (.mul (.c (-4)) (.v 0)) (.pw (.v 1) 2)) (.v 4)) (.v 6)))))) (.add (.add (.add (.mul (.mul (.mul (.c (-4)) (.v 0)) (.pw (.v 1) 2)) (.pw (.v 5) 2)) (.add (.mul (.mul (.mul (.mul (.c 2) (.v 0)) (.pw (.v 1) 2)) (.v 5)) (.v 6)) (.mul (.mul (.mul (.c 3) (.v 0)) (.pw (.v 1) 2)) (.pw (.v 6) 2)))) (.add (.mul (.mul (.mul (.c (-6)) (.v 0)) (.v 1)) (.pw (.v 2) 2)) (.add (.neg (.mul (.mul (.mul (.v 0) (.v 1)) (.v 2)) (.pw (.v 4) 2))) (.mul (.mul (.mul (.mul (.mul (.c (-8)) (.v 0)) (.v 1)) (.v 2)) (.v 4)) (.v 5))))) (.add (.add (.mul (.mul (.mul (.mul (.mul (.c (-6)) (.v 0)) (.v 1)) (.v 2)) (.v 4)) (.v 6)) (.add (.neg (.mul (.mul (.mul (.v 0) (.v 1)) (.v 2)) (.pw (.v 5) 2))) (.mul (.mul (.mul (.mul (.mul (.c 6) (.v 0)) (.v 1)) (.v 2)) (.v 5)) (.v 6)))) (.add (.mul (.mul (.mul (.mul (.c 6) (.v 0)) (.v 1)) (.v 2)) (.pw (.v 6) 2)) (.add (.mul (.mul (.mul (.mul (.c (-6)) (.v 0)) (.v 1)) (.v 3)) (.v 4)) (.mul (.mul (.mul (.mul (.c 2) (.v 0)) (.v 1)) (.v 3)) (.v 5)))))))) (.add (.add (.add (.add (.add (.neg (.mul (.mul (.v 0) (.v 1)) (.pw (.v 4) 4))) (.mul (.mul (.mul (.v 0) (.v 1)) (.pw (.v 4) 3)) (.v 5))) (.add (.mul (.mul (.mul (.mul (.c 5) (.v 0)) (.v 1)) (.pw (.v 4) 3)) (.v 6)) (.add (.mul (.mul (.mul (.mul (.c 2) (.v 0)) (.v 1)) (.pw (.v 4) 2)) (.pw (.v 5) 2)) (.mul (.mul (.mul (.mul (.mul (.c (-3)) (.v 0)) (.v 1)) (.pw (.v 4) 2)) (.v 5)) (.v 6))))) (.add (.add (.mul (.mul (.mul (.mul (.c (-4)) (.v 0)) (.v 1)) (.pw (.v 4) 2)) (.pw (.v 6) 2)) (.add (.mul (.mul (.mul (.v 0) (.v 1)) (.v 4)) (.pw (.v 5) 3)) (.mul (.mul (.mul (.mul (.mul (.c 3) (.v 0)) (.v 1)) (.v 4)) (.pw (.v 5) 2)) (.v 6)))) (.add (.mul (.mul (.v 0) (.v 1)) (.pw (.v 5) 4)) (.add (.neg (.mul (.mul (.mul (.v 0) (.v 1)) (.pw (.v 5) 3)) (.v 6))) (.mul (.mul (.mul (.mul (.c (-2)) (.v 0)) (.v 1)) (.pw (.v 5) 2)) (.pw (.v 6) 2)))))) (.add (.add (.add (.mul (.mul (.c (-5)) (.v 0)) (.pw (.v 2) 3)) (.add (.mul (.mul (.mul (.c 3) (.v 0)) (.pw (.v 2) 2)) (.pw (.v 4) 2)) (.mul (.mul (.mul (.mul (.c (-4)) (.v 0)) (.pw (.v 2) 2)) (.v 4)) (.v 5)))) (.add (.mul (.mul (.mul (.mul (.c (-2)) (.v 0)) (.pw (.v 2) 2)) (.v 4)) (.v 6)) (.add (.mul (.mul (.mul (.c 5) (.v 0)) (.pw (.v 2) 2)) (.pw (.v 5) 2)) (.mul (.mul (.mul (.mul (.c 4) (.v 0)) (.pw (.v 2) 2)) (.v 5)) (.v 6))))) (.add (.add (.mul (.mul (.mul (.c 3) (.v 0)) (.pw (.v 2) 2)) (.pw (.v 6) 2)) (.add (.mul (.mul (.mul (.mul (.c (-4)) (.v 0)) (.v 2)) (.v 3)) (.v 4)) (.mul (.mul (.mul (.mul (.c 4) (.v 0)) (.v 2)) (.v 3)) (.v 5)))) (.add (.mul (.mul (.mul (.mul (.c 5) (.v 0)) (.v 2)) (.pw (.v 4) 3)) (.v 5)) (.add (.mul (.mul (.mul (.mul (.c 5) (.v 0)) (.v 2)) (.pw (.v 4) 3)) (.v 6)) (.mul (.mul (.mul (.mul (.mul (.c (-3)) (.v 0)) (.v 2)) (.pw (.v 4) 2)) (.v 5)) (.v 6))))))) (.add (.add (.add (.add (.mul (.mul (.mul (.mul (.c (-4)) (.v 0)) (.v 2)) (.pw (.v 4) 2)) (.pw (.v 6) 2)) (.add (.mul (.mul (.mul (.mul (.c 3) (.v 0)) (.v 2)) (.v 4)) (.pw (.v 5) 3)) (.mul (.mul (.mul (.mul (.v 0) (.v 2)) (.v 4)) (.pw (.v 5) 2)) (.v 6)))) (.add (.neg (.mul (.mul (.v 0) (.v 2)) (.pw (.v 5) 4))) (.add (.mul (.mul (.mul (.mul (.c (-3)) (.v 0)) (.v 2)) (.pw (.v 5) 3)) (.v 6)) (.mul (.mul (.mul (.mul (.c (-2)) (.v 0)) (.v 2)) (.pw (.v 5) 2)) (.pw (.v 6) 2))))) (.add (.add (.mul (.mul (.mul (.c 2) (.v 0)) (.v 3)) (.pw (.v 4) 3)) (.add (.mul (.mul (.mul (.mul (.c 2) (.v 0)) (.v 3)) (.pw (.v 4) 2)) (.v 6)) (.mul (.mul (.mul (.mul (.c 4) (.v 0)) (.v 3)) (.v 4)) (.pw (.v 5) 2)))) (.add (.mul (.mul (.mul (.c (-2)) (.v 0)) (.v 3)) (.pw (.v 5) 3)) (.add (.mul (.mul (.mul (.mul (.c (-2)) (.v 0)) (.v 3)) (.pw (.v 5) 2)) (.v 6)) (.mul (.v 0) (.pw (.v 4) 6)))))) (.add (.add (.add (.mul (.mul (.mul (.c (-2)) (.v 0)) (.pw (.v 4) 5)) (.v 6)) (.add (.neg (.mul (.mul (.v 0) (.pw (.v 4) 4)) (.pw (.v 5) 2))) (.mul (.mul (.v 0) (.pw (.v 4) 4)) (.pw (.v 6) 2)))) (.add (.mul (.mul (.mul (.c (-2)) (.v 0)) (.pw (.v 4) 3)) (.pw (.v 5) 3)) (.add (.mul (.mul (.mul (.mul (.c (-2)) (.v 0)) (.pw (.v 4) 3)) (.pw (.v 5) 2)) (.v 6)) (.mul (.mul (.mul (.mul (.c 2) (.v 0)) (.pw (.v 4) 2)) (.pw (.v 5) 3)) (.v 6))))) (.add (.add (.mul (.mul (.mul (.mul (.c 2) (.v 0)) (.pw (.v 4) 2)) (.pw (.v 5) 2)) (.pw (.v 6) 2)) (.add (.pw (.v 1) 4) (.mul (.pw (.v 1) 3) (.v 2)))) (.add (.neg (.mul (.pw (.v 1) 3) (.pw (.v 4) 2))) (.add (.neg (.mul (.mul (.pw (.v 1) 3) (.v 4)) (.v 5))) (.neg (.mul (.mul (.pw (.v 1) 3) (.v 4)) (.v 6)))))))))) (.add (.add (.add (.add (.add (.add (.mul (.mul (.c (-2)) (.pw (.v 1) 3)) (.pw (.v 5) 2)) (.mul (.mul (.pw (.v 1) 3) (.v 5)) (.v 6))) (.add (.mul (.pw (.v 1) 3) (.pw (.v 6) 2)) (.add (.mul (.mul (.c (-3)) (.pw (.v 1) 2)) (.pw (.v 2) 2)) (.neg (.mul (.mul (.pw (.v 1) 2) (.v 2)) (.pw (.v 4) 2)))))) (.add (.add (.mul (.mul (.mul (.mul (.c (-6)) (.pw (.v 1) 2)) (.v 2)) (.v 4)) (.v 5)) (.add (.mul (.mul (.mul (.mul (.c (-2)) (.pw (.v 1) 2)) (.v 2)) (.v 4)) (.v 6)) (.mul (.mul (.mul (.c (-2)) (.pw (.v 1) 2)) (.v 2)) (.pw (.v 5) 2)))) (.add (.mul (.mul (.mul (.mul (.c 4) (.pw (.v 1) 2)) (.v 2)) (.v 5)) (.v 6)) (.add (.mul (.mul (.mul (.c 3) (.pw (.v 1) 2)) (.v 2)) (.pw (.v 6) 2)) (.mul (.mul (.mul (.c (-2)) (.pw (.v 1) 2)) (.v 3)) (.v 4)))))) (.add (.add (.add (.mul (.mul (.mul (.c 2) (.pw (.v 1) 2)) (.v 3)) (.v 5)) (.add (.mul (.mul (.c 2) (.pw (.v 1) 2)) (.pw (.v 4) 4)) (.mul (.mul (.mul (.c 5) (.pw (.v 1) 2)) (.pw (.v 4) 3)) (.v 5)))) (.add (.mul (.mul (.pw (.v 1) 2) (.pw (.v 4) 3)) (.v 6)) (.add (.mul (.mul (.pw (.v 1) 2) (.pw (.v 4) 2)) (.pw (.v 5) 2)) (.mul (.mul (.mul (.mul (.c (-3)) (.pw (.v 1) 2)) (.pw (.v 4) 2)) (.v 5)) (.v 6))))) (.add (.add (.mul (.mul (.mul (.c (-2)) (.pw (.v 1) 2)) (.pw (.v 4) 2)) (.pw (.v 6) 2)) (.add (.mul (.mul (.mul (.c (-2)) (.pw (.v 1) 2)) (.v 4)) (.pw (.v 5) 3)) (.mul (.mul (.mul (.mul (.c 2) (.pw (.v 1) 2)) (.v 4)) (.pw (.v 5) 2)) (.v 6)))) (.add (.neg (.mul (.mul (.pw (.v 1) 2) (.pw (.v 5) 2)) (.pw (.v 6) 2))) (.add (.mul (.mul (.c (-5)) (.v 1)) (.pw (.v 2) 3)) (.mul (.mul (.mul (.c 3) (.v 1)) (.pw (.v 2) 2)) (.pw (.v 4) 2))))))) (.add (.add (.add (.add (.mul (.mul (.mul (.mul (.c (-5)) (.v 1)) (.pw (.v 2) 2)) (.v 4)) (.v 5)) (.add (.neg (.mul (.mul (.mul (.v 1) (.pw (.v 2) 2)) (.v 4)) (.v 6))) (.mul (.mul (.mul (.c 4) (.v 1)) (.pw (.v 2) 2)) (.pw (.v 5) 2)))) (.add (.mul (.mul (.mul (.mul (.c 5) (.v 1)) (.pw (.v 2) 2)) (.v 5)) (.v 6)) (.add (.mul (.mul (.mul (.c 3) (.v 1)) (.pw (.v 2) 2)) (.pw (.v 6) 2)) (.mul (.mul (.mul (.mul (.c (-2)) (.v 1)) (.v 2)) (.v 3)) (.v 4))))) (.add (.add (.mul (.mul (.mul (.mul (.c 6) (.v 1)) (.v 2)) (.v 3)) (.v 5)) (.add (.mul (.mul (.mul (.mul (.c 4) (.v 1)) (.v 2)) (.pw (.v 4) 3)) (.v 5)) (.mul (.mul (.mul (.mul (.c 2) (.v 1)) (.v 2)) (.pw (.v 4) 3)) (.v 6)))) (.add (.neg (.mul (.mul (.mul (.v 1) (.v 2)) (.pw (.v 4) 2)) (.pw (.v 5) 2))) (.add (.mul (.mul (.mul (.mul (.mul (.c (-6)) (.v 1)) (.v 2)) (.pw (.v 4) 2)) (.v 5)) (.v 6)) (.mul (.mul (.mul (.mul (.c (-4)) (.v 1)) (.v 2)) (.pw (.v 4) 2)) (.pw (.v 6) 2)))))) (.add (.add (.add (.mul (.mul (.mul (.mul (.c 6) (.v 1)) (.v 2)) (.v 4)) (.pw (.v 5) 3)) (.add (.mul (.mul (.mul (.mul (.mul (.c 2) (.v 1)) (.v 2)) (.v 4)) (.pw (.v 5) 2)) (.v 6)) (.mul (.mul (.mul (.c 2) (.v 1)) (.v 2)) (.pw (.v 5) 4)))) (.add (.mul (.mul (.mul (.mul (.c (-2)) (.v 1)) (.v 2)) (.pw (.v 5) 3)) (.v 6)) (.add (.mul (.mul (.mul (.mul (.c (-2)) (.v 1)) (.v 2)) (.pw (.v 5) 2)) (.pw (.v 6) 2)) (.mul (.mul (.mul (.c (-4)) (.v 1)) (.v 3)) (.pw (.v 4) 3))))) (.add (.add (.mul (.mul (.mul (.mul (.c (-6)) (.v 1)) (.v 3)) (.pw (.v 4) 2)) (.v 5)) (.add (.mul (.mul (.mul (.mul (.c 2) (.v 1)) (.v 3)) (.pw (.v 4) 2)) (.v 6)) (.mul (.mul (.mul (.mul (.c 8) (.v 1)) (.v 3)) (.v 4)) (.pw (.v 5) 2)))) (.add (.mul (.mul (.mul (.c 2) (.v 1)) (.v 3)) (.pw (.v 5) 3)) (.add (.mul (.mul (.mul (.mul (.c (-2)) (.v 1)) (.v 3)) (.pw (.v 5) 2)) (.v 6)) (.neg (.mul (.v 1) (.pw (.v 4) 6))))))))) (.add (.add (.add (.add (.add (.mul (.mul (.mul (.c (-2)) (.v 1)) (.pw (.v 4) 5)) (.v 5)) (.mul (.mul (.v 1) (.pw (.v 4) 4)) (.pw (.v 5) 2))) (.add (.mul (.mul (.mul (.mul (.c 2) (.v 1)) (.pw (.v 4) 4)) (.v 5)) (.v 6)) (.add (.mul (.mul (.v 1) (.pw (.v 4) 4)) (.pw (.v 6) 2)) (.neg (.mul (.mul (.v 1) (.pw (.v 4) 3)) (.pw (.v 5) 3)))))) (.add (.add (.mul (.mul (.mul (.mul (.c (-3)) (.v 1)) (.pw (.v 4) 3)) (.pw (.v 5) 2)) (.v 6)) (.add (.neg (.mul (.mul (.v 1) (.pw (.v 4) 2)) (.pw (.v 5) 4))) (.mul (.mul (.mul (.v 1) (.pw (.v 4) 2)) (.pw (.v 5) 3)) (.v 6)))) (.add (.mul (.mul (.mul (.mul (.c 2) (.v 1)) (.pw (.v 4) 2)) (.pw (.v 5) 2)) (.pw (.v 6) 2)) (.add (.mul (.c (-2)) (.pw (.v 2) 4)) (.mul (.mul (.c 3) (.pw (.v 2) 3)) (.pw (.v 4) 2)))))) (.add (.add (.add (.mul (.mul (.c 4) (.pw (.v 2) 3)) (.pw (.v 5) 2)) (.add (.mul (.mul (.mul (.c 2) (.pw (.v 2) 3)) (.v 5)) (.v 6)) (.mul (.pw (.v 2) 3) (.pw (.v 6) 2)))) (.add (.mul (.mul (.mul (.c 4) (.pw (.v 2) 2)) (.v 3)) (.v 5)) (.add (.mul (.mul (.mul (.c 3) (.pw (.v 2) 2)) (.pw (.v 4) 3)) (.v 5)) (.mul (.mul (.pw (.v 2) 2) (.pw (.v 4) 3)) (.v 6))))) (.add (.add (.mul (.mul (.mul (.c (-4)) (.pw (.v 2) 2)) (.pw (.v 4) 2)) (.pw (.v 5) 2)) (.add (.mul (.mul (.mul (.mul (.c (-3)) (.pw (.v 2) 2)) (.pw (.v 4) 2)) (.v 5)) (.v 6)) (.mul (.mul (.mul (.c (-2)) (.pw (.v 2) 2)) (.pw (.v 4) 2)) (.pw (.v 6) 2)))) (.add (.mul (.mul (.c (-2)) (.pw (.v 2) 2)) (.pw (.v 5) 4)) (.add (.mul (.mul (.mul (.c (-2)) (.pw (.v 2) 2)) (.pw (.v 5) 3)) (.v 6)) (.neg (.mul (.mul (.pw (.v 2) 2) (.pw (.v 5) 2)) (.pw (.v 6) 2)))))))) (.add (.add (.add (.add (.mul (.mul (.mul (.c 2) (.v 2)) (.v 3)) (.pw (.v 4) 3)) (.add (.mul (.mul (.mul (.mul (.c 2) (.v 2)) (.v 3)) (.pw (.v 4) 2)) (.v 6)) (.mul (.mul (.mul (.c (-6)) (.v 2)) (.v 3)) (.pw (.v 5) 3)))) (.add (.mul (.mul (.mul (.mul (.c (-2)) (.v 2)) (.v 3)) (.pw (.v 5) 2)) (.v 6)) (.add (.neg (.mul (.mul (.v 2) (.pw (.v 4) 5)) (.v 5))) (.neg (.mul (.mul (.v 2) (.pw (.v 4) 5)) (.v 6)))))) (.add (.add (.mul (.mul (.mul (.v 2) (.pw (.v 4) 4)) (.v 5)) (.v 6)) (.add (.mul (.mul (.v 2) (.pw (.v 4) 4)) (.pw (.v 6) 2)) (.mul (.mul (.mul (.c (-3)) (.v 2)) (.pw (.v 4) 3)) (.pw (.v 5) 3)))) (.add (.neg (.mul (.mul (.mul (.v 2) (.pw (.v 4) 3)) (.pw (.v 5) 2)) (.v 6))) (.add (.mul (.mul (.v 2) (.pw (.v 4) 2)) (.pw (.v 5) 4)) (.mul (.mul (.mul (.mul (.c 3) (.v 2)) (.pw (.v 4) 2)) (.pw (.v 5) 3)) (.v 6)))))) (.add (.add (.add (.mul (.mul (.mul (.mul (.c 2) (.v 2)) (.pw (.v 4) 2)) (.pw (.v 5) 2)) (.pw (.v 6) 2)) (.add (.mul (.mul (.c 4) (.pw (.v 3) 2)) (.pw (.v 4) 2)) (.mul (.mul (.c (-4)) (.pw (.v 3) 2)) (.pw (.v 5) 2)))) (.add (.mul (.mul (.c 2) (.v 3)) (.pw (.v 4) 5)) (.add (.mul (.mul (.mul (.c (-2)) (.v 3)) (.pw (.v 4) 4)) (.v 6)) (.mul (.mul (.mul (.c (-4)) (.v 3)) (.pw (.v 4) 3)) (.pw (.v 5) 2))))) (.add (.add (.mul (.mul (.mul (.c 2) (.v 3)) (.pw (.v 4) 2)) (.pw (.v 5) 3)) (.add (.mul (.mul (.mul (.mul (.c 2) (.v 3)) (.pw (.v 4) 2)) (.pw (.v 5) 2)) (.v 6)) (.mul (.pw (.v 4) 5) (.pw (.v 5) 3)))) (.add (.mul (.mul (.pw (.v 4) 5) (.pw (.v 5) 2)) (.v 6)) (.add (.neg (.mul (.mul (.pw (.v 4) 4) (.pw (.v 5) 3)) (.v 6))) (.neg (.mul (.mul (.pw (.v 4) 4) (.pw (.v 5) 2)) (.pw (.v 6) 2))))))))))), .sub (.mul (.v 6) (.sub (.sub (.sub (.mul (.v 4) (.v 4)) (.v 0)) (.v 1)) (.v 2))) (.sub (.sub (.mul (.v 4) (.sub (.v 1) (.sub (.sub (.mul (.v 4) (.v 4)) (.v 0)) (.v 1)))) (.v 3)) (.add (.v 3) (.mul (.v 5) (.sub (.v 2) (.v 1)))))),
    ((.add (.add (.add (.add (.add (.neg (.mul (.pw (.v 0) 3) (.v 1))) (.add (.mul (.pw (.v 0) 3) (.v 2)) (.mul (.pw (.v 0) 3) (.pw (.v 4) 2)))) (.add (.neg (.mul (.pw (.v 0) 3) (.pw (.v 6) 2))) (.add (.mul (.mul (.c (-3)) (.pw (.v 0) 2)) (.pw (.v 1) 2)) (.mul (.mul (.mul (.c 6) (.pw (.v 0) 2)) (.v 1)) (.pw (.v 4) 2))))) (.add (.add (.mul (.mul (.mul (.c (-3)) (.pw (.v 0) 2)) (.v 1)) (.pw (.v 6) 2)) (.add (.mul (.mul (.c 3) (.pw (.v 0) 2)) (.pw (.v 2) 2)) (.mul (.mul (.mul (.c (-3)) (.pw (.v 0) 2)) (.v 2)) (.pw (.v 6) 2)))) (.add (.mul (.mul (.c (-3)) (.pw (.v 0) 2)) (.pw (.v 4) 4)) (.add (.mul (.mul (.mul (.c 3) (.pw (.v 0) 2)) (.pw (.v 4) 2)) (.pw (.v 6) 2)) (.mul (.mul (.c (-3)) (.v 0)) (.pw (.v 1) 3)))))) (.add (.add (.add (.mul (.mul (.mul (.c (-3)) (.v 0)) (.pw (.v 1) 2)) (.v 2)) (.add (.mul (.mul (.mul (.c 9) (.v 0)) (.pw (.v 1) 2)) (.pw (.v 4) 2)) (.mul (.mul (.mul (.c (-3)) (.v 0)) (.pw (.v 1) 2)) (.pw (.v 6) 2)))) (.add (.mul (.mul (.mul (.c 3) (.v 0)) (.v 1)) (.pw (.v 2) 2)) (.add (.mul (.mul (.mul (.mul (.c 6) (.v 0)) (.v 1)) (.v 2)) (.pw (.v 4) 2)) (.mul (.mul (.mul (.mul (.c (-6)) (.v 0)) (.v 1)) (.v 2)) (.pw (.v 6) 2))))) (.add (.add (.mul (.mul (.mul (.c (-9)) (.v 0)) (.v 1)) (.pw (.v 4) 4)) (.add (.mul (.mul (.mul (.mul (.c 6) (.v 0)) (.v 1)) (.pw (.v 4) 2)) (.pw (.v 6) 2)) (.mul (.mul (.c 3) (.v 0)) (.pw (.v 2) 3)))) (.add (.mul (.mul (.mul (.c (-3)) (.v 0)) (.pw (.v 2) 2)) (.pw (.v 4) 2)) (.add (.mul (.mul (.mul (.c (-3)) (.v 0)) (.pw (.v 2) 2)) (.pw (.v 6) 2)) (.mul (.mul (.mul (.c (-3)) (.v 0)) (.v 2)) (.pw (.v 4) 4))))))) (.add (.add (.add (.add (.mul (.mul (.mul (.mul (.c 6) (.v 0)) (.v 2)) (.pw (.v 4) 2)) (.pw (.v 6) 2)) (.add (.mul (.mul (.c 3) (.v 0)) (.pw (.v 4) 6)) (.mul (.mul (.mul (.c (-3)) (.v 0)) (.pw (.v 4) 4)) (.pw (.v 6) 2)))) (.add (.neg (.pw (.v 1) 4)) (.add (.mul (.mul (.c (-2)) (.pw (.v 1) 3)) (.v 2)) (.mul (.mul (.c 4) (.pw (.v 1) 3)) (.pw (.v 4) 2))))) (.add (.add (.neg (.mul (.pw (.v 1) 3) (.pw (.v 6) 2))) (.add (.mul (.mul (.mul (.c 6) (.pw (.v 1) 2)) (.v 2)) (.pw (.v 4) 2)) (.mul (.mul (.mul (.c (-3)) (.pw (.v 1) 2)) (.v 2)) (.pw (.v 6) 2)))) (.add (.mul (.mul (.c (-6)) (.pw (.v 1) 2)) (.pw (.v 4) 4)) (.add (.mul (.mul (.mul (.c 3) (.pw (.v 1) 2)) (.pw (.v 4) 2)) (.pw (.v 6) 2)) (.mul (.mul (.c 2) (.v 1)) (.pw (.v 2) 3)))))) (.add (.add (.add (.mul (.mul (.mul (.c (-3)) (.v 1)) (.pw (.v 2) 2)) (.pw (.v 6) 2)) (.add (.mul (.mul (.mul (.c (-6)) (.v 1)) (.v 2)) (.pw (.v 4) 4)) (.mul (.mul (.mul (.mul (.c 6) (.v 1)) (.v 2)) (.pw (.v 4) 2)) (.pw (.v 6) 2)))) (.add (.mul (.mul (.c 4) (.v 1)) (.pw (.v 4) 6)) (.add (.mul (.mul (.mul (.c (-3)) (.v 1)) (.pw (.v 4) 4)) (.pw (.v 6) 2)) (.pw (.v 2) 4)))) (.add (.add (.mul (.mul (.c (-2)) (.pw (.v 2) 3)) (.pw (.v 4) 2)) (.add (.neg (.mul (.pw (.v 2) 3) (.pw (.v 6) 2))) (.mul (.mul (.mul (.c 3) (.pw (.v 2) 2)) (.pw (.v 4) 2)) (.pw (.v 6) 2)))) (.add (.add (.mul (.mul (.c 2) (.v 2)) (.pw (.v 4) 6)) (.mul (.mul (.mul (.c (-3)) (.v 2)) (.pw (.v 4) 4)) (.pw (.v 6) 2))) (.add (.neg (.pw (.v 4) 8)) (.mul (.pw (.v 4) 6) (.pw (.v 6) 2)))))))), .sub (.mul (.v 7) (.sub (.sub (.sub (.mul (.v 5) (.v 5)) (.v 1)) (.v 2)) (.v 0))) (.sub (.sub (.mul (.v 5) (.sub (.v 1) (.sub (.sub (.mul (.v 5) (.v 5)) (.v 1)) (.v 2)))) (.v 3)) (.add (.v 3) (.mul (.v 4) (.sub (.v 0) (.v 1))))))] ⟨sub_zero_iff.2 r1, sub_zero_iff.2 r2, sub_zero_iff.2 hs, sub_zero_iff.2 ht, trivial⟩ (by kernel_rfl))
theorem spX {F : Type} [CR F] (x h m k s : F) (r2 : (((m * k) * h) + ((m * k) * h)) = (((x * x) + (x * (x + (h + h)))) + ((x + (h + h)) * (x + (h + h))))) (rs : ((((k + m) * h) + ((k + m) * h)) * s) = ((((x + (h + h)) * (x + (h + h))) + ((x + (h + h)) * (x + (h + h)))) + ((x + (h + h)) * (x + (h + h))))) : (((((k + m) * h) + ((k + m) * h)) * (((k + m) * h) + ((k + m) * h))) * ((((((m * m) - x) - (x + (h + h))) - (((k * k) - x) - (x + (h + h)))) * ((((m * m) - x) - (x + (h + h))) - (((k * k) - x) - (x + (h + h))))) * (((s * s) - (x + (h + h))) - (x + (h + h))))) = (((((k + m) * h) + ((k + m) * h)) * (((k + m) * h) + ((k + m) * h))) * (((((m * (x - (((m * m) - x) - (x + (h + h))))) - ((k - m) * h)) - ((k * (x - (((k * k) - x) - (x + (h + h))))) + ((k - m) * h))) * (((m * (x - (((m * m) - x) - (x + (h + h))))) - ((k - m) * h)) - ((k * (x - (((k * k) - x) - (x + (h + h))))) + ((k - m) * h)))) - ((((((m * m) - x) - (x + (h + h))) - (((k * k) - x) - (x + (h + h)))) * ((((m * m) - x) - (x + (h + h))) - (((k * k) - x) - (x + (h + h))))) * ((((k * k) - x) - (x + (h + h))) + (((m * m) - x) - (x + (h + h))))))) :=
  sub_zero_iff.1 (lin [x, h, m, k, s] (.sub (.mul (.mul (.add (.mul (.add (.v 3) (.v 2)) (.v 1)) (.mul (.add (.v 3) (.v 2)) (.v 1))) (.add (.mul (.add (.v 3) (.v 2)) (.v 1)) (.mul (.add (.v 3) (.v 2)) (.v 1)))) (.mul (.mul (.sub (.sub (.sub (.mul (.v 2) (.v 2)) (.v 0)) (.add (.v 0) (.add (.v 1) (.v 1)))) (.sub (.sub (.mul (.v 3) (.v 3)) (.v 0)) (.add (.v 0) (.add (.v 1) (.v 1))))) (.sub (.sub (.sub (.mul (.v 2) (.v 2)) (.v 0)) (.add (.v 0) (.add (.v 1) (.v 1)))) (.sub (.sub (.mul (.v 3) (.v 3)) (.v 0)) (.add (.v 0) (.add (.v 1) (.v 1)))))) (.sub (.sub (.mul (.v 4) (.v 4)) (.add (.v 0) (.add (.v 1) (.v 1)))) (.add (.v 0) (.add (.v 1) (.v 1)))))) (.mul (.mul (.add (.mul (.add (.v 3) (.v 2)) (.v 1)) (.mul (.add (.v 3) (.v 2)) (.v 1))) (.add (.mul (.add (.v 3) (.v 2)) (.v 1)) (.mul (.add (.v 3) (.v 2)) (.v 1)))) (.sub (.mul (.sub (.sub (.mul (.v 2) (.sub (.v 0) (.sub (.sub (.mul (.v 2) (.v 2)) (.v 0)) (.add (.v 0) (.add (.v 1) (.v 1)))))) (.mul (.sub (.v 3) (.v 2)) (.v 1))) (.add (.mul (.v 3) (.sub (.v 0) (.sub (.sub (.mul (.v 3) (.v 3)) (.v 0)) (.add (.v 0) (.add (.v 1) (.v 1)))))) (.mul (.sub (.v 3) (.v 2)) (.v 1)))) (.sub (.sub (.mul (.v 2) (.sub (.v 0) (.sub (.sub (.mul (.v 2) (.v 2)) (.v 0)) (.add (.v 0) (.add (.v 1) (.v 1)))))) (.mul (.sub (.v 3) (.v 2)) (.v 1))) (.add (.mul (.v 3) (.sub (.v 0) (.sub (.sub (.mul (.v 3) (.v 3)) (.v 0)) (.add (.v 0) (.add (.v 1) (.v 1)))))) (.mul (.sub (.v 3) (.v 2)) (.v 1))))) (.mul (.mul (.sub (.sub (.sub (.mul (.v 2) (.v 2)) (.v 0)) (.add (.v 0) (.add (.v 1) (.v 1)))) (.sub (.sub (.mul (.v 3) (.v 3)) (.v 0)) (.add (.v 0) (.add (.v 1) (.v 1))))) (.sub (.sub (.sub (.mul (.v 2) (.v 2)) (.v 0)) (.add (.v 0) (.add (.v 1) (.v 1)))) (.sub (.sub (.mul (.v 3) (.v 3)) (.v 0)) (.add (.v 0) (.add (.v 1) (.v 1)))))) (.add (.sub (.sub (.mul (.v 3) (.v 3)) (.v 0)) (.add (.v 0) (.add (.v 1) (.v 1)))) (.sub (.sub (.mul (.v 2) (.v 2)) (.v 0)) (.add (.v 0) (.add (.v 1) (.v 1))))))))) [((.add (.add (.add (.mul (.mul (.c (-3)) (.pw (.v 0) 2)) (.pw (.v 2) 4)) (.add (.mul (.mul (.mul (.c 6) (.pw (.v 0) 2)) (.pw (.v 2) 2)) (.pw (.v 3) 2)) (.mul (.mul (.c (-3)) (.pw (.v 0) 2)) (.pw (.v 3) 4)))) (.add (.mul (.mul (.mul (.c (-18)) (.v 0)) (.v 1)) (.pw (.v 2) 4)) (.add (.mul (.mul (.mul (.mul (.c 36) (.v 0)) (.v 1)) (.pw (.v 2) 2)) (.pw (.v 3) 2)) (.mul (.mul (.mul (.c (-18)) (.v 0)) (.v 1)) (.pw (.v 3) 4))))) (.add (.add (.mul (.mul (.c (-20)) (.pw (.v 1) 2)) (.pw (.v 2) 4)) (.add (.mul (.mul (.mul (.c 40) (.pw (.v 1) 2)) (.pw (.v 2) 2)) (.pw (.v 3) 2)) (.mul (.mul (.c (-20)) (.pw (.v 1) 2)) (.pw (.v 3) 4)))) (.add (.mul (.mul (.mul (.c (-2)) (.v 1)) (.pw (.v 2) 5)) (.v 3)) (.add (.mul (.mul (.mul (.c 4) (.v 1)) (.pw (.v 2) 3)) (.pw (.v 3) 3)) (.mul (.mul (.mul (.c (-2)) (.v 1)) (.v 2)) (.pw (.v 3) 5)))))), .sub (.add (.mul (.mul (.v 2) (.v 3)) (.v 1)) (.mul (.mul (.v 2) (.v 3)) (.v 1))) (.add (.add (.mul (.v 0) (.v 0)) (.mul (.v 0) (.add (.v 0) (.add (.v 1) (.v 1))))) (.mul (.add (.v 0) (.add (.v 1) (.v 1))) (.add (.v 0) (.add (.v 1) (.v 1)))))),
    ((.add (.add (.add (.mul (.mul (.c 3) (.pw (.v 0) 2)) (.pw (.v 2) 4)) (.add (.mul (.mul (.mul (.c (-6)) (.pw (.v 0) 2)) (.pw (.v 2) 2)) (.pw (.v 3) 2)) (.mul (.mul (.c 3) (.pw (.v 0) 2)) (.pw (.v 3) 4)))) (.add (.add (.mul (.mul (.mul (.c 12) (.v 0)) (.v 1)) (.pw (.v 2) 4)) (.mul (.mul (.mul (.mul (.c (-24)) (.v 0)) (.v 1)) (.pw (.v 2) 2)) (.pw (.v 3) 2))) (.add (.mul (.mul (.mul (.c 12) (.v 0)) (.v 1)) (.pw (.v 3) 4)) (.mul (.mul (.c 12) (.pw (.v 1) 2)) (.pw (.v 2) 4))))) (.add (.add (.add (.mul (.mul (.mul (.c (-24)) (.pw (.v 1) 2)) (.pw (.v 2) 2)) (.pw (.v 3) 2)) (.mul (.mul (.c 12) (.pw (.v 1) 2)) (.pw (.v 3) 4))) (.add (.mul (.mul (.mul (.c 2) (.v 1)) (.pw (.v 2) 5)) (.v 4)) (.mul (.mul (.mul (.mul (.c 2) (.v 1)) (.pw (.v 2) 4)) (.v 3)) (.v 4)))) (.add (.add (.mul (.mul (.mul (.mul (.c (-4)) (.v 1)) (.pw (.v 2) 3)) (.pw (.v 3) 2)) (.v 4)) (.mul (.mul (.mul (.mul (.c (-4)) (.v 1)) (.pw (.v 2) 2)) (.pw (.v 3) 3)) (.v 4))) (.add (.mul (.mul (.mul (.mul (.c 2) (.v 1)) (.v 2)) (.pw (.v 3) 4)) (.v 4)) (.mul (.mul (.mul (.c 2) (.v 1)) (.pw (.v 3) 5)) (.v 4)))))), .sub (.mul (.add (.mul (.add (.v 3) (.v 2)) (.v 1)) (.mul (.add (.v 3) (.v 2)) (.v 1))) (.v 4)) (.add (.add (.mul (.add (.v 0) (.add (.v 1) (.v 1))) (.add (.v 0) (.add (.v 1) (.v 1)))) (.mul (.add (.v 0) (.add (.v 1) (.v 1))) (.add (.v 0) (.add (.v 1) (.v 1))))) (.mul (.add (.v 0) (.add (.v 1) (.v 1))) (.add (.v 0) (.add (.v 1) (.v 1))))))] ⟨sub_zero_iff.2 r2, sub_zero_iff.2 rs, trivial⟩ (by kernel_rfl))
theorem spY {F : Type} [CR F] (x h m k s : F) (r2 : (((m * k) * h) + ((m * k) * h)) = (((x * x) + (x * (x + (h + h)))) + ((x + (h + h)) * (x + (h + h))))) (rs : ((((k + m) * h) + ((k + m) * h)) * s) = ((((x + (h + h)) * (x + (h + h))) + ((x + (h + h)) * (x + (h + h)))) + ((x + (h + h)) * (x + (h + h))))) : ((((((k + m) * h) + ((k + m) * h)) * (((k + m) * h) + ((k + m) * h))) * (((k + m) * h) + ((k + m) * h))) * (((((m * m) - x) - (x + (h + h))) - (((k * k) - x) - (x + (h + h)))) * ((s * ((x + (h + h)) - (((s * s) - (x + (h + h))) - (x + (h + h))))) - ((k + m) * h)))) = ((((((k + m) * h) + ((k + m) * h)) * (((k + m) * h) + ((k + m) * h))) * (((k + m) * h) + ((k + m) * h))) * (((((m * (x - (((m * m) - x) - (x + (h + h))))) - ((k - m) * h)) - ((k * (x - (((k * k) - x) - (x + (h + h))))) + ((k - m) * h))) * ((((k * k) - x) - (x + (h + h))) - (((s * s) - (x + (h + h))) - (x + (h + h))))) - (((((m * m) - x) - (x + (h + h))) - (((k * k) - x) - (x + (h + h)))) * ((k * (x - (((k * k) - x) - (x + (h + h))))) + ((k - m) * h))))) :=
  sub_zero_iff.1 (lin [x, h, m, k, s] (.sub (.mul (.mul (.mul (.add (.mul (.add (.v 3) (.v 2)) (.v 1)) (.mul (.add (.v 3) (.v 2)) (.v 1))) (.add (.mul (.add (.v 3) (.v 2)) (.v 1)) (.mul (.add (.v 3) (.v 2)) (.v 1)))) (.add (.mul (.add (.v 3) (.v 2)) (.v 1)) (.mul (.add (.v 3) (.v 2)) (.v 1)))) (.mul (.sub (.sub (.sub (.mul (.v 2) (.v 2)) (.v 0)) (.add (.v 0) (.add (.v 1) (.v 1)))) (.sub (.sub (.mul (.v 3) (.v 3)) (.v 0)) (.add (.v 0) (.add (.v 1) (.v 1))))) (.sub (.mul (.v 4) (.sub (.add (.v 0) (.add (.v 1) (.v 1))) (.sub (.sub (.mul (.v 4) (.v 4)) (.add (.v 0) (.add (.v 1) (.v 1)))) (.add (.v 0) (.add (.v 1) (.v 1)))))) (.mul (.add (.v 3) (.v 2)) (.v 1))))) (.mul (.mul (.mul (.add (.mul (.add (.v 3) (.v 2)) (.v 1)) (.mul (.add (.v 3) (.v 2)) (.v 1))) (.add (.mul (.add (.v 3) (.v 2)) (.v 1)) (.mul (.add (.v 3) (.v 2)) (.v 1)))) (.add (.mul (.add (.v 3) (.v 2)) (.v 1)) (.mul (.add (.v 3) (.v 2)) (.v 1)))) (.sub (.mul (.sub (.sub (.mul (.v 2) (.sub (.v 0) (.sub (.sub (.mul (.v 2) (.v 2)) (.v 0)) (.add (.v 0) (.add (.v 1) (.v 1)))))) (.mul (.sub (.v 3) (.v 2)) (.v 1))) (.add (.mul (.v 3) (.sub (.v 0) (.sub (.sub (.mul (.v 3) (.v 3)) (.v 0)) (.add (.v 0) (.add (.v 1) (.v 1)))))) (.mul (.sub (.v 3) (.v 2)) (.v 1)))) (.sub (.sub (.sub (.mul (.v 3) (.v 3)) (.v 0)) (.add (.v 0) (.add (.v 1) (.v 1)))) (.sub (.sub (.mul (.v 4) (.v 4)) (.add (.v 0) (.add (.v 1) (.v 1)))) (.add (.v 0) (.add (.v 1) (.v 1)))))) (.mul (.sub (.sub (.sub (.mul (.v 2) (.v 2)) (.v 0)) (.add (.v 0) (.add (.v 1) (.v 1)))) (.sub (.sub (.mul (.v 3) (.v 3)) (.v 0)) (.add (.v 0) (.add (.v 1) (.v 1))))) (.add (.mul (.v 3) (.sub (.v 0) (.sub (.sub (.mul (.v 3) (.v 3)) (.v 0)) (.add (.v 0) (.add (.v 1) (.v 1)))))) (.mul (.sub (.v 3) (.v 2)) (.v 1))))))) [((.add (.add (.add (.add (.mul (.mul (.c 9) (.pw (.v 0) 4)) (.pw (.v 2) 2)) (.add (.mul (.mul (.c (-9)) (.pw (.v 0) 4)) (.pw (.v 3) 2)) (.mul (.mul (.mul (.c 72) (.pw (.v 0) 3)) (.v 1)) (.pw (.v 2) 2)))) (.add (.mul (.mul (.mul (.c (-72)) (.pw (.v 0) 3)) (.v 1)) (.pw (.v 3) 2)) (.add (.mul (.mul (.mul (.c 216) (.pw (.v 0) 2)) (.pw (.v 1) 2)) (.pw (.v 2) 2)) (.mul (.mul (.mul (.c (-216)) (.pw (.v 0) 2)) (.pw (.v 1) 2)) (.pw (.v 3) 2))))) (.add (.add (.mul (.mul (.mul (.c 6) (.pw (.v 0) 2)) (.v 1)) (.pw (.v 2) 4)) (.add (.mul (.mul (.mul (.mul (.c 12) (.pw (.v 0) 2)) (.v 1)) (.pw (.v 2) 3)) (.v 3)) (.mul (.mul (.mul (.mul (.c (-12)) (.pw (.v 0) 2)) (.v 1)) (.v 2)) (.pw (.v 3) 3)))) (.add (.add (.mul (.mul (.mul (.c (-6)) (.pw (.v 0) 2)) (.v 1)) (.pw (.v 3) 4)) (.mul (.mul (.mul (.c 288) (.v 0)) (.pw (.v 1) 3)) (.pw (.v 2) 2))) (.add (.mul (.mul (.mul (.c (-288)) (.v 0)) (.pw (.v 1) 3)) (.pw (.v 3) 2)) (.mul (.mul (.mul (.c 24) (.v 0)) (.pw (.v 1) 2)) (.pw (.v 2) 4)))))) (.add (.add (.add (.mul (.mul (.mul (.mul (.c 48) (.v 0)) (.pw (.v 1) 2)) (.pw (.v 2) 3)) (.v 3)) (.add (.mul (.mul (.mul (.mul (.c (-48)) (.v 0)) (.pw (.v 1) 2)) (.v 2)) (.pw (.v 3) 3)) (.mul (.mul (.mul (.c (-24)) (.v 0)) (.pw (.v 1) 2)) (.pw (.v 3) 4)))) (.add (.mul (.mul (.c 144) (.pw (.v 1) 4)) (.pw (.v 2) 2)) (.add (.mul (.mul (.c (-144)) (.pw (.v 1) 4)) (.pw (.v 3) 2)) (.mul (.mul (.c 16) (.pw (.v 1) 3)) (.pw (.v 2) 4))))) (.add (.add (.mul (.mul (.mul (.c 32) (.pw (.v 1) 3)) (.pw (.v 2) 3)) (.v 3)) (.add (.mul (.mul (.mul (.c (-32)) (.pw (.v 1) 3)) (.v 2)) (.pw (.v 3) 3)) (.mul (.mul (.c (-16)) (.pw (.v 1) 3)) (.pw (.v 3) 4)))) (.add (.add (.mul (.mul (.mul (.c 4) (.pw (.v 1) 2)) (.pw (.v 2) 5)) (.v 3)) (.mul (.mul (.mul (.c 8) (.pw (.v 1) 2)) (.pw (.v 2) 4)) (.pw (.v 3) 2))) (.add (.mul (.mul (.mul (.c (-8)) (.pw (.v 1) 2)) (.pw (.v 2) 2)) (.pw (.v 3) 4)) (.mul (.mul (.mul (.c (-4)) (.pw (.v 1) 2)) (.v 2)) (.pw (.v 3) 5))))))), .sub (.add (.mul (.mul (.v 2) (.v 3)) (.v 1)) (.mul (.mul (.v 2) (.v 3)) (.v 1))) (.add (.add (.mul (.v 0) (.v 0)) (.mul (.v 0) (.add (.v 0) (.add (.v 1) (.v 1))))) (.mul (.add (.v 0) (.add (.v 1) (.v 1))) (.add (.v 0) (.add (.v 1) (.v 1)))))),
    ((.add (.add (.add (.add (.add (.mul (.mul (.c (-9)) (.pw (.v 0) 4)) (.pw (.v 2) 2)) (.mul (.mul (.c 9) (.pw (.v 0) 4)) (.pw (.v 3) 2))) (.add (.mul (.mul (.mul (.c (-54)) (.pw (.v 0) 3)) (.v 1)) (.pw (.v 2) 2)) (.add (.mul (.mul (.mul (.c 54) (.pw (.v 0) 3)) (.v 1)) (.pw (.v 3) 2)) (.mul (.mul (.mul (.c (-120)) (.pw (.v 0) 2)) (.pw (.v 1) 2)) (.pw (.v 2) 2))))) (.add (.add (.mul (.mul (.mul (.c 120) (.pw (.v 0) 2)) (.pw (.v 1) 2)) (.pw (.v 3) 2)) (.mul (.mul (.mul (.c (-6)) (.pw (.v 0) 2)) (.v 1)) (.pw (.v 2) 4))) (.add (.mul (.mul (.mul (.mul (.c (-6)) (.pw (.v 0) 2)) (.v 1)) (.pw (.v 2) 3)) (.v 3)) (.add (.mul (.mul (.mul (.mul (.c (-6)) (.pw (.v 0) 2)) (.v 1)) (.pw (.v 2) 3)) (.v 4)) (.mul (.mul (.mul (.mul (.mul (.c (-6)) (.pw (.v 0) 2)) (.v 1)) (.pw (.v 2) 2)) (.v 3)) (.v 4)))))) (.add (.add (.add (.mul (.mul (.mul (.mul (.c 6) (.pw (.v 0) 2)) (.v 1)) (.v 2)) (.pw (.v 3) 3)) (.mul (.mul (.mul (.mul (.mul (.c 6) (.pw (.v 0) 2)) (.v 1)) (.v 2)) (.pw (.v 3) 2)) (.v 4))) (.add (.mul (.mul (.mul (.c 6) (.pw (.v 0) 2)) (.v 1)) (.pw (.v 3) 4)) (.add (.mul (.mul (.mul (.mul (.c 6) (.pw (.v 0) 2)) (.v 1)) (.pw (.v 3) 3)) (.v 4)) (.mul (.mul (.mul (.c (-120)) (.v 0)) (.pw (.v 1) 3)) (.pw (.v 2) 2))))) (.add (.add (.mul (.mul (.mul (.c 120) (.v 0)) (.pw (.v 1) 3)) (.pw (.v 3) 2)) (.mul (.mul (.mul (.c (-12)) (.v 0)) (.pw (.v 1) 2)) (.pw (.v 2) 4))) (.add (.mul (.mul (.mul (.mul (.c (-12)) (.v 0)) (.pw (.v 1) 2)) (.pw (.v 2) 3)) (.v 4)) (.add (.mul (.mul (.mul (.mul (.mul (.c (-12)) (.v 0)) (.pw (.v 1) 2)) (.pw (.v 2) 2)) (.v 3)) (.v 4)) (.mul (.mul (.mul (.mul (.mul (.c 12) (.v 0)) (.pw (.v 1) 2)) (.v 2)) (.pw (.v 3) 2)) (.v 4))))))) (.add (.add (.add (.add (.mul (.mul (.mul (.c 12) (.v 0)) (.pw (.v 1) 2)) (.pw (.v 3) 4)) (.mul (.mul (.mul (.mul (.c 12) (.v 0)) (.pw (.v 1) 2)) (.pw (.v 3) 3)) (.v 4))) (.add (.mul (.mul (.c (-48)) (.pw (.v 1) 4)) (.pw (.v 2) 2)) (.add (.mul (.mul (.c 48) (.pw (.v 1) 4)) (.pw (.v 3) 2)) (.mul (.mul (.mul (.c 24) (.pw (.v 1) 3)) (.pw (.v 2) 3)) (.v 3))))) (.add (.add (.mul (.mul (.mul (.c (-8)) (.pw (.v 1) 3)) (.pw (.v 2) 3)) (.v 4)) (.mul (.mul (.mul (.mul (.c (-8)) (.pw (.v 1) 3)) (.pw (.v 2) 2)) (.v 3)) (.v 4))) (.add (.mul (.mul (.mul (.c (-24)) (.pw (.v 1) 3)) (.v 2)) (.pw (.v 3) 3)) (.add (.mul (.mul (.mul (.mul (.c 8) (.pw (.v 1) 3)) (.v 2)) (.pw (.v 3) 2)) (.v 4)) (.mul (.mul (.mul (.c 8) (.pw (.v 1) 3)) (.pw (.v 3) 3)) (.v 4)))))) (.add (.add (.add (.mul (.mul (.mul (.c (-4)) (.pw (.v 1) 2)) (.pw (.v 2) 5)) (.v 4)) (.mul (.mul (.mul (.mul (.c (-8)) (.pw (.v 1) 2)) (.pw (.v 2) 4)) (.v 3)) (.v 4))) (.add (.mul (.mul (.mul (.c (-4)) (.pw (.v 1) 2)) (.pw (.v 2) 4)) (.pw (.v 4) 2)) (.add (.mul (.mul (.mul (.mul (.c (-4)) (.pw (.v 1) 2)) (.pw (.v 2) 3)) (.pw (.v 3) 2)) (.v 4)) (.mul (.mul (.mul (.mul (.c (-8)) (.pw (.v 1) 2)) (.pw (.v 2) 3)) (.v 3)) (.pw (.v 4) 2))))) (.add (.add (.mul (.mul (.mul (.mul (.c 4) (.pw (.v 1) 2)) (.pw (.v 2) 2)) (.pw (.v 3) 3)) (.v 4)) (.mul (.mul (.mul (.mul (.c 8) (.pw (.v 1) 2)) (.v 2)) (.pw (.v 3) 4)) (.v 4))) (.add (.mul (.mul (.mul (.mul (.c 8) (.pw (.v 1) 2)) (.v 2)) (.pw (.v 3) 3)) (.pw (.v 4) 2)) (.add (.mul (.mul (.mul (.c 4) (.pw (.v 1) 2)) (.pw (.v 3) 5)) (.v 4)) (.mul (.mul (.mul (.c 4) (.pw (.v 1) 2)) (.pw (.v 3) 4)) (.pw (.v 4) 2)))))))), .sub (.mul (.add (.mul (.add (.v 3) (.v 2)) (.v 1)) (.mul (.add (.v 3) (.v 2)) (.v 1))) (.v 4)) (.add (.add (.mul (.add (.v 0) (.add (.v 1) (.v 1))) (.add (.v 0) (.add (.v 1) (.v 1)))) (.mul (.add (.v 0) (.add (.v 1) (.v 1))) (.add (.v 0) (.add (.v 1) (.v 1))))) (.mul (.add (.v 0) (.add (.v 1) (.v 1))) (.add (.v 0) (.add (.v 1) (.v 1))))))] ⟨sub_zero_iff.2 r2, sub_zero_iff.2 rs, trivial⟩ (by kernel_rfl))
theorem sp_y {F : Type} [CR F] (y2 y3 h m k : F) (ha : (y3 - y2) = (m * (h + h))) (hb : (y3 + y2) = (k * (h + h))) : ((int 2) * y2) = ((int 2) * ((k - m) * h)) :=
  sub_zero_iff.1 (lin [y2, y3, h, m, k] (.sub (.mul (.c 2) (.v 0)) (.mul (.c 2) (.mul (.sub (.v 4) (.v 3)) (.v 2)))) [((.c (-1)), .sub (.sub (.v 1) (.v 0)) (.mul (.v 3) (.add (.v 2) (.v 2)))),
    ((.c 1), .sub (.add (.v 1) (.v 0)) (.mul (.v 4) (.add (.v 2) (.v 2))))] ⟨sub_zero_iff.2 ha, sub_zero_iff.2 hb, trivial⟩ (by kernel_rfl))
theorem sp_yB {F : Type} [CR F] (y2 y3 h m k : F) (ha : (y3 - y2) = (m * (h + h))) (hb : (y3 + y2) = (k * (h + h))) : ((int 2) * y3) = ((int 2) * ((k + m) * h)) :=
  sub_zero_iff.1 (lin [y2, y3, h, m, k] (.sub (.mul (.c 2) (.v 1)) (.mul (.c 2) (.mul (.add (.v 4) (.v 3)) (.v 2)))) [((.c 1), .sub (.sub (.v 1) (.v 0)) (.mul (.v 3) (.add (.v 2) (.v 2)))),
    ((.c 1), .sub (.add (.v 1) (.v 0)) (.mul (.v 4) (.add (.v 2) (.v 2))))] ⟨sub_zero_iff.2 ha, sub_zero_iff.2 hb, trivial⟩ (by kernel_rfl))
theorem half_add {F : Type} [CR F] (d i : F) (h : ((int 2) * i) = (int 1)) : ((d * i) + (d * i)) = d :=
  sub_zero_iff.1 (lin [d, i] (.sub (.add (.mul (.v 0) (.v 1)) (.mul (.v 0) (.v 1))) (.v 0)) [((.v 0), .sub (.mul (.c 2) (.v 1)) (.c 1))] ⟨sub_zero_iff.2 h, trivial⟩ (by kernel_rfl))
theorem two_mul {F : Type} [CR F] (y : F)  : (y + y) = ((int 2) * y) :=
  sub_zero_iff.1 (lin [y] (.sub (.add (.v 0) (.v 0)) (.mul (.c 2) (.v 0))) [] trivial (by kernel_rfl))
theorem id_h1 {F : Type} [CR F] (x1 y1 l : F)  : y1 = ((l * x1) + (y1 - (l * x1))) :=
  sub_zero_iff.1 (lin [x1, y1, l] (.sub (.v 1) (.add (.mul (.v 2) (.v 0)) (.sub (.v 1) (.mul (.v 2) (.v 0))))) [] trivial (by kernel_rfl))
theorem id_h2 {F : Type} [CR F] (x1 y1 x2 y2 l : F) (hl : (l * (x2 - x1)) = (y2 - y1)) : y2 = ((l * x2) + (y1 - (l * x1))) :=
  sub_zero_iff.1 (lin [x1, y1, x2, y2, l] (.sub (.v 3) (.add (.mul (.v 4) (.v 2)) (.sub (.v 1) (.mul (.v 4) (.v 0))))) [((.c (-1)), .sub (.mul (.v 4) (.sub (.v 2) (.v 0))) (.sub (.v 3) (.v 1)))] ⟨sub_zero_iff.2 hl, trivial⟩ (by kernel_rfl))
theorem id_e1 {F : Type} [CR F] (x1 x2 l : F)  : ((x1 + x2) + (((l * l) - x1) - x2)) = (l * l) :=
  sub_zero_iff.1 (lin [x1, x2, l] (.sub (.add (.add (.v 0) (.v 1)) (.sub (.sub (.mul (.v 2) (.v 2)) (.v 0)) (.v 1))) (.mul (.v 2) (.v 2))) [] trivial (by kernel_rfl))
theorem sp_r2 {F : Type} [CR F] (x y h m k : F) (hm : (((m * y) + (m * y)) + ((m * m) * ((x + (h + h)) - x))) = ((((x + (h + h)) * (x + (h + h))) + ((x + (h + h)) * x)) + (x * x))) (hy : y = ((k - m) * h)) : (((m * k) * h) + ((m * k) * h)) = (((x * x) + (x * (x + (h + h)))) + ((x + (h + h)) * (x + (h + h)))) :=
  sub_zero_iff.1 (lin [x, y, h, m, k] (.sub (.add (.mul (.mul (.v 3) (.v 4)) (.v 2)) (.mul (.mul (.v 3) (.v 4)) (.v 2))) (.add (.add (.mul (.v 0) (.v 0)) (.mul (.v 0) (.add (.v 0) (.add (.v 2) (.v 2))))) (.mul (.add (.v 0) (.add (.v 2) (.v 2))) (.add (.v 0) (.add (.v 2) (.v 2)))))) [((.c 1), .sub (.add (.add (.mul (.v 3) (.v 1)) (.mul (.v 3) (.v 1))) (.mul (.mul (.v 3) (.v 3)) (.sub (.add (.v 0) (.add (.v 2) (.v 2))) (.v 0)))) (.add (.add (.mul (.add (.v 0) (.add (.v 2) (.v 2))) (.add (.v 0) (.add (.v 2) (.v 2)))) (.mul (.add (.v 0) (.add (.v 2) (.v 2))) (.v 0))) (.mul (.v 0) (.v 0)))),
    ((.mul (.c (-2)) (.v 3)), .sub (.v 1) (.mul (.sub (.v 4) (.v 3)) (.v 2)))] ⟨sub_zero_iff.2 hm, sub_zero_iff.2 hy, trivial⟩ (by kernel_rfl))
theorem sub_add {F : Type} [CR F] (a b : F)  : a = (b + (a - b)) :=
  sub_zero_iff.1 (lin [a, b] (.sub (.v 0) (.add (.v 1) (.sub (.v 0) (.v 1)))) [] trivial (by kernel_rfl))
theorem neg_of_add {F : Type} [CR F] (a b : F) (h : (a + b) = 0) : b = (-a) :=
  sub_zero_iff.1 (lin [a, b] (.sub (.v 1) (.neg (.v 0))) [((.c 1), .sub (.add (.v 0) (.v 1)) (.c 0))] ⟨sub_zero_iff.2 h, trivial⟩ (by kernel_rfl))
theorem neg_inj {F : Type} [CR F] (a b : F) (h : (-a) = (-b)) : a = b :=
  sub_zero_iff.1 (lin [a, b] (.sub (.v 0) (.v 1)) [((.c (-1)), .sub (.neg (.v 0)) (.neg (.v 1)))] ⟨sub_zero_iff.2 h, trivial⟩ (by kernel_rfl))
theorem x_of_line {F : Type} [CR F] (x1 x2 x4 l : F) (e1 : ((x1 + x2) + x4) = (l * l)) : x4 = (((l * l) - x1) - x2) :=
  sub_zero_iff.1 (lin [x1, x2, x4, l] (.sub (.v 2) (.sub (.sub (.mul (.v 3) (.v 3)) (.v 0)) (.v 1))) [((.c 1), .sub (.add (.add (.v 0) (.v 1)) (.v 2)) (.mul (.v 3) (.v 3)))] ⟨sub_zero_iff.2 e1, trivial⟩ (by kernel_rfl))
theorem y_of_line {F : Type} [CR F] (x2 y2 x4 y4 l n : F) (h2 : y2 = ((l * x2) + n)) (h4 : y4 = ((l * x4) + n)) : (-y4) = ((l * (x2 - x4)) - y2) :=
  sub_zero_iff.1 (lin [x2, y2, x4, y4, l, n] (.sub (.neg (.v 3)) (.sub (.mul (.v 4) (.sub (.v 0) (.v 2))) (.v 1))) [((.c 1), .sub (.v 1) (.add (.mul (.v 4) (.v 0)) (.v 5))),
    ((.c (-1)), .sub (.v 3) (.add (.mul (.v 4) (.v 2)) (.v 5)))] ⟨sub_zero_iff.2 h2, sub_zero_iff.2 h4, trivial⟩ (by kernel_rfl))
theorem y_at {F : Type} [CR F] (x1 y1 x2 y2 l n : F) (h1 : y1 = ((l * x1) + n)) (h2 : y2 = ((l * x2) + n)) : y1 = (y2 + (l * (x1 - x2))) :=
  sub_zero_iff.1 (lin [x1, y1, x2, y2, l, n] (.sub (.v 1) (.add (.v 3) (.mul (.v 4) (.sub (.v 0) (.v 2))))) [((.c 1), .sub (.v 1) (.add (.mul (.v 4) (.v 0)) (.v 5))),
    ((.c (-1)), .sub (.v 3) (.add (.mul (.v 4) (.v 2)) (.v 5)))] ⟨sub_zero_iff.2 h1, sub_zero_iff.2 h2, trivial⟩ (by kernel_rfl))
theorem cancel_x {F : Type} [CR F] (a b c : F) (h : (a * (b - c)) = 0) : (a * b) = (a * c) :=
  sub_zero_iff.1 (lin [a, b, c] (.sub (.mul (.v 0) (.v 1)) (.mul (.v 0) (.v 2))) [((.c 1), .sub (.mul (.v 0) (.sub (.v 1) (.v 2))) (.c 0))] ⟨sub_zero_iff.2 h, trivial⟩ (by kernel_rfl))
theorem dd {F : Type} [CR F] (a b l : F) (h : a = (l * b)) : (a - 0) = ((l * b) - 0) :=
  sub_zero_iff.1 (lin [a, b, l] (.sub (.sub (.v 0) (.c 0)) (.sub (.mul (.v 2) (.v 1)) (.c 0))) [((.c 1), .sub (.v 0) (.mul (.v 2) (.v 1)))] ⟨sub_zero_iff.2 h, trivial⟩ (by kernel_rfl))
theorem x1_k {F : Type} [CR F] (x1 x2 x3 k : F) (e : ((x1 + x2) + x3) = ((-k) * (-k))) : x1 = (((k * k) - x2) - x3) :=
  sub_zero_iff.1 (lin [x1, x2, x3, k] (.sub (.v 0) (.sub (.sub (.mul (.v 3) (.v 3)) (.v 1)) (.v 2))) [((.c 1), .sub (.add (.add (.v 0) (.v 1)) (.v 2)) (.mul (.neg (.v 3)) (.neg (.v 3))))] ⟨sub_zero_iff.2 e, trivial⟩ (by kernel_rfl))
theorem y1_k {F : Type} [CR F] (x1 y1 x2 y2 k n : F) (h1 : y1 = (((-k) * x1) + n)) (h2 : y2 = (((-k) * x2) + n)) : y1 = ((k * (x2 - x1)) + y2) :=
  sub_zero_iff.1 (lin [x1, y1, x2, y2, k, n] (.sub (.v 1) (.add (.mul (.v 4) (.sub (.v 2) (.v 0))) (.v 3))) [((.c 1), .sub (.v 1) (.add (.mul (.neg (.v 4)) (.v 0)) (.v 5))),
    ((.c (-1)), .sub (.v 3) (.add (.mul (.neg (.v 4)) (.v 2)) (.v 5)))] ⟨sub_zero_iff.2 h1, sub_zero_iff.2 h2, trivial⟩ (by kernel_rfl))
theorem t_sq {F : Type} [CR F] (d t n x1 x5 : F) (h : (d * t) = n) : ((d * d) * (((t * t) - x1) - x5)) = ((n * n) - ((d * d) * (x1 + x5))) :=
  sub_zero_iff.1 (lin [d, t, n, x1, x5] (.sub (.mul (.mul (.v 0) (.v 0)) (.sub (.sub (.mul (.v 1) (.v 1)) (.v 3)) (.v 4))) (.sub (.mul (.v 2) (.v 2)) (.mul (.mul (.v 0) (.v 0)) (.add (.v 3) (.v 4))))) [((.add (.mul (.v 0) (.v 1)) (.v 2)), .sub (.mul (.v 0) (.v 1)) (.v 2))] ⟨sub_zero_iff.2 h, trivial⟩ (by kernel_rfl))
theorem t_lin {F : Type} [CR F] (d t n x1 X y1 : F) (h : (d * t) = n) : (d * ((t * (x1 - X)) - y1)) = ((n * (x1 - X)) - (d * y1)) :=
  sub_zero_iff.1 (lin [d, t, n, x1, X, y1] (.sub (.mul (.v 0) (.sub (.mul (.v 1) (.sub (.v 3) (.v 4))) (.v 5))) (.sub (.mul (.v 2) (.sub (.v 3) (.v 4))) (.mul (.v 0) (.v 5)))) [((.add (.v 3) (.neg (.v 4))), .sub (.mul (.v 0) (.v 1)) (.v 2))] ⟨sub_zero_iff.2 h, trivial⟩ (by kernel_rfl))
theorem neg_sub {F : Type} [CR F] (y3 y2 d k : F) (h : (d * (-k)) = ((-y3) - y2)) : (y3 + y2) = (k * d) :=
  sub_zero_iff.1 (lin [y3, y2, d, k] (.sub (.add (.v 0) (.v 1)) (.mul (.v 3) (.v 2))) [((.c 1), .sub (.mul (.v 2) (.neg (.v 3))) (.sub (.neg (.v 0)) (.v 1)))] ⟨sub_zero_iff.2 h, trivial⟩ (by kernel_rfl))
end Go.Proofs.YtohjpdglbeohpaaGreat.Rg
/- The group of a curve y*y = x*x*x + b without points of order two, over any field. -/
namespace Go.Proofs.YtohjpdglbeohpaaGreat.Rg

/-- A field whose equality is decided; the inverse of 0 is 0. -/
class FD (F : Type) extends CR F where
  inv : F → F
  mul_inv : ∀ a : F, a ≠ 0 → a * inv a = 1
  inv_zero : inv 0 = 0
  one_ne : (1 : F) ≠ 0
  dec : DecidableEq F
instance fdDec {F : Type} [FD F] : DecidableEq F := FD.dec
open FD (inv)
inductive Pt (F : Type) where
  | inf
  | pt (x y : F)

section
variable {F : Type} [FD F]
theorem cancel {a b c : F} (ha : a ≠ 0) (h : a * b = a * c) : b = c := by
  have h2 : inv a * (a * b) = inv a * (a * c) := by rw [h]
  rw [← mul_assoc, ← mul_assoc, mul_comm (inv a) a, FD.mul_inv a ha, one_mul, one_mul] at h2
  exact h2
theorem zero_of_mul {a b : F} (ha : a ≠ 0) (h : a * b = 0) : b = 0 := cancel ha (by rw [h, mul_zero])
theorem mul_ne {a b : F} (ha : a ≠ 0) (hb : b ≠ 0) : a * b ≠ 0 := fun h => hb (zero_of_mul ha h)
theorem sub_ne {a b : F} (h : a ≠ b) : a - b ≠ 0 := fun e => h (sub_zero_iff.1 e)
theorem div_eq {d e l : F} (hd : d ≠ 0) (h : d * l = e) : e * inv d = l := by
  rw [← h, mul_comm d l, mul_assoc, FD.mul_inv d hd, mul_one]
theorem mul_div {d e : F} (hd : d ≠ 0) : e * inv d * d = e := by
  rw [mul_assoc, mul_comm (inv d), FD.mul_inv d hd, mul_one]

def sumAt (x1 y1 x2 l : F) : Pt F := .pt (l * l - x1 - x2) (l * (x1 - (l * l - x1 - x2)) - y1)
def add : Pt F → Pt F → Pt F
  | .inf, q => q
  | .pt x1 y1, q => match q with
    | .inf => .pt x1 y1
    | .pt x2 y2 => if x1 = x2 then (if y1 = y2 ∧ y1 ≠ 0 then sumAt x1 y1 x2 ((x1 * x1 + x1 * x1 + x1 * x1) * inv (y1 + y1)) else .inf) else sumAt x1 y1 x2 ((y2 - y1) * inv (x2 - x1))
theorem add_pt (x1 y1 x2 y2 : F) : add (.pt x1 y1) (.pt x2 y2) = if x1 = x2 then (if y1 = y2 ∧ y1 ≠ 0 then sumAt x1 y1 x2 ((x1 * x1 + x1 * x1 + x1 * x1) * inv (y1 + y1)) else .inf) else sumAt x1 y1 x2 ((y2 - y1) * inv (x2 - x1)) := rfl
def neg : Pt F → Pt F
  | .inf => .inf
  | .pt x y => .pt x (-y)
def On (b : F) : Pt F → Prop
  | .inf => True
  | .pt x y => y * y = x * x * x + b

/-- Three points on a line, each as often as it counts. -/
structure Ln (b x1 y1 x2 y2 x3 y3 l n : F) : Prop where
  h1 : y1 = l * x1 + n
  h2 : y2 = l * x2 + n
  h3 : y3 = l * x3 + n
  e1 : x1 + x2 + x3 = l * l
  e2 : x1 * x2 + x1 * x3 + x2 * x3 + (l * n + l * n) = 0
  e3 : x1 * x2 * x3 + b = n * n
section
variable {b x1 y1 x2 y2 x3 y3 l n : F}
theorem Ln.sw (h : Ln b x1 y1 x2 y2 x3 y3 l n) : Ln b x2 y2 x1 y1 x3 y3 l n := ⟨h.h2, h.h1, h.h3, e1_sw _ _ _ _ h.e1, e2_sw _ _ _ _ h.e2, e3_sw _ _ _ _ _ h.e3⟩
theorem Ln.ro (h : Ln b x1 y1 x2 y2 x3 y3 l n) : Ln b x2 y2 x3 y3 x1 y1 l n := ⟨h.h2, h.h3, h.h1, e1_ro _ _ _ _ h.e1, e2_ro _ _ _ _ h.e2, e3_ro _ _ _ _ _ h.e3⟩
theorem Ln.neg (h : Ln b x1 y1 x2 y2 x3 y3 l n) : Ln b x1 (-y1) x2 (-y2) x3 (-y3) (-l) (-n) :=
  ⟨neg_line _ _ _ _ h.h1, neg_line _ _ _ _ h.h2, neg_line _ _ _ _ h.h3, by rw [neg_sq]; exact h.e1, by rw [neg_pr]; exact h.e2, by rw [neg_sq]; exact h.e3⟩
theorem Ln.on (h : Ln b x1 y1 x2 y2 x3 y3 l n) : y1 * y1 = x1 * x1 * x1 + b := ln_on x1 y1 x2 x3 l n b h.h1 h.e1 h.e2 h.e3
end
/-- A curve without points of order two. -/
structure Cv (F : Type) [FD F] where
  b : F
  two : (int 2 : F) ≠ 0
  no2 : ∀ x y : F, y * y = x * x * x + b → y ≠ 0
variable (C : Cv F)
include C in
theorem two_ne {y : F} (h : y ≠ 0) : y + y ≠ 0 := by rw [two_mul]; exact mul_ne C.two h
theorem add_of_ln {x1 y1 x2 y2 x3 y3 l n : F} (h : Ln C.b x1 y1 x2 y2 x3 y3 l n) : add (.pt x1 y1) (.pt x2 y2) = .pt x3 (-y3) := by
  have hy := C.no2 _ _ h.on
  have hsum : sumAt x1 y1 x2 l = .pt x3 (-y3) := by
    unfold sumAt
    rw [ln_x3 x1 x2 x3 l h.e1, ln_y3 x1 y1 x3 y3 l n h.h1 h.h3]
  rw [add_pt]
  by_cases hx : x1 = x2
  · subst hx
    have e := lin_same _ _ _ _ _ h.h1 h.h2
    have ht := ln_tan x1 y1 x3 l n h.h1 h.e1 h.e2
    rw [if_pos rfl, if_pos ⟨e, hy⟩, div_eq (two_ne C hy) ht]
    exact hsum
  · rw [if_neg hx, div_eq (sub_ne (Ne.symm hx)) (ln_sl x1 y1 x2 y2 l n h.h1 h.h2)]
    exact hsum
theorem ln_of_slope {x1 y1 x2 y2 l : F} (c1 : y1 * y1 = x1 * x1 * x1 + C.b) (hl : l * (x2 - x1) = y2 - y1)
    (e2 : x1 * x2 + x1 * (l * l - x1 - x2) + x2 * (l * l - x1 - x2) + (l * (y1 - l * x1) + l * (y1 - l * x1)) = 0) : Ln C.b x1 y1 x2 y2 (l * l - x1 - x2) (l * (l * l - x1 - x2) + (y1 - l * x1)) l (y1 - l * x1) :=
  ⟨id_h1 x1 y1 l, id_h2 x1 y1 x2 y2 l hl, rfl, id_e1 x1 x2 l, e2, ln_e3 x1 y1 x2 l C.b e2 c1⟩
/-- Two points are opposite, or they lie on a line with their sum's opposite. -/
theorem sum_cases {x1 y1 x2 y2 : F} (c1 : y1 * y1 = x1 * x1 * x1 + C.b) (c2 : y2 * y2 = x2 * x2 * x2 + C.b) : (x2 = x1 ∧ y2 = -y1) ∨ ∃ x3 y3 l n, Ln C.b x1 y1 x2 y2 x3 y3 l n := by
  by_cases hx : x1 = x2
  · subst hx
    by_cases hy : y1 = y2
    · subst hy
      have hy0 := C.no2 _ _ c1
      refine .inr ⟨_, _, (x1 * x1 + x1 * x1 + x1 * x1) * inv (y1 + y1), _, ln_of_slope C c1 (by rw [sub_self, sub_self, mul_zero]) ?_⟩
      refine ln_e2t x1 y1 _ ?_
      rw [mul_comm, mul_div (two_ne C hy0)]
    · refine .inl ⟨rfl, ?_⟩
      have := sq_diff y1 y2 _ c1 c2
      exact neg_of_add y1 y2 (zero_of_mul (sub_ne hy) this)
  · have hd := sub_ne (Ne.symm hx)
    have hl : (y2 - y1) * inv (x2 - x1) * (x2 - x1) = y2 - y1 := mul_div hd
    exact .inr ⟨_, _, (y2 - y1) * inv (x2 - x1), _, ln_of_slope C c1 hl (zero_of_mul hd (ln_e2 x1 y1 x2 y2 _ C.b hl c1 c2))⟩
include C in
theorem self_neg {y : F} (hy : y ≠ 0) (h : y = -y) : False := by
  have h2 : y + y = 0 := by
    have := Rg.add_neg y
    rw [← h] at this; exact this
  exact two_ne C hy h2
theorem add_neg_self {x y : F} (c : y * y = x * x * x + C.b) : add (.pt x y) (.pt x (-y)) = .inf := by
  have hy := C.no2 _ _ c
  rw [add_pt, if_pos rfl, if_neg]
  rintro ⟨h, _⟩
  exact self_neg C hy h
theorem on_neg {x y : F} (c : y * y = x * x * x + C.b) : (-y) * (-y) = x * x * x + C.b := by rw [neg_sq]; exact c
theorem on_inf : On C.b (.inf : Pt F) := trivial
theorem on_negP {p : Pt F} (h : On C.b p) : On C.b (neg p) := by
  cases p with
  | inf => trivial
  | pt x y => exact on_neg C h
theorem on_add {p q : Pt F} (hp : On C.b p) (hq : On C.b q) : On C.b (add p q) := by
  cases p with
  | inf => exact hq
  | pt x1 y1 => cases q with
    | inf => exact hp
    | pt x2 y2 =>
      rcases sum_cases C hp hq with ⟨rfl, rfl⟩ | ⟨x3, y3, l, n, h⟩
      · rw [add_neg_self C hp]; trivial
      · rw [add_of_ln C h]; exact on_neg C h.ro.ro.on
theorem add_comm' {p q : Pt F} (hp : On C.b p) (hq : On C.b q) : add p q = add q p := by
  cases p with
  | inf => cases q <;> rfl
  | pt x1 y1 => cases q with
    | inf => rfl
    | pt x2 y2 =>
      rcases sum_cases C hp hq with ⟨rfl, rfl⟩ | ⟨x3, y3, l, n, h⟩
      · rw [add_neg_self C hp]
        have := add_neg_self C (on_neg C hp)
        rw [neg_neg] at this
        exact this.symm
      · rw [add_of_ln C h, add_of_ln C h.sw]
theorem add_inf (p : Pt F) : add p .inf = p := by cases p <;> rfl
theorem add_neg_p {p : Pt F} (hp : On C.b p) : add p (neg p) = .inf := by
  cases p with
  | inf => rfl
  | pt x y => exact add_neg_self C hp
/-- What is added is taken away. -/
theorem neg_add_cancel {p q : Pt F} (hp : On C.b p) (hq : On C.b q) : add (neg p) (add p q) = q := by
  cases p with
  | inf => rfl
  | pt x1 y1 => cases q with
    | inf =>
      have h := add_neg_self C (on_neg C hp)
      rw [neg_neg] at h
      exact h
    | pt x2 y2 =>
      rcases sum_cases C hp hq with ⟨rfl, rfl⟩ | ⟨x3, y3, l, n, h⟩
      · rw [add_neg_self C hp]; rfl
      · rw [add_of_ln C h]
        have := add_of_ln C h.neg.sw.ro
        rw [neg_neg] at this
        exact this
theorem add_left_inj {p q r : Pt F} (hp : On C.b p) (hq : On C.b q) (hr : On C.b r) (h : add p q = add p r) : q = r := by
  rw [← neg_add_cancel C hp hq, h, neg_add_cancel C hp hr]

/-- (P + Q) + R = P + (Q + R), where P + Q = R. -/
theorem assoc_special {x1 y1 x2 y2 x3 y3 l n x5 y5 m q : F} (h1 : Ln C.b x1 y1 x2 y2 x3 (-y3) l n) (h2 : Ln C.b x2 y2 x3 y3 x5 y5 m q) : add (.pt x3 y3) (.pt x3 y3) = add (.pt x1 y1) (.pt x5 (-y5)) := by
  have cP := h1.on
  have cQ := h2.on
  have cR := h2.ro.on
  have hyQ := C.no2 _ _ cQ
  have hyR := C.no2 _ _ cR
  have a2 : add (.pt x1 y1) (.pt x2 y2) = .pt x3 y3 := by rw [add_of_ln C h1, neg_neg]
  have a1 : add (.pt x2 y2) (.pt x3 y3) = .pt x5 (-y5) := add_of_ln C h2
  rcases sum_cases C cR cR with ⟨_, e⟩ | ⟨x6, y6, s, n6, h6⟩
  · exact (self_neg C hyR e).elim
  rcases sum_cases C cP (on_neg C h2.ro.ro.on) with ⟨e1, e2⟩ | ⟨x7, y7, t, n7, h7⟩
  · exfalso
    have e2 := neg_inj _ _ e2
    subst e1; subst e2
    have a3 := add_of_ln C h2.ro.ro
    rw [a2] at a3
    injection a3 with _ a3
    exact self_neg C hyR a3
  rw [add_of_ln C h6, add_of_ln C h7]
  have ht : (x5 - x1) * t = -y5 - y1 := ln_sl x1 y1 x5 (-y5) t n7 h7.h1 h7.h2
  have hs : (y3 + y3) * s = x3 * x3 + x3 * x3 + x3 * x3 := ln_tan x3 y3 x6 s n6 h6.h1 h6.e1 h6.e2
  have hd : x5 ≠ x1 := by
    intro e
    subst e
    have e3 := lin_same _ _ _ _ _ h7.h1 h7.h2
    rw [← e3] at a1
    have a4 : add (neg (.pt x2 y2)) (.pt x3 y3) = .pt x5 y1 := by
      rw [← a2, add_comm' C (p := .pt x5 y1) (q := .pt x2 y2) cP cQ]
      exact neg_add_cancel C (p := .pt x2 y2) (q := .pt x5 y1) cQ cP
    have a5 : add (.pt x3 y3) (.pt x2 y2) = add (.pt x3 y3) (neg (.pt x2 y2)) := by
      rw [add_comm' C (p := .pt x3 y3) (q := .pt x2 y2) cR cQ, add_comm' C (p := .pt x3 y3) (q := neg (.pt x2 y2)) cR (on_neg C cQ), a1, a4]
    have a6 := add_left_inj C (p := .pt x3 y3) (q := .pt x2 y2) (r := neg (.pt x2 y2)) cR cQ (on_neg C cQ) a5
    injection a6 with _ a6
    exact self_neg C hyQ a6
  have hi : (int 2 : F) * inv (int 2) = int 1 := by rw [FD.mul_inv _ C.two, int_one]
  obtain ⟨h, hh⟩ : ∃ h : F, h + h = x3 - x2 := ⟨(x3 - x2) * inv (int 2), half_add _ _ hi⟩
  obtain ⟨k, rfl⟩ : ∃ k : F, l = -k := ⟨-l, (neg_neg l).symm⟩
  have ex3 : x3 = x2 + (h + h) := by rw [hh]; exact sub_add _ _
  have hm : y3 - y2 = m * (h + h) := by
    have := ln_sl x2 y2 x3 y3 m q h2.h1 h2.h2
    rw [hh, mul_comm]; exact this.symm
  have hk : y3 + y2 = k * (h + h) := by
    have := ln_sl x2 y2 x3 (-y3) (-k) n h1.h2 h1.h3
    rw [hh]; exact neg_sub _ _ _ _ this
  have ey2 : y2 = (k - m) * h := cancel C.two (sp_y y2 y3 h m k hm hk)
  have ey3 : y3 = (k + m) * h := cancel C.two (sp_yB y2 y3 h m k hm hk)
  have ex1 : x1 = k * k - x2 - x3 := x1_k x1 x2 x3 k h1.e1
  have ey1 : y1 = k * (x2 - x1) + y2 := y1_k x1 y1 x2 y2 k n h1.h1 h1.h2
  have ex5 : x5 = m * m - x2 - x3 := x_of_line x2 x3 x5 m h2.e1
  have ey5 : -y5 = m * (x2 - x5) - y2 := y_of_line x2 y2 x5 y5 m q h2.h1 h2.h3
  have r2 := sp_r2 x2 y2 h m k (by rw [← ex3]; exact mid2 x2 y2 x3 x5 m q h2.h1 h2.e1 h2.e2) ey2
  have rs : ((k + m) * h + (k + m) * h) * s = (x2 + (h + h)) * (x2 + (h + h)) + (x2 + (h + h)) * (x2 + (h + h)) + (x2 + (h + h)) * (x2 + (h + h)) := by rw [← ey3, ← ex3]; exact hs
  have hX := spX x2 h m k s r2 rs
  have hY := spY x2 h m k s r2 rs
  rw [← ex3, ← ex1, ← ex5, ← ey2, ← ey3, ← ey5, ← ey1] at hX hY
  have hw := two_ne C hyR
  have hD := sub_ne hd
  have x6e : x6 = s * s - x3 - x3 := x_of_line x3 x3 x6 s h6.e1
  have x7e : x7 = t * t - x1 - x5 := x_of_line x1 x5 x7 t h7.e1
  have hXX : x6 = x7 := by
    rw [x6e, x7e]
    refine cancel (mul_ne hD hD) ?_
    rw [t_sq _ _ _ x1 x5 ht]
    exact cancel (mul_ne hw hw) hX
  have y6e : -y6 = s * (x3 - x6) - y3 := y_of_line x3 y3 x6 y6 s n6 h6.h1 h6.h3
  have y7e : -y7 = t * (x1 - x7) - y1 := y_of_line x1 y1 x7 y7 t n7 h7.h1 h7.h3
  have hYY : -y6 = -y7 := by
    rw [y6e, y7e, ← hXX]
    refine cancel hD ?_
    rw [t_lin _ _ _ x1 x6 y1 ht]
    rw [← x6e] at hY
    exact cancel (mul_ne (mul_ne hw hw) hw) hY
  rw [hXX, hYY]
theorem assoc_gen {x1 y1 x2 y2 x3 y3 x4 y4 x5 y5 x6 y6 x7 y7 l n m q s n6 t n7 : F} (h1 : Ln C.b x1 y1 x2 y2 x4 y4 l n) (h2 : Ln C.b x2 y2 x3 y3 x5 y5 m q) (h3 : Ln C.b x4 (-y4) x3 y3 x6 y6 s n6) (h4 : Ln C.b x1 y1 x5 (-y5) x7 y7 t n7)
    (hd1 : x4 ≠ x3) (hd2 : x5 ≠ x1) : x6 = x7 ∧ -y6 = -y7 := by
  have ex4 : x4 = l * l - x1 - x2 := x_of_line x1 x2 x4 l h1.e1
  have ey4 : -y4 = l * (x2 - x4) - y2 := y_of_line x2 y2 x4 y4 l n h1.h2 h1.h3
  have ex5 : x5 = m * m - x2 - x3 := x_of_line x2 x3 x5 m h2.e1
  have ey5 : -y5 = m * (x2 - x5) - y2 := y_of_line x2 y2 x5 y5 m q h2.h1 h2.h3
  have ey3 : y3 = y2 + m * (x3 - x2) := y_at x3 y3 x2 y2 m q h2.h2 h2.h1
  have ey1 : y1 = y2 + l * (x1 - x2) := y_at x1 y1 x2 y2 l n h1.h1 h1.h2
  have hs : s * (x4 - x3) = -y4 - y3 := by rw [mul_comm]; exact ln_sl x3 y3 x4 (-y4) s n6 h3.h2 h3.h1
  have ht : t * (x5 - x1) = -y5 - y1 := by rw [mul_comm]; exact ln_sl x1 y1 x5 (-y5) t n7 h4.h1 h4.h2
  have r1 := mid1 x1 x2 y2 x4 l n h1.h2 h1.e1 h1.e2
  have r2 := mid2 x2 y2 x3 x5 m q h2.h1 h2.e1 h2.e2
  have hs' : s * (l * l - x1 - x2 - x3) = l * (x2 - (l * l - x1 - x2)) - y2 - (y2 + m * (x3 - x2)) := by rw [← ex4, ← ey4, ← ey3]; exact hs
  have ht' : t * (m * m - x2 - x3 - x1) = m * (x2 - (m * m - x2 - x3)) - y2 - (y2 + l * (x1 - x2)) := by rw [← ex5, ← ey5, ← ey1]; exact ht
  have hX := genX x1 x2 x3 y2 l m s t r1 r2 hs' ht'
  have hY := genY x1 x2 x3 y2 l m s t r1 r2 hs' ht'
  rw [← ex4, ← ex5] at hX hY
  rw [← ey3, ← ey1] at hY
  have hD1 := sub_ne hd1
  have hD2 := sub_ne hd2
  have x6e : x6 = s * s - x4 - x3 := x_of_line x4 x3 x6 s h3.e1
  have x7e : x7 = t * t - x1 - x5 := x_of_line x1 x5 x7 t h4.e1
  have hXX : x6 = x7 := by rw [x6e, x7e]; exact cancel (mul_ne (mul_ne hD1 hD1) (mul_ne hD2 hD2)) hX
  have y6e : -y6 = s * (x3 - x6) - y3 := y_of_line x3 y3 x6 y6 s n6 h3.h2 h3.h3
  have y7e : -y7 = t * (x1 - x7) - y1 := y_of_line x1 y1 x7 y7 t n7 h4.h1 h4.h3
  refine ⟨hXX, ?_⟩
  rw [y6e, y7e, ← hXX]
  rw [← x6e] at hY
  exact cancel (mul_ne (mul_ne (mul_ne hD1 hD1) hD1) hD2) hY
theorem add_assoc' {p q r : Pt F} (hp : On C.b p) (hq : On C.b q) (hr : On C.b r) : add (add p q) r = add p (add q r) := by
  cases p with
  | inf => rfl
  | pt x1 y1 => cases q with
    | inf => rfl
    | pt x2 y2 => cases r with
      | inf => rw [add_inf, add_inf]
      | pt x3 y3 =>
        rcases sum_cases C hp hq with ⟨rfl, rfl⟩ | ⟨x4, y4, l, n, h1⟩
        · rw [add_neg_self C hp]
          have hn : On C.b (.pt x2 (-y1)) := hq
          have := neg_add_cancel C (p := .pt x2 (-y1)) (q := .pt x3 y3) hn hr
          rw [show neg (.pt x2 (-y1) : Pt F) = .pt x2 y1 by simp [neg, neg_neg]] at this
          exact this.symm
        rcases sum_cases C hq hr with ⟨rfl, rfl⟩ | ⟨x5, y5, m, q, h2⟩
        · rw [add_neg_self C hq, add_inf, add_comm' C (on_add C hp hq) hr, add_comm' C hp hq]
          exact neg_add_cancel C (p := .pt x3 y2) (q := .pt x1 y1) hq hp
        rw [add_of_ln C h1, add_of_ln C h2]
        have c4 := on_neg C h1.ro.ro.on
        have c5 := on_neg C h2.ro.ro.on
        rcases sum_cases C c4 hr with ⟨e1, e2⟩ | ⟨x6, y6, s, n6, h3⟩
        · -- R is the opposite of P + Q
          rw [neg_neg] at e2
          subst e1; subst e2
          have a := add_of_ln C h1.ro
          rw [add_of_ln C h2] at a
          rw [a, add_neg_self C hp]
          have := add_neg_self C c4
          rw [neg_neg] at this
          exact this
        rcases sum_cases C hp c5 with ⟨e1, e2⟩ | ⟨x7, y7, t, n7, h4⟩
        · have e2 := neg_inj _ _ e2
          subst e1; subst e2
          have a := add_of_ln C h2.ro.ro
          rw [add_of_ln C h1] at a
          rw [a, add_neg_self C hp]
          have := add_neg_self C (on_neg C hr)
          rw [neg_neg] at this
          exact this
        by_cases hd1 : x4 = x3
        · have e3 := lin_same _ _ _ _ _ (hd1 ▸ h3.h1) h3.h2
          subst hd1
          rw [e3]
          have h1' : Ln C.b x1 y1 x2 y2 x4 (-y3) l n := by rw [← e3, neg_neg]; exact h1
          exact assoc_special C h1' h2
        by_cases hd2 : x5 = x1
        · have e3 := lin_same _ _ _ _ _ h4.h1 (hd2 ▸ h4.h2)
          subst hd2
          rw [← e3]
          -- the other way round
          have h2' : Ln C.b x3 y3 x2 y2 x5 (-y1) m q := by rw [e3, neg_neg]; exact h2.sw
          have := assoc_special C h2' h1.sw
          rw [this]
          exact add_comm' C (p := .pt x4 (-y4)) (q := .pt x3 y3) c4 hr
        obtain ⟨e1, e2⟩ := assoc_gen C h1 h2 h3 h4 hd1 hd2
        rw [add_of_ln C h3, add_of_ln C h4, e1, e2]

/- so many times a point -/
def smul : Nat → Pt F → Pt F
  | 0, _ => .inf
  | n + 1, p => add (smul n p) p
theorem on_smul {p : Pt F} (hp : On C.b p) : ∀ n, On C.b (smul n p)
  | 0 => trivial
  | n + 1 => on_add C (on_smul hp n) hp
theorem smul_add {p : Pt F} (hp : On C.b p) (m : Nat) : ∀ n, smul (m + n) p = add (smul m p) (smul n p)
  | 0 => (add_inf _).symm
  | n + 1 => by
    rw [← Nat.add_assoc]
    simp only [smul]
    rw [smul_add hp m n, add_assoc' C (on_smul C hp m) (on_smul C hp n) hp]
theorem smul_one {p : Pt F} : smul 1 p = p := rfl
theorem smul_mul {p : Pt F} (hp : On C.b p) (m : Nat) : ∀ n, smul (m * n) p = smul n (smul m p)
  | 0 => rfl
  | n + 1 => by
    rw [Nat.mul_succ, smul_add C hp, smul_mul hp m n]; rfl
theorem smul_inf : ∀ n, smul n (.inf : Pt F) = .inf
  | 0 => rfl
  | n + 1 => by simp only [smul]; rw [smul_inf n]; rfl
theorem neg_neg' (p : Pt F) : neg (neg p) = p := by cases p <;> simp [neg, neg_neg]
theorem add_neg_cancel {p q : Pt F} (hp : On C.b p) (hq : On C.b q) : add (add p q) (neg q) = p := by
  rw [add_assoc' C hp hq (on_negP C hq), add_neg_p C hq, add_inf]
end
end Go.Proofs.YtohjpdglbeohpaaGreat.Rg
/- Points as fractions x/z^2, y/z^3: polynomial identities (printed by wip/gen/jac.py). -/
namespace Go.Proofs.YtohjpdglbeohpaaGreat.Rg
set_option maxRecDepth 100000
set_option maxHeartbeats 4000000

theorem jt_l {F : Type} [CR F] (x y i I : F) (hi : i = ((y + y) * I)) : (((y * ((i * i) * i)) + (y * ((i * i) * i))) * ((((x * x) + (x * x)) + (x * x)) * I)) = ((((x * (i * i)) * (x * (i * i))) + ((x * (i * i)) * (x * (i * i)))) + ((x * (i * i)) * (x * (i * i)))) :=
  sub_zero_iff.1 (lin [x, y, i, I] (.sub (.mul (.add (.mul (.v 1) (.mul (.mul (.v 2) (.v 2)) (.v 2))) (.mul (.v 1) (.mul (.mul (.v 2) (.v 2)) (.v 2)))) (.mul (.add (.add (.mul (.v 0) (.v 0)) (.mul (.v 0) (.v 0))) (.mul (.v 0) (.v 0))) (.v 3))) (.add (.add (.mul (.mul (.v 0) (.mul (.v 2) (.v 2))) (.mul (.v 0) (.mul (.v 2) (.v 2)))) (.mul (.mul (.v 0) (.mul (.v 2) (.v 2))) (.mul (.v 0) (.mul (.v 2) (.v 2))))) (.mul (.mul (.v 0) (.mul (.v 2) (.v 2))) (.mul (.v 0) (.mul (.v 2) (.v 2)))))) [((.mul (.mul (.c (-3)) (.pw (.v 2) 3)) (.pw (.v 0) 2)), .sub (.v 2) (.mul (.add (.v 1) (.v 1)) (.v 3)))] ⟨sub_zero_iff.2 hi, trivial⟩ (by kernel_rfl))
theorem jt_x {F : Type} [CR F] (x y i I : F) (hi : i = ((y + y) * I)) : (((((((x * x) + (x * x)) + (x * x)) * I) * ((((x * x) + (x * x)) + (x * x)) * I)) - (x * (i * i))) - (x * (i * i))) = ((((((x * x) + (x * x)) + (x * x)) * (((x * x) + (x * x)) + (x * x))) - ((((x * (y * y)) + (x * (y * y))) + ((x * (y * y)) + (x * (y * y)))) + (((x * (y * y)) + (x * (y * y))) + ((x * (y * y)) + (x * (y * y)))))) * (I * I)) :=
  sub_zero_iff.1 (lin [x, y, i, I] (.sub (.sub (.sub (.mul (.mul (.add (.add (.mul (.v 0) (.v 0)) (.mul (.v 0) (.v 0))) (.mul (.v 0) (.v 0))) (.v 3)) (.mul (.add (.add (.mul (.v 0) (.v 0)) (.mul (.v 0) (.v 0))) (.mul (.v 0) (.v 0))) (.v 3))) (.mul (.v 0) (.mul (.v 2) (.v 2)))) (.mul (.v 0) (.mul (.v 2) (.v 2)))) (.mul (.sub (.mul (.add (.add (.mul (.v 0) (.v 0)) (.mul (.v 0) (.v 0))) (.mul (.v 0) (.v 0))) (.add (.add (.mul (.v 0) (.v 0)) (.mul (.v 0) (.v 0))) (.mul (.v 0) (.v 0)))) (.add (.add (.add (.mul (.v 0) (.mul (.v 1) (.v 1))) (.mul (.v 0) (.mul (.v 1) (.v 1)))) (.add (.mul (.v 0) (.mul (.v 1) (.v 1))) (.mul (.v 0) (.mul (.v 1) (.v 1))))) (.add (.add (.mul (.v 0) (.mul (.v 1) (.v 1))) (.mul (.v 0) (.mul (.v 1) (.v 1)))) (.add (.mul (.v 0) (.mul (.v 1) (.v 1))) (.mul (.v 0) (.mul (.v 1) (.v 1))))))) (.mul (.v 3) (.v 3)))) [((.add (.mul (.mul (.c (-2)) (.v 2)) (.v 0)) (.mul (.mul (.mul (.c (-4)) (.v 0)) (.v 1)) (.v 3))), .sub (.v 2) (.mul (.add (.v 1) (.v 1)) (.v 3)))] ⟨sub_zero_iff.2 hi, trivial⟩ (by kernel_rfl))
theorem jt_y {F : Type} [CR F] (x y i I : F) (hi : i = ((y + y) * I)) : ((((((x * x) + (x * x)) + (x * x)) * I) * ((x * (i * i)) - (((((((x * x) + (x * x)) + (x * x)) * I) * ((((x * x) + (x * x)) + (x * x)) * I)) - (x * (i * i))) - (x * (i * i))))) - (y * ((i * i) * i))) = ((((((x * x) + (x * x)) + (x * x)) * ((((x * (y * y)) + (x * (y * y))) + ((x * (y * y)) + (x * (y * y)))) - (((((x * x) + (x * x)) + (x * x)) * (((x * x) + (x * x)) + (x * x))) - ((((x * (y * y)) + (x * (y * y))) + ((x * (y * y)) + (x * (y * y)))) + (((x * (y * y)) + (x * (y * y))) + ((x * (y * y)) + (x * (y * y)))))))) - (((((y * y) * (y * y)) + ((y * y) * (y * y))) + (((y * y) * (y * y)) + ((y * y) * (y * y)))) + ((((y * y) * (y * y)) + ((y * y) * (y * y))) + (((y * y) * (y * y)) + ((y * y) * (y * y)))))) * ((I * I) * I)) :=
  sub_zero_iff.1 (lin [x, y, i, I] (.sub (.sub (.mul (.mul (.add (.add (.mul (.v 0) (.v 0)) (.mul (.v 0) (.v 0))) (.mul (.v 0) (.v 0))) (.v 3)) (.sub (.mul (.v 0) (.mul (.v 2) (.v 2))) (.sub (.sub (.mul (.mul (.add (.add (.mul (.v 0) (.v 0)) (.mul (.v 0) (.v 0))) (.mul (.v 0) (.v 0))) (.v 3)) (.mul (.add (.add (.mul (.v 0) (.v 0)) (.mul (.v 0) (.v 0))) (.mul (.v 0) (.v 0))) (.v 3))) (.mul (.v 0) (.mul (.v 2) (.v 2)))) (.mul (.v 0) (.mul (.v 2) (.v 2)))))) (.mul (.v 1) (.mul (.mul (.v 2) (.v 2)) (.v 2)))) (.mul (.sub (.mul (.add (.add (.mul (.v 0) (.v 0)) (.mul (.v 0) (.v 0))) (.mul (.v 0) (.v 0))) (.sub (.add (.add (.mul (.v 0) (.mul (.v 1) (.v 1))) (.mul (.v 0) (.mul (.v 1) (.v 1)))) (.add (.mul (.v 0) (.mul (.v 1) (.v 1))) (.mul (.v 0) (.mul (.v 1) (.v 1))))) (.sub (.mul (.add (.add (.mul (.v 0) (.v 0)) (.mul (.v 0) (.v 0))) (.mul (.v 0) (.v 0))) (.add (.add (.mul (.v 0) (.v 0)) (.mul (.v 0) (.v 0))) (.mul (.v 0) (.v 0)))) (.add (.add (.add (.mul (.v 0) (.mul (.v 1) (.v 1))) (.mul (.v 0) (.mul (.v 1) (.v 1)))) (.add (.mul (.v 0) (.mul (.v 1) (.v 1))) (.mul (.v 0) (.mul (.v 1) (.v 1))))) (.add (.add (.mul (.v 0) (.mul (.v 1) (.v 1))) (.mul (.v 0) (.mul (.v 1) (.v 1)))) (.add (.mul (.v 0) (.mul (.v 1) (.v 1))) (.mul (.v 0) (.mul (.v 1) (.v 1))))))))) (.add (.add (.add (.mul (.mul (.v 1) (.v 1)) (.mul (.v 1) (.v 1))) (.mul (.mul (.v 1) (.v 1)) (.mul (.v 1) (.v 1)))) (.add (.mul (.mul (.v 1) (.v 1)) (.mul (.v 1) (.v 1))) (.mul (.mul (.v 1) (.v 1)) (.mul (.v 1) (.v 1))))) (.add (.add (.mul (.mul (.v 1) (.v 1)) (.mul (.v 1) (.v 1))) (.mul (.mul (.v 1) (.v 1)) (.mul (.v 1) (.v 1)))) (.add (.mul (.mul (.v 1) (.v 1)) (.mul (.v 1) (.v 1))) (.mul (.mul (.v 1) (.v 1)) (.mul (.v 1) (.v 1))))))) (.mul (.mul (.v 3) (.v 3)) (.v 3)))) [((.add (.add (.neg (.mul (.pw (.v 2) 2) (.v 1))) (.mul (.mul (.mul (.c 9) (.v 2)) (.pw (.v 0) 3)) (.v 3))) (.add (.mul (.mul (.mul (.c (-2)) (.v 2)) (.pw (.v 1) 2)) (.v 3)) (.add (.mul (.mul (.mul (.c 18) (.pw (.v 0) 3)) (.v 1)) (.pw (.v 3) 2)) (.mul (.mul (.c (-4)) (.pw (.v 1) 3)) (.pw (.v 3) 2))))), .sub (.v 2) (.mul (.add (.v 1) (.v 1)) (.v 3)))] ⟨sub_zero_iff.2 hi, trivial⟩ (by kernel_rfl))
theorem jt_i {F : Type} [CR F] (y z i I : F) (hz : (z * i) = (int 1)) (hZ : (((y * z) + (y * z)) * I) = (int 1)) : i = ((y + y) * I) :=
  sub_zero_iff.1 (lin [y, z, i, I] (.sub (.v 2) (.mul (.add (.v 0) (.v 0)) (.v 3))) [((.mul (.mul (.c 2) (.v 0)) (.v 3)), .sub (.mul (.v 1) (.v 2)) (.c 1)),
    ((.neg (.v 2)), .sub (.mul (.add (.mul (.v 0) (.v 1)) (.mul (.v 0) (.v 1))) (.v 3)) (.c 1))] ⟨sub_zero_iff.2 hz, sub_zero_iff.2 hZ, trivial⟩ (by kernel_rfl))
theorem jp_h {F : Type} [CR F] (x a z i : F) (hz : (z * i) = (int 1)) : (((a * (z * z)) - x) * (i * i)) = (a - (x * (i * i))) :=
  sub_zero_iff.1 (lin [x, a, z, i] (.sub (.mul (.sub (.mul (.v 1) (.mul (.v 2) (.v 2))) (.v 0)) (.mul (.v 3) (.v 3))) (.sub (.v 1) (.mul (.v 0) (.mul (.v 3) (.v 3))))) [((.add (.mul (.mul (.v 1) (.v 2)) (.v 3)) (.v 1)), .sub (.mul (.v 2) (.v 3)) (.c 1))] ⟨sub_zero_iff.2 hz, trivial⟩ (by kernel_rfl))
theorem jp_r {F : Type} [CR F] (y b z i : F) (hz : (z * i) = (int 1)) : (((b * ((z * z) * z)) - y) * ((i * i) * i)) = (b - (y * ((i * i) * i))) :=
  sub_zero_iff.1 (lin [y, b, z, i] (.sub (.mul (.sub (.mul (.v 1) (.mul (.mul (.v 2) (.v 2)) (.v 2))) (.v 0)) (.mul (.mul (.v 3) (.v 3)) (.v 3))) (.sub (.v 1) (.mul (.v 0) (.mul (.mul (.v 3) (.v 3)) (.v 3))))) [((.add (.mul (.mul (.v 1) (.pw (.v 2) 2)) (.pw (.v 3) 2)) (.add (.mul (.mul (.v 1) (.v 2)) (.v 3)) (.v 1))), .sub (.mul (.v 2) (.v 3)) (.c 1))] ⟨sub_zero_iff.2 hz, trivial⟩ (by kernel_rfl))
theorem jp_i {F : Type} [CR F] (z h i I : F) (hz : (z * i) = (int 1)) (hZ : ((z * h) * I) = (int 1)) : i = (h * I) :=
  sub_zero_iff.1 (lin [z, h, i, I] (.sub (.v 2) (.mul (.v 1) (.v 3))) [((.mul (.v 1) (.v 3)), .sub (.mul (.v 0) (.v 2)) (.c 1)),
    ((.neg (.v 2)), .sub (.mul (.mul (.v 0) (.v 1)) (.v 3)) (.c 1))] ⟨sub_zero_iff.2 hz, sub_zero_iff.2 hZ, trivial⟩ (by kernel_rfl))
theorem jp_l {F : Type} [CR F] (x y a b i I h r : F) (hi : i = (h * I)) (hh : (h * (i * i)) = (a - (x * (i * i)))) (hr : (r * ((i * i) * i)) = (b - (y * ((i * i) * i)))) : ((a - (x * (i * i))) * (r * I)) = (b - (y * ((i * i) * i))) :=
  sub_zero_iff.1 (lin [x, y, a, b, i, I, h, r] (.sub (.mul (.sub (.v 2) (.mul (.v 0) (.mul (.v 4) (.v 4)))) (.mul (.v 7) (.v 5))) (.sub (.v 3) (.mul (.v 1) (.mul (.mul (.v 4) (.v 4)) (.v 4))))) [((.neg (.mul (.pw (.v 4) 2) (.v 7))), .sub (.v 4) (.mul (.v 6) (.v 5))),
    ((.neg (.mul (.v 5) (.v 7))), .sub (.mul (.v 6) (.mul (.v 4) (.v 4))) (.sub (.v 2) (.mul (.v 0) (.mul (.v 4) (.v 4))))),
    ((.c 1), .sub (.mul (.v 7) (.mul (.mul (.v 4) (.v 4)) (.v 4))) (.sub (.v 3) (.mul (.v 1) (.mul (.mul (.v 4) (.v 4)) (.v 4)))))] ⟨sub_zero_iff.2 hi, sub_zero_iff.2 hh, sub_zero_iff.2 hr, trivial⟩ (by kernel_rfl))
theorem jp_x {F : Type} [CR F] (x y a i I h r : F) (hi : i = (h * I)) (hh : (h * (i * i)) = (a - (x * (i * i)))) : ((((r * I) * (r * I)) - (x * (i * i))) - a) = ((((r * r) - ((h * h) * h)) - ((x * (h * h)) + (x * (h * h)))) * (I * I)) :=
  sub_zero_iff.1 (lin [x, y, a, i, I, h, r] (.sub (.sub (.sub (.mul (.mul (.v 6) (.v 4)) (.mul (.v 6) (.v 4))) (.mul (.v 0) (.mul (.v 3) (.v 3)))) (.v 2)) (.mul (.sub (.sub (.mul (.v 6) (.v 6)) (.mul (.mul (.v 5) (.v 5)) (.v 5))) (.add (.mul (.v 0) (.mul (.v 5) (.v 5))) (.mul (.v 0) (.mul (.v 5) (.v 5))))) (.mul (.v 4) (.v 4)))) [((.add (.add (.mul (.mul (.c (-2)) (.v 0)) (.v 3)) (.mul (.mul (.mul (.c (-2)) (.v 0)) (.v 4)) (.v 5))) (.add (.neg (.mul (.v 3) (.v 5))) (.neg (.mul (.v 4) (.pw (.v 5) 2))))), .sub (.v 3) (.mul (.v 5) (.v 4))),
    ((.c 1), .sub (.mul (.v 5) (.mul (.v 3) (.v 3))) (.sub (.v 2) (.mul (.v 0) (.mul (.v 3) (.v 3)))))] ⟨sub_zero_iff.2 hi, sub_zero_iff.2 hh, trivial⟩ (by kernel_rfl))
theorem jp_y {F : Type} [CR F] (x y a i I h r : F) (hi : i = (h * I)) (hh : (h * (i * i)) = (a - (x * (i * i)))) : (((r * I) * ((x * (i * i)) - ((((r * I) * (r * I)) - (x * (i * i))) - a))) - (y * ((i * i) * i))) = (((r * ((x * (h * h)) - (((r * r) - ((h * h) * h)) - ((x * (h * h)) + (x * (h * h)))))) - (y * ((h * h) * h))) * ((I * I) * I)) :=
  sub_zero_iff.1 (lin [x, y, a, i, I, h, r] (.sub (.sub (.mul (.mul (.v 6) (.v 4)) (.sub (.mul (.v 0) (.mul (.v 3) (.v 3))) (.sub (.sub (.mul (.mul (.v 6) (.v 4)) (.mul (.v 6) (.v 4))) (.mul (.v 0) (.mul (.v 3) (.v 3)))) (.v 2)))) (.mul (.v 1) (.mul (.mul (.v 3) (.v 3)) (.v 3)))) (.mul (.sub (.mul (.v 6) (.sub (.mul (.v 0) (.mul (.v 5) (.v 5))) (.sub (.sub (.mul (.v 6) (.v 6)) (.mul (.mul (.v 5) (.v 5)) (.v 5))) (.add (.mul (.v 0) (.mul (.v 5) (.v 5))) (.mul (.v 0) (.mul (.v 5) (.v 5))))))) (.mul (.v 1) (.mul (.mul (.v 5) (.v 5)) (.v 5)))) (.mul (.mul (.v 4) (.v 4)) (.v 4)))) [((.add (.add (.mul (.mul (.mul (.mul (.c 3) (.v 0)) (.v 3)) (.v 4)) (.v 6)) (.add (.mul (.mul (.mul (.mul (.c 3) (.v 0)) (.pw (.v 4) 2)) (.v 5)) (.v 6)) (.neg (.mul (.v 1) (.pw (.v 3) 2))))) (.add (.add (.neg (.mul (.mul (.mul (.v 1) (.v 3)) (.v 4)) (.v 5))) (.neg (.mul (.mul (.v 1) (.pw (.v 4) 2)) (.pw (.v 5) 2)))) (.add (.mul (.mul (.mul (.v 3) (.v 4)) (.v 5)) (.v 6)) (.mul (.mul (.pw (.v 4) 2) (.pw (.v 5) 2)) (.v 6))))), .sub (.v 3) (.mul (.v 5) (.v 4))),
    ((.neg (.mul (.v 4) (.v 6))), .sub (.mul (.v 5) (.mul (.v 3) (.v 3))) (.sub (.v 2) (.mul (.v 0) (.mul (.v 3) (.v 3)))))] ⟨sub_zero_iff.2 hi, sub_zero_iff.2 hh, trivial⟩ (by kernel_rfl))
end Go.Proofs.YtohjpdglbeohpaaGreat.Rg
/- Points as fractions: doubling and adding without a division. -/
namespace Go.Proofs.YtohjpdglbeohpaaGreat.Rg
open FD (inv)

structure J (F : Type) where
  x : F
  y : F
  z : F
section
variable {F : Type} [FD F]
def ptJ (j : J F) : Pt F := if j.z = 0 then .inf else .pt (j.x * (inv j.z * inv j.z)) (j.y * ((inv j.z * inv j.z) * inv j.z))
def jE (x : F) : F := x * x + x * x + x * x
def jD (x y : F) : F := x * (y * y) + x * (y * y) + (x * (y * y) + x * (y * y))
def jC2 (y : F) : F := (y * y) * (y * y) + (y * y) * (y * y)
def jC4 (y : F) : F := jC2 y + jC2 y
def jC8 (y : F) : F := jC4 y + jC4 y
def jX (x y : F) : F := jE x * jE x - (jD x y + jD x y)
def twJ (j : J F) : J F := ⟨jX j.x j.y, jE j.x * (jD j.x j.y - jX j.x j.y) - jC8 j.y, j.y * j.z + j.y * j.z⟩
def pX (x h r : F) : F := r * r - (h * h) * h - (x * (h * h) + x * (h * h))
def pY (x y h r : F) : F := r * (x * (h * h) - pX x h r) - y * ((h * h) * h)
def pH (j : J F) (a : F) : F := a * (j.z * j.z) - j.x
def pR (j : J F) (b : F) : F := b * ((j.z * j.z) * j.z) - j.y
def plJ (j : J F) (a b : F) : J F :=
  if j.z = 0 then ⟨a, b, 1⟩ else if pH j a = 0 then (if pR j b = 0 then twJ j else ⟨0, 0, 0⟩)
  else ⟨pX j.x (pH j a) (pR j b), pY j.x j.y (pH j a) (pR j b), j.z * pH j a⟩
theorem zi1 {z : F} (h : z ≠ 0) : z * inv z = int 1 := by rw [FD.mul_inv z h, int_one]
theorem ptJ_ne {j : J F} (h : j.z ≠ 0) : ptJ j = .pt (j.x * (inv j.z * inv j.z)) (j.y * ((inv j.z * inv j.z) * inv j.z)) := if_neg h
theorem ptJ_zero {j : J F} (h : j.z = 0) : ptJ j = .inf := if_pos h
theorem inv_one : inv (1 : F) = 1 := by have := FD.mul_inv (1 : F) FD.one_ne; rwa [one_mul] at this
theorem inv_ne {z : F} (h : z ≠ 0) : inv z ≠ 0 := fun e => by
  have := FD.mul_inv z h
  rw [e, mul_zero] at this
  exact FD.one_ne this.symm
variable (C : Cv F)
theorem ptJ_tw {j : J F} (hp : On C.b (ptJ j)) : ptJ (twJ j) = add (ptJ j) (ptJ j) := by
  by_cases hz : j.z = 0
  · have h2 : (twJ j).z = 0 := by show j.y * j.z + j.y * j.z = 0; rw [hz, mul_zero, zero_add]
    rw [ptJ_zero h2, ptJ_zero hz]; rfl
  · rw [ptJ_ne hz] at hp ⊢
    have hY := C.no2 _ _ hp
    have hy : j.y ≠ 0 := fun e => hY (by rw [e, zero_mul])
    have hZ : j.y * j.z + j.y * j.z ≠ 0 := two_ne C (mul_ne hy hz)
    have hi := jt_i j.y j.z (inv j.z) (inv (j.y * j.z + j.y * j.z)) (zi1 hz) (zi1 hZ)
    rw [ptJ_ne (j := twJ j) hZ, add_pt, if_pos rfl, if_pos ⟨rfl, hY⟩, div_eq (two_ne C hY) (jt_l j.x j.y _ _ hi)]
    unfold sumAt
    rw [jt_x j.x j.y _ _ hi]
    have h2 := jt_y j.x j.y _ _ hi
    rw [jt_x j.x j.y _ _ hi] at h2
    rw [h2]; rfl
theorem ptJ_pl {j : J F} {a b : F} (hp : On C.b (ptJ j)) : ptJ (plJ j a b) = add (ptJ j) (.pt a b) := by
  unfold plJ
  by_cases hz : j.z = 0
  · rw [if_pos hz, ptJ_zero hz, ptJ_ne (j := ⟨a, b, 1⟩) FD.one_ne]
    show Pt.pt (a * (inv 1 * inv 1)) (b * ((inv 1 * inv 1) * inv 1)) = .pt a b
    rw [inv_one, one_mul, one_mul, mul_one, mul_one]
  · rw [if_neg hz]
    have eh : pH j a * (inv j.z * inv j.z) = a - j.x * (inv j.z * inv j.z) := jp_h j.x a j.z _ (zi1 hz)
    have er : pR j b * ((inv j.z * inv j.z) * inv j.z) = b - j.y * ((inv j.z * inv j.z) * inv j.z) := jp_r j.y b j.z _ (zi1 hz)
    have hi := inv_ne hz
    by_cases hh : pH j a = 0
    · have ea : a = j.x * (inv j.z * inv j.z) := sub_zero_iff.1 (by rw [← eh, hh, zero_mul])
      rw [if_pos hh]
      by_cases hr : pR j b = 0
      · have eb : b = j.y * ((inv j.z * inv j.z) * inv j.z) := sub_zero_iff.1 (by rw [← er, hr, zero_mul])
        rw [if_pos hr, ptJ_tw C hp]
        conv => rhs; rw [ea, eb]
        rw [ptJ_ne hz]
      · rw [if_neg hr, ptJ_zero (j := ⟨0, 0, 0⟩) rfl, ptJ_ne hz, add_pt, if_pos ea.symm, if_neg]
        rintro ⟨e, _⟩
        have : b - j.y * ((inv j.z * inv j.z) * inv j.z) = 0 := sub_zero_iff.2 e.symm
        rw [← er] at this
        exact mul_ne hr (mul_ne (mul_ne hi hi) hi) this
    · rw [if_neg hh]
      have hax : a - j.x * (inv j.z * inv j.z) ≠ 0 := by rw [← eh]; exact mul_ne hh (mul_ne hi hi)
      have hZ : j.z * pH j a ≠ 0 := mul_ne hz hh
      have hI := jp_i j.z (pH j a) (inv j.z) (inv (j.z * pH j a)) (zi1 hz) (zi1 hZ)
      have hl := jp_l j.x j.y a b _ _ _ _ hI eh er
      rw [ptJ_ne (j := ⟨pX j.x (pH j a) (pR j b), pY j.x j.y (pH j a) (pR j b), j.z * pH j a⟩) hZ, ptJ_ne hz, add_pt, if_neg (fun e => hax (sub_zero_iff.2 e.symm)), div_eq hax hl]
      unfold sumAt
      have e1 := jp_x j.x j.y a (inv j.z) (inv (j.z * pH j a)) (pH j a) (pR j b) hI eh
      have e2 := jp_y j.x j.y a (inv j.z) (inv (j.z * pH j a)) (pH j a) (pR j b) hI eh
      rw [e1] at e2
      rw [e1, e2]; rfl
end
end Go.Proofs.YtohjpdglbeohpaaGreat.Rg
/- Identities of commutative rings, read off by instances. -/
namespace Go.Proofs.YtohjpdglbeohpaaGreat.Rg

section
variable {F : Type} [CR F]
/-- x stands at place i. -/
class At (xs : List F) (x : F) (i : outParam Nat) : Prop where
  h : nth xs i = x
instance atTail {xs : List F} {x y : F} {i : Nat} [a : At xs x i] : At (y :: xs) x (i + 1) := ⟨a.h⟩
instance (priority := high) atHead {xs : List F} {x : F} : At (x :: xs) x 0 := ⟨rfl⟩
/-- t is what e says. -/
class Rf (xs : List F) (t : F) (e : outParam E) : Prop where
  h : e.den xs = t
instance (priority := low) rfV {xs : List F} {x : F} {i : Nat} [a : At xs x i] : Rf xs x (.v i) := ⟨a.h⟩
instance rfAdd {xs : List F} {a b : F} {e f : E} [x : Rf xs a e] [y : Rf xs b f] : Rf xs (a + b) (.add e f) := ⟨by rw [E.den, x.h, y.h]⟩
instance rfSub {xs : List F} {a b : F} {e f : E} [x : Rf xs a e] [y : Rf xs b f] : Rf xs (a - b) (.sub e f) := ⟨by rw [E.den, x.h, y.h]⟩
instance rfMul {xs : List F} {a b : F} {e f : E} [x : Rf xs a e] [y : Rf xs b f] : Rf xs (a * b) (.mul e f) := ⟨by rw [E.den, x.h, y.h]⟩
instance rfNeg {xs : List F} {a : F} {e : E} [x : Rf xs a e] : Rf xs (-a) (.neg e) := ⟨by rw [E.den, x.h]⟩
instance rfPw {xs : List F} {a : F} {n : Nat} {e : E} [x : Rf xs a e] : Rf xs (pw a n) (.pw e n) := ⟨by rw [E.den, x.h]⟩
instance rfInt {xs : List F} {i : Int} : Rf xs (int i) (.c i) := ⟨rfl⟩
instance rfZero {xs : List F} : Rf xs 0 (.c 0) := ⟨rfl⟩
instance rfOne {xs : List F} : Rf xs 1 (.c 1) := ⟨int_one⟩
theorem ring (xs : List F) {a b : F} {e f : E} [x : Rf xs a e] [y : Rf xs b f] (h : nilP (E.pol (.sub e f)) = true) : a = b := by
  rw [← x.h, ← y.h]; exact ident xs e f h
/- with what is known: cofactors times differences -/
theorem ring1 (xs : List F) {l r a b : F} (h : l = r) (c : F) {e f : E} [x : Rf xs (a + c * r) e] [y : Rf xs (b + c * l) f] (k : nilP (E.pol (.sub e f)) = true) : a = b := by
  have := ring xs (a := a + c * r) (b := b + c * l) k
  rw [h, add_comm a, add_comm b] at this
  exact add_left_cancel this
theorem ring2 (xs : List F) {l r l' r' a b : F} (h : l = r) (c : F) (h' : l' = r') (c' : F) {e f : E} [x : Rf xs (a + c * r + c' * r') e] [y : Rf xs (b + c * l + c' * l') f] (k : nilP (E.pol (.sub e f)) = true) : a = b := by
  have := ring xs (a := a + c * r + c' * r') (b := b + c * l + c' * l') k
  rw [h, h', add_comm _ (c' * r'), add_comm (b + _) (c' * r')] at this
  have := add_left_cancel this
  rw [add_comm a, add_comm b] at this
  exact add_left_cancel this
end
end Go.Proofs.YtohjpdglbeohpaaGreat.Rg
