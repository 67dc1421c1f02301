/- Part 7 of the proof: Jk, Oe, Of, Jl, Jm, Oh, Qa, Va, Vb, Vc, Vd, Ve, Vf. -/
import Derived.Test.YtfmajnlfpnjagaaGreatPF
import Derived.Test.YtfmajnlfpnjagaaGreatPB
import Derived.Tactics
import Derived.Tactics2
import Derived.Recover
import Derived.Test.YtfmajnlfpnjagaaGreatLy
/- codec.Decode1: the contract. -/
namespace Go.Proofs.YtfmajnlfpnjagaaGreat
open Ex Num Rg
open Sh (R av rd mo en mo_en)
set_option maxRecDepth 100000
set_option maxHeartbeats 4000000

noncomputable def SJi : List (FuncId × ASpec) := (72, rdSp) :: SJg
theorem SJiok : SpecsOk Tryz.prog SJi := ⟨rdSp_ok, SJgok⟩
noncomputable abbrev oJi : Orc := orc SJi KH
theorem oJiok : OrcOk Tryz.prog oJi := orc_ok SJiok KHok
def wcC (n m : Nat) (xs : List Int) (b d : Bool) (r : List (Bool × Bool)) : List (Bool × Bool) := (Nat.ble n xs.length, true) :: (Nat.ble n m, true) :: (hasB .i64 n, true) :: (b, d) :: r
def dcA (n m : Nat) (s : Bool) : List AV := [slA 0 0 n m, .val false [.b s]]
/-- The numbers of bytes. -/
noncomputable def xN (K j : Nat) (L : List Int) : Nat := nbW (rsL L (48 * K - 1)) (48 * j)
noncomputable def yR (x : Nat) : Nat := rootN (ad FP (mu FP (mu FP x x) x) (4 : Nat))
noncomputable def yB (x : Nat) (b : Bool) : Nat := if (!(biggerN (yR x) == b)) = true then ng FP (yR x) else yR x
def dE (e : Int) : AV := .tup [(true, zero12 false), (false, [.n .i64 e])]
def dP (x y : Nat) : AV := .tup [(true, [.num 6 x, .num 6 y, .b false]), (false, [.n .i64 0])]
section
variable (n m : Nat) (xs : List Int)
noncomputable def d1S (s : Bool) (p : List Bool) : ASt := entry Tryz.f71 (dcA n m s) (byH xs) 1 p
theorem d1s_e : segOut Tryz.prog oJi Tryz.f71 800 1 [] (d1S n m xs true [true, true]) = some (wcC n m xs (rdN 1 true (win xs 0 n)) false [(!decide (rdE 1 true (win xs 0 n) = 0), true)], [], .tup [(true, zero12 false), (false, [.v (.int .i64 (rdE 1 true (win xs 0 n)))])], []) := by kernel_rfl
theorem d1s_i : segOut Tryz.prog oJi Tryz.f71 800 1 [] (d1S n m xs true [true, false, true]) = some (wcC n m xs (rdN 1 true (win xs 0 n)) false ((!decide (rdE 1 true (win xs 0 n) = 0), false) :: tt 2 []), [], .tup [(true, zero12 true), (false, [.n .i64 0])], []) := by kernel_rfl
theorem d1l_e : segOut Tryz.prog oJi Tryz.f71 800 1 [] (d1S n m xs false [true, true]) = some (wcC n m xs (rdN 2 false (win xs 0 n)) false [(!decide (rdE 2 false (win xs 0 n) = 0), true)], [], .tup [(true, zero12 false), (false, [.v (.int .i64 (rdE 2 false (win xs 0 n)))])], []) := by kernel_rfl
theorem d1l_i : segOut Tryz.prog oJi Tryz.f71 800 1 [] (d1S n m xs false [true, false, true]) = some (wcC n m xs (rdN 2 false (win xs 0 n)) false ((!decide (rdE 2 false (win xs 0 n) = 0), false) :: tt 2 []), [], .tup [(true, zero12 true), (false, [.n .i64 0])], []) := by kernel_rfl
noncomputable def d1C (b : Bool) (r : List (Bool × Bool)) : List (Bool × Bool) := wcC n m xs (rdN 1 true (win xs 0 n)) true ((true, true) :: (false, false) :: (true, true) :: (!(biggerN (yR (xN 1 0 (win xs 0 n))) == flB (win xs 0 n) 32), b) :: r)
theorem d1s_t1 : segOut Tryz.prog oJi Tryz.f71 800 1 [] (d1S n m xs true [false, false, true, true]) = some (d1C n m xs true [(!onP (toPt (xN 1 0 (win xs 0 n)) (ng FP (yR (xN 1 0 (win xs 0 n)))) false), true)], [], dE 204, []) := by kernel_rfl
theorem d1s_t2 : segOut Tryz.prog oJi Tryz.f71 800 1 [] (d1S n m xs true [false, false, true, false, true]) = some (d1C n m xs true [(!onP (toPt (xN 1 0 (win xs 0 n)) (ng FP (yR (xN 1 0 (win xs 0 n)))) false), false), (!in1 (toPt (xN 1 0 (win xs 0 n)) (ng FP (yR (xN 1 0 (win xs 0 n)))) false), true)], [], dE 205, []) := by kernel_rfl
theorem d1s_t3 : segOut Tryz.prog oJi Tryz.f71 800 1 [] (d1S n m xs true [false, false, true, false, false]) = some (d1C n m xs true [(!onP (toPt (xN 1 0 (win xs 0 n)) (ng FP (yR (xN 1 0 (win xs 0 n)))) false), false), (!in1 (toPt (xN 1 0 (win xs 0 n)) (ng FP (yR (xN 1 0 (win xs 0 n)))) false), false)], [], dP (xN 1 0 (win xs 0 n)) (ng FP (yR (xN 1 0 (win xs 0 n)))), []) := by kernel_rfl
theorem d1s_f1 : segOut Tryz.prog oJi Tryz.f71 800 1 [] (d1S n m xs true [false, false, false, true]) = some (d1C n m xs false [(!onP (toPt (xN 1 0 (win xs 0 n)) (yR (xN 1 0 (win xs 0 n))) false), true)], [], dE 204, []) := by kernel_rfl
theorem d1s_f2 : segOut Tryz.prog oJi Tryz.f71 800 1 [] (d1S n m xs true [false, false, false, false, true]) = some (d1C n m xs false [(!onP (toPt (xN 1 0 (win xs 0 n)) (yR (xN 1 0 (win xs 0 n))) false), false), (!in1 (toPt (xN 1 0 (win xs 0 n)) (yR (xN 1 0 (win xs 0 n))) false), true)], [], dE 205, []) := by kernel_rfl
theorem d1s_f3 : segOut Tryz.prog oJi Tryz.f71 800 1 [] (d1S n m xs true [false, false, false, false, false]) = some (d1C n m xs false [(!onP (toPt (xN 1 0 (win xs 0 n)) (yR (xN 1 0 (win xs 0 n))) false), false), (!in1 (toPt (xN 1 0 (win xs 0 n)) (yR (xN 1 0 (win xs 0 n))) false), false)], [], dP (xN 1 0 (win xs 0 n)) (yR (xN 1 0 (win xs 0 n))), []) := by kernel_rfl
noncomputable def d1D (r : List (Bool × Bool)) : List (Bool × Bool) := wcC n m xs (rdN 2 false (win xs 0 n)) true ((true, true) :: (false, false) :: tt 2 r)
theorem d1l_1 : segOut Tryz.prog oJi Tryz.f71 800 1 [] (d1S n m xs false [false, false, true]) = some (d1D n m xs [(!onP (toPt (xN 2 0 (win xs 0 n)) (xN 2 1 (win xs 0 n)) false), true)], [], dE 204, []) := by kernel_rfl
theorem d1l_2 : segOut Tryz.prog oJi Tryz.f71 800 1 [] (d1S n m xs false [false, false, false, true]) = some (d1D n m xs [(!onP (toPt (xN 2 0 (win xs 0 n)) (xN 2 1 (win xs 0 n)) false), false), (!in1 (toPt (xN 2 0 (win xs 0 n)) (xN 2 1 (win xs 0 n)) false), true)], [], dE 205, []) := by kernel_rfl
theorem d1l_3 : segOut Tryz.prog oJi Tryz.f71 800 1 [] (d1S n m xs false [false, false, false, false]) = some (d1D n m xs [(!onP (toPt (xN 2 0 (win xs 0 n)) (xN 2 1 (win xs 0 n)) false), false), (!in1 (toPt (xN 2 0 (win xs 0 n)) (xN 2 1 (win xs 0 n)) false), false)], [], dP (xN 2 0 (win xs 0 n)) (xN 2 1 (win xs 0 n)), []) := by kernel_rfl
end
/-- A point that was read: it must lie on the curve, and be of order r. -/
noncomputable def fin1 (p : Pt FP) : Pt FP × Int := if onP p = true then (if in1 p = true then (p, 0) else (.pt 0 0, 205)) else (.pt 0 0, 204)
noncomputable def pt1 (s : Bool) (L : List Int) : Pt FP := match s with
  | true => toPt (xN 1 0 L) (yB (xN 1 0 L) (flB L 32)) false
  | false => toPt (xN 2 0 L) (xN 2 1 L) false
def kS (s : Bool) : Nat := match s with | true => 1 | false => 2
noncomputable def dec1 (s : Bool) (L : List Int) : Pt FP × Int := if rdN (kS s) s L = true then fin1 (pt1 s L) else if rdE (kS s) s L = 0 then (.inf, 0) else (.pt 0 0, rdE (kS s) s L)
noncomputable def gmV (q : Pt FP × Int) : AV := gmA q.1 q.2
theorem gz_A {β : Env} {e : Int} {u : Value} (h : relA β (dE e) u) : relA β (gmV (.pt 0 0, e)) u := relT2 (fun _ q => (asG1_rel (x := 0) (y := 0) (i := false) (by kernel_rfl) q).1) (fun _ q => gval rfl q) h
theorem gp_A {β : Env} {x y : Nat} (hx : x < pN) (hy : y < pN) {u : Value} (h : relA β (dP x y) u) : relA β (gmV (toPt x y false, 0)) u := by
  have e : gmV (toPt x y false, 0) = .tup [(true, [.num 6 x, .num 6 y, .v (.bool false)]), (false, [.v (.int .i64 0)])] := by
    show gmA (.pt (tf x) (tf y)) 0 = _
    show AV.tup [(true, [Ch.num 6 (tf x).val, Ch.num 6 (tf y).val, Ch.v (.bool false)]), (false, [Ch.v (.int .i64 0)])] = _
    rw [val_tf hx, val_tf hy]
  rw [e]
  exact relT2 (fun _ q => (asG1_rel (x := x) (y := y) (i := false) rfl q).1) (fun _ q => gval rfl q) h
theorem dc_fin {n m : Nat} {xs : List Int} {s : Bool} {x y : Nat} (hx : x < pN) (hy : y < pN) {C : List (Bool × Bool) → List (Bool × Bool)} (hC : ∀ r, okConds r → okConds (C r)) {p1 p2 p3 : List Bool}
    (h1 : segOut Tryz.prog oJi Tryz.f71 800 1 [] (d1S n m xs s p1) = some (C [(!onP (toPt x y false), true)], [], dE 204, []))
    (h2 : segOut Tryz.prog oJi Tryz.f71 800 1 [] (d1S n m xs s p2) = some (C [(!onP (toPt x y false), false), (!in1 (toPt x y false), true)], [], dE 205, []))
    (h3 : segOut Tryz.prog oJi Tryz.f71 800 1 [] (d1S n m xs s p3) = some (C [(!onP (toPt x y false), false), (!in1 (toPt x y false), false)], [], dP x y, [])) :
    CanOk Tryz.prog 71 (dcA n m s) (byH xs) 1 [] (gmV (fin1 (toPt x y false))) [] := by
  unfold fin1
  cases ho : onP (toPt x y false) with
  | false =>
    rw [if_neg Bool.false_ne_true]
    exact can_val (can_run SJiok KHok Tryz.func71 (by kernel_rfl) (by kernel_rfl) h1 (by kernel_rfl) (hC _ ⟨by rw [ho]; rfl, trivial⟩)) fun _ _ q => gz_A q
  | true =>
    rw [if_pos rfl]
    cases hi : in1 (toPt x y false) with
    | false =>
      rw [if_neg Bool.false_ne_true]
      exact can_val (can_run SJiok KHok Tryz.func71 (by kernel_rfl) (by kernel_rfl) h2 (by kernel_rfl) (hC _ ⟨by rw [ho]; rfl, by rw [hi]; rfl, trivial⟩)) fun _ _ q => gz_A q
    | true =>
      rw [if_pos rfl]
      exact can_val (can_run SJiok KHok Tryz.func71 (by kernel_rfl) (by kernel_rfl) h3 (by kernel_rfl) (hC _ ⟨by rw [ho]; rfl, by rw [hi]; rfl, trivial⟩)) fun _ _ q => gp_A hx hy q
theorem xN_lt {K : Nat} {s : Bool} {L : List Int} (h : rdN K s L = true) (j : Nat) (hj : j < K) : xN K j L < pN := by
  unfold rdN at h
  simp only [Bool.and_eq_true] at h
  exact okN_at h.2.2.2.2 j hj
theorem yR_lt (x : Nat) : yR x < pN := by
  unfold yR
  generalize (ad FP (mu FP (mu FP x x) x) (4 : Nat)) = a
  by_cases h : isSqN a = true
  · exact (rootN_spec h).2.2
  · unfold rootN; rw [if_neg h]; exact pN_pos
theorem ng_lt (x : Nat) : Nat.lt (ng FP x) pN := (-(tf x)).isLt
theorem e0_true {e : Int} (h : ¬ e = 0) : (!decide (e = 0)) = true := by rw [decide_eq_false h]; rfl
theorem e0_false {e : Int} (h : e = 0) : (!decide (e = 0)) = false := by rw [decide_eq_true h]; rfl
theorem gi_A {β : Env} {u : Value} (h : relA β (.tup [(true, zero12 true), (false, [.n .i64 0])]) u) : relA β (gmV (.inf, 0)) u := relT2 (fun _ q => (asG1_rel (x := 0) (y := 0) (i := true) (by kernel_rfl) q).1) (fun _ q => gval rfl q) h
theorem ge_A {β : Env} {e : Int} {u : Value} (h : relA β (.tup [(true, zero12 false), (false, [.v (.int .i64 e)])]) u) : relA β (gmV (.pt 0 0, e)) u := relT2 (fun _ q => (asG1_rel (x := 0) (y := 0) (i := false) (by kernel_rfl) q).1) (fun _ q => q) h
theorem dec1_can {n m : Nat} {xs : List Int} (hl : n ≤ xs.length) (hm : n ≤ m) (hn : hasB .i64 n = true) (s : Bool) : CanOk Tryz.prog 71 (dcA n m s) (byH xs) 1 [] (gmV (dec1 s (win xs 0 n))) [] := by
  have hW : ∀ (b d : Bool) r, b = d → okConds r → okConds (wcC n m xs b d r) := fun b d r h hr => ⟨Nat.ble_eq_true_of_le hl, Nat.ble_eq_true_of_le hm, hn, h, hr⟩
  unfold dec1
  cases hr : rdN (kS s) s (win xs 0 n) with
  | false =>
    rw [if_neg Bool.false_ne_true]
    by_cases he : rdE (kS s) s (win xs 0 n) = 0
    · rw [if_pos he]
      cases s with
      | true => exact can_val (can_run SJiok KHok Tryz.func71 (by kernel_rfl) (by kernel_rfl) (d1s_i n m xs) (by kernel_rfl) (hW _ _ _ hr ⟨e0_false he, tt_ok 2 trivial⟩)) fun _ _ q => gi_A q
      | false => exact can_val (can_run SJiok KHok Tryz.func71 (by kernel_rfl) (by kernel_rfl) (d1l_i n m xs) (by kernel_rfl) (hW _ _ _ hr ⟨e0_false he, tt_ok 2 trivial⟩)) fun _ _ q => gi_A q
    · rw [if_neg he]
      cases s with
      | true => exact can_val (can_run SJiok KHok Tryz.func71 (by kernel_rfl) (by kernel_rfl) (d1s_e n m xs) (by kernel_rfl) (hW _ _ _ hr ⟨e0_true he, trivial⟩)) fun _ _ q => ge_A q
      | false => exact can_val (can_run SJiok KHok Tryz.func71 (by kernel_rfl) (by kernel_rfl) (d1l_e n m xs) (by kernel_rfl) (hW _ _ _ hr ⟨e0_true he, trivial⟩)) fun _ _ q => ge_A q
  | true =>
    rw [if_pos rfl]
    cases s with
    | true =>
      have hx := xN_lt hr 0 (by decide)
      unfold pt1 yB
      by_cases hb : (!(biggerN (yR (xN 1 0 (win xs 0 n))) == flB (win xs 0 n) 32)) = true
      · simp only [if_pos hb]
        exact dc_fin hx (ng_lt _) (C := d1C n m xs true) (fun r hq => hW _ _ _ hr ⟨rfl, rfl, rfl, hb, hq⟩) (d1s_t1 n m xs) (d1s_t2 n m xs) (d1s_t3 n m xs)
      · simp only [if_neg hb]
        exact dc_fin hx (yR_lt _) (C := d1C n m xs false) (fun r hq => hW _ _ _ hr ⟨rfl, rfl, rfl, by simpa using hb, hq⟩) (d1s_f1 n m xs) (d1s_f2 n m xs) (d1s_f3 n m xs)
    | false => exact dc_fin (xN_lt hr 0 (by decide)) (xN_lt hr 1 (by decide)) (C := d1D n m xs) (fun r hq => hW _ _ _ hr ⟨rfl, rfl, tt_ok 2 hq⟩) (d1l_1 n m xs) (d1l_2 n m xs) (d1l_3 n m xs)
/-- Contracts of what reads a point. -/
noncomputable def dcSp (V : Bool → List Int → AV) : ASpec := fun args H fr path => match args with
  | [S, B] => match asSm S, asB (some B) with
    | some (k, n, m), some (_, s) => match hget H k with
      | some ⟨_, cs, _⟩ => match toSeq .u8 cs with
        | some xs => some (trR [k] 1 fr 0 [] (V s (win xs 0 n)) [] [(Nat.ble n xs.length, true), (Nat.ble n m, true), (hasB .i64 n, true)] path)
        | none => none
      | _ => none
    | _, _ => none
  | _ => none
theorem dcSp_ok {f : FuncId} {fn : Func} {V : Bool → List Int → AV} (hfn : Tryz.prog.funcs[f]? = some fn) (hb : fn.body.isSome = true) (hname : (fn.name == "runtime.NumGoroutine") = false) (hk : ∀ s L, canB 1 0 [] (V s L) [] = true)
    (h : ∀ (n m : Nat) (xs : List Int) (s : Bool), n ≤ xs.length → n ≤ m → hasB .i64 n = true → CanOk Tryz.prog f (dcA n m s) (byH xs) 1 [] (V s (win xs 0 n)) []) : SpecOk Tryz.prog f (dcSp V) := by
  refine can_spec2 hfn hb hname fun args H fr path r hs => ?_
  unfold dcSp at hs
  split at hs
  case h_2 => cases hs
  rename_i S B
  split at hs
  case h_2 => cases hs
  rename_i k n m c s hS hB
  split at hs
  case h_2 => cases hs
  rename_i ty cs o hk'
  split at hs
  case h_2 => cases hs
  rename_i xs hxs
  injection hs with hs
  refine ⟨[k], 1, 0, [], _, _, _, path, hs.symm, fun β us w ha hg hc => ?_⟩
  obtain ⟨u1, us1, r1, ⟨u3, us3, r3, ha, rfl⟩, rfl⟩ := ha
  obtain ⟨hl, hm, hn, _⟩ := hc
  obtain ⟨m', hm', r1⟩ := asSm_rel hS (Nat.le_of_ble_eq_true hm) r1
  obtain ⟨g1, g2, g3⟩ := good_by hg hk' hxs
  exact ⟨dcA n m' s, byH xs, h n m' xs s (Nat.le_of_ble_eq_true hl) hm' hn, hk _ _, ⟨u1, _, sl_in (by omega) rfl r1, ⟨u3, us3, bB_rel hB r3, ha, rfl⟩, rfl⟩, g2, g3⟩
noncomputable def SJk : List (FuncId × ASpec) := (71, dcSp fun s L => gmV (dec1 s L)) :: SJi
theorem SJkok : SpecsOk Tryz.prog SJk := ⟨dcSp_ok Tryz.func71 (by kernel_rfl) (by kernel_rfl) (fun _ _ => by kernel_rfl) fun _ _ _ s hl hm hn => dec1_can hl hm hn s, SJiok⟩
noncomputable abbrev oJk : Orc := orc SJk KH
theorem oJkok : OrcOk Tryz.prog oJk := orc_ok SJkok KHok
end Go.Proofs.YtfmajnlfpnjagaaGreat
/- Points to bytes and back: the plain law. -/
namespace Go.Proofs.YtfmajnlfpnjagaaGreat
open Ex Num Rg
open Sh (R av rd mo en mo_en)
set_option maxRecDepth 100000
set_option maxHeartbeats 4000000

theorem zero_cat (K : Nat) : ∀ d ∈ cat (List.replicate K 0), d = 0 := by
  induction K with
  | zero => intro d h; cases h
  | succ K ih =>
    intro d h
    rw [List.replicate_succ, cat] at h
    rcases List.mem_append.1 h with q | q
    · have : (octL 0 48).all (fun d => decide (d = 0)) = true := by kernel_rfl
      exact of_decide_eq_true (List.all_eq_true.1 this d q)
    · exact ih d q
/- what is read of what was written -/
section
variable {s i b : Bool} {x : Nat} {r : List Nat} {K : Nat} (hx : x < pN) (hK : 0 < K) (hl : K ≤ r.length + 1)
include hx hK hl
theorem wr_facts : (win (ecL s i b (cat (x :: r))) 0 (48 * K)).length = 48 * K ∧ flB (win (ecL s i b (cat (x :: r))) 0 (48 * K)) 128 = s ∧ flB (win (ecL s i b (cat (x :: r))) 0 (48 * K)) 64 = i ∧ flB (win (ecL s i b (cat (x :: r))) 0 (48 * K)) 32 = (s && (!i && b)) ∧ rsL (win (ecL s i b (cat (x :: r))) 0 (48 * K)) (48 * K - 1) = cat ((x :: r).take K) := by
  obtain ⟨f, t, e, h0, h1⟩ := cat_head hx r
  have h := ec_win s i b (show 0 < 48 * K by omega) (show 48 * K ≤ (cat (x :: r)).length by rw [cat_length, List.length_cons]; omega) e h0 h1
  rw [cat_take] at h
  exact h
theorem wr_num (hr : ∀ y ∈ r, y < pN) (hi : i = false) : rdN K s (win (ecL s i b (cat (x :: r))) 0 (48 * K)) = true ∧ (∀ j, j < K → xN K j (win (ecL s i b (cat (x :: r))) 0 (48 * K)) = (x :: r).getD j 0) ∧ flB (win (ecL s i b (cat (x :: r))) 0 (48 * K)) 32 = (s && b) := by
  obtain ⟨q1, q2, q3, q4, q5⟩ := wr_facts (s := s) (i := i) (b := b) hx hK hl
  have hn : ∀ j, j < K → nbW (cat ((x :: r).take K)) (48 * j) = (x :: r).getD j 0 ∧ (x :: r).getD j 0 < pN := by
    intro j hj
    have hlt : (x :: r).getD j 0 < pN := by
      rw [List.getD_eq_getElem?_getD]
      cases hq : (x :: r)[j]? with
      | none => exact pN_pos
      | some y =>
        rcases List.mem_cons.1 (List.mem_of_getElem? hq) with e | e
        · rw [e]; exact hx
        · exact hr y e
    refine ⟨?_, hlt⟩
    rw [nbW_cat _ j (by rw [List.length_take, List.length_cons]; omega)]
    have e : ((x :: r).take K).getD j 0 = (x :: r).getD j 0 := by rw [List.getD_eq_getElem?_getD, List.getD_eq_getElem?_getD, List.getElem?_take_of_lt hj]
    rw [e]
    exact mod_p48 hlt
  refine ⟨?_, fun j hj => ?_, ?_⟩
  · unfold rdN
    rw [q1, q2, q3, q4, q5, hi, decide_eq_true rfl, decide_eq_true rfl]
    have ho : okN (cat ((x :: r).take K)) K = true := by
      unfold okN
      rw [List.all_eq_true]
      intro j hj
      obtain ⟨e1, e2⟩ := hn j (List.mem_range.1 hj)
      rw [e1]
      exact decide_eq_true e2
    rw [ho]
    cases s <;> cases b <;> rfl
  · unfold xN
    rw [q5]
    exact (hn j hj).1
  · rw [q4, hi]; rfl
theorem wr_inf (hi : i = true) (h0 : ∀ d ∈ cat ((x :: r).take K), d = 0) : rdN K s (win (ecL s i b (cat (x :: r))) 0 (48 * K)) = false ∧ rdE K s (win (ecL s i b (cat (x :: r))) 0 (48 * K)) = 0 := by
  obtain ⟨q1, q2, q3, q4, q5⟩ := wr_facts (s := s) (i := i) (b := b) hx hK hl
  have e32 : (s && (!i && b)) = false := by rw [hi]; cases s <;> rfl
  constructor
  · unfold rdN
    rw [q1, q2, q3, q4, q5, hi]
    cases s <;> cases b <;> simp
  · unfold rdE
    rw [q1, q2, q3, q4, q5, e32, hi, if_neg (fun h => h rfl), if_neg (fun h => h rfl), if_neg (by rw [Bool.false_and]; exact Bool.false_ne_true), if_pos rfl]
    have ho : infOk (cat ((x :: r).take K)) false = true := by
      unfold infOk
      rw [Bool.not_false, Bool.and_true, List.all_eq_true]
      exact fun d hd => decide_eq_true (h0 d hd)
    unfold infE
    rw [if_pos ho]
end
/- what is written of what was read -/
section
variable {s : Bool} {K : Nat} {L : List Int} (hK : 0 < K) (hL : ∀ d ∈ L, 0 ≤ d ∧ d < 256)
include hK hL
theorem rs_bytes (hlen : L.length = 48 * K) : (rsL L (48 * K - 1)).length = 48 * K ∧ ∀ d ∈ rsL L (48 * K - 1), 0 ≤ d ∧ d < 256 := by
  cases L with
  | nil => simp at hlen; omega
  | cons v u =>
    refine ⟨by rw [rsL_len (by omega)]; omega, fun d hd => ?_⟩
    rcases List.mem_cons.1 hd with e | e
    · have hv := hL v (List.mem_cons_self ..)
      have := fB4_ok hv.1 hv.2
      have e' : d = bits .and .u8 v 31 := e
      rw [e']; omega
    · exact hL d (List.mem_cons_of_mem _ (List.mem_of_mem_drop (i := 0) (List.mem_of_mem_take e)))
theorem rd_num {b : Bool} {l : List Nat} (hr : rdN K s L = true) (hl : l.take K = (List.range K).map fun j => xN K j L) (hb : flB L 32 = (s && b)) : win (ecL s false b (cat l)) 0 (48 * K) = L := by
  unfold rdN at hr
  simp only [Bool.and_eq_true, decide_eq_true_eq] at hr
  obtain ⟨h1, h2, h3, h4, _⟩ := hr
  obtain ⟨g1, g2⟩ := rs_bytes hK hL h1
  refine ec_back (by omega) h1 hL h2 (by simpa using h4) (by rw [hb, Bool.not_false, Bool.true_and]) ?_
  rw [cat_take, hl]
  exact cat_nbW K _ g1 g2
theorem rd_inf {b : Bool} {l : List Nat} (hr : rdN K s L = false) (he : rdE K s L = 0) (hl : l.take K = List.replicate K 0) : win (ecL s true b (cat l)) 0 (48 * K) = L := by
  unfold rdE at he
  by_cases h1 : L.length ≠ 48 * K
  · rw [if_pos h1] at he; cases he
  have h1 : L.length = 48 * K := by omega
  rw [if_neg (fun h => h h1)] at he
  by_cases h2 : flB L 128 ≠ s
  · rw [if_pos h2] at he; cases he
  have h2 : flB L 128 = s := by
    cases hq : flB L 128 <;> cases s <;> first | rfl | exact absurd (by rw [hq]; decide) h2
  rw [if_neg (fun h => h h2)] at he
  by_cases h3 : (flB L 32 && !s) = true
  · rw [if_pos h3] at he; cases he
  rw [if_neg h3] at he
  obtain ⟨g1, g2⟩ := rs_bytes hK hL h1
  cases h4 : flB L 64 with
  | true =>
    rw [h4, if_pos rfl] at he
    unfold infE at he
    by_cases h5 : infOk (rsL L (48 * K - 1)) (flB L 32) = true
    · unfold infOk at h5
      obtain ⟨h6, h7⟩ := Bool.and_eq_true_iff.1 h5
      have h7 : flB L 32 = false := by simpa using h7
      have h6 : ∀ d ∈ rsL L (48 * K - 1), d = 0 := fun d hd => of_decide_eq_true (List.all_eq_true.1 h6 d hd)
      refine ec_back (by omega) h1 hL h2 h4 (by rw [h7]; cases s <;> rfl) ?_
      rw [cat_take, hl]
      have e1 := List.eq_replicate_iff.2 ⟨g1, h6⟩
      have e2 := List.eq_replicate_iff.2 ⟨(cat_length (List.replicate K 0)).trans (by rw [List.length_replicate]), zero_cat K⟩
      rw [e1, e2]
    · rw [if_neg h5] at he; cases he
  | false =>
    rw [h4, if_neg Bool.false_ne_true] at he
    by_cases h5 : okN (rsL L (48 * K - 1)) K = true
    · exfalso
      unfold rdN at hr
      have h3' : (flB L 32 && !s) = false := by simpa using h3
      rw [h3', h4, h5, decide_eq_true h1, decide_eq_true h2] at hr
      cases hr
    · rw [if_neg h5] at he; cases he
end
theorem rd_len {K : Nat} {s : Bool} {L : List Int} (h : L.length ≠ 48 * K) : rdN K s L = false ∧ rdE K s L = 200 := by
  unfold rdN rdE
  rw [decide_eq_false h, if_pos h]
  exact ⟨rfl, rfl⟩
end Go.Proofs.YtfmajnlfpnjagaaGreat
/- codec: the base curve's points to bytes and back. -/
namespace Go.Proofs.YtfmajnlfpnjagaaGreat
open Ex Num Rg
open Sh (R av rd mo en mo_en)
set_option maxRecDepth 100000
set_option maxHeartbeats 4000000

theorem val_ne1 {y : FP} (h : y ≠ 0) : 0 < y.val := Nat.pos_of_ne_zero fun e => h (by rw [← tf_val y, e]; exact tf_zero)
theorem biggerN_eq1 (y : FP) : biggerN y.val = decide ((pN - y.val) % pN < y.val) := by
  have h := y.isLt
  unfold biggerN negN
  rw [Nat.mod_eq_of_lt h]
theorem bigger_neg1 {y : FP} (h : y ≠ 0) : biggerN (-y).val = !biggerN y.val := by
  have h1 := y.isLt
  have h0 := val_ne1 h
  have hv : (-y).val = pN - y.val := by
    show (pN - y.val) % pN = pN - y.val
    exact Nat.mod_eq_of_lt (by omega)
  have ho := pN_odd
  rw [biggerN_eq1, biggerN_eq1, hv, Nat.mod_eq_of_lt (show pN - (pN - y.val) < pN by omega), Nat.mod_eq_of_lt (show pN - y.val < pN by omega)]
  by_cases hq : pN - y.val < y.val
  · rw [decide_eq_true hq, decide_eq_false (by omega)]; rfl
  · rw [decide_eq_false hq, decide_eq_true (by omega)]; rfl
/-- The other coordinate, by its square, and by whether it is the greater. -/
theorem yR_tf (x : Nat) : tf (yR x) = rtF (tf x * tf x * tf x + four) ∧ isSqN (ad FP (mu FP (mu FP x x) x) (4 : Nat)) = isF (tf x * tf x * tf x + four) := by
  have e : (ad FP (mu FP (mu FP x x) x) (4 : Nat) : Nat) = (tf x * tf x * tf x + four).val := by
    unfold ad mu
    show (mo (en (mo (en (mo x * mo x : FP)) * mo x : FP)) + mo (4 : Nat) : FP).val = _
    rw [mo_en, mo_en]; rfl
  constructor
  · unfold yR rtF
    rw [e]
  · unfold isF
    rw [e]
theorem yB_val {a b : FP} (h : b * b = a * a * a + four) : yB a.val (biggerN b.val) = b.val := by
  have hb : b ≠ 0 := C1.no2 a b h
  have hs : isF (a * a * a + four) = true := isF_of h
  obtain ⟨e1, _⟩ := yR_tf a.val
  rw [tf_val] at e1
  have hq := rtF_sq hs
  rw [← e1, ← h] at hq
  have hv : (tf (yR a.val)).val = yR a.val := val_tf (yR_lt _)
  unfold yB
  rcases sq_pm hq with e | e
  · have e' : yR a.val = b.val := by rw [← hv, e]
    rw [e', if_neg (by cases biggerN b.val <;> decide)]
  · have e' : yR a.val = (-b).val := by rw [← hv, e]
    have hg : ng FP (yR a.val) = b.val := by
      show (-(tf (yR a.val)) : FP).val = b.val
      rw [e, neg_neg]
    rw [hg]
    rw [e', bigger_neg1 hb, if_pos (by cases biggerN b.val <;> decide)]
theorem yB_big {x : Nat} {c : Bool} (h : Rg.On C1.b (toPt x (yB x c) false)) : biggerN (yB x c) = c := by
  have hb : tf (yB x c) ≠ 0 := C1.no2 _ _ h
  have hv : (tf (yR x)).val = yR x := val_tf (yR_lt _)
  unfold yB at hb ⊢
  by_cases hq : (!(biggerN (yR x) == c)) = true
  · rw [if_pos hq] at hb ⊢
    have hv2 : ng FP (yR x) = (-(tf (yR x)) : FP).val := rfl
    have hne : tf (yR x) ≠ 0 := fun e => hb (by
      rw [hv2, e, neg_zero]; exact tf_zero)
    have : biggerN (ng FP (yR x)) = !biggerN (yR x) := by
      rw [hv2, bigger_neg1 hne, hv]
    rw [this]
    revert hq
    cases biggerN (yR x) <;> cases c <;> decide
  · rw [if_neg hq]
    revert hq
    cases biggerN (yR x) <;> cases c <;> decide
theorem l1_lt (p : Pt FP) : ∀ y ∈ [ptY p], y < pN := fun y hy => by
  rcases List.mem_cons.1 hy with e | e
  · rw [e]; exact ptY_lt p
  · cases e
theorem kS_pos (s : Bool) : 0 < kS s := by cases s <;> decide
theorem kS_le (s : Bool) : kS s ≤ 2 := by cases s <;> decide
theorem in1_on {p : Pt FP} (h : in1 p = true) : onP p = true := (Bool.and_eq_true_iff.1 h).1
/-- The bytes of a point are read as the point. -/
theorem dec_enc1 {p : Pt FP} (h : in1 p = true) (s : Bool) : dec1 s (win (e1L s p) 0 (48 * kS s)) = (p, 0) := by
  have ho := in1_on h
  rw [e1L_ec, b1_cat]
  unfold dec1 l1
  cases p with
  | inf =>
    have h0 : ∀ d ∈ cat ([ptX (Pt.inf : Pt FP), ptY (Pt.inf : Pt FP)].take (kS s)), d = 0 := by
      cases s
      · exact zero_cat 2
      · exact zero_cat 1
    obtain ⟨q1, q2⟩ := wr_inf (r := [ptY (Pt.inf : Pt FP)]) (s := s) (i := ptI (Pt.inf : Pt FP)) (b := biggerN (ptY (Pt.inf : Pt FP))) (ptX_lt Pt.inf) (kS_pos s) (kS_le s) rfl h0
    rw [q1, q2, if_neg Bool.false_ne_true, if_pos rfl]
  | pt a b =>
    obtain ⟨q1, q2, q3⟩ := wr_num (r := [ptY (.pt a b : Pt FP)]) (s := s) (i := ptI (.pt a b : Pt FP)) (b := biggerN (ptY (.pt a b : Pt FP))) (ptX_lt (.pt a b)) (kS_pos s) (kS_le s) (l1_lt _) rfl
    rw [q1, if_pos rfl]
    have hP : pt1 s (win (ecL s (ptI (.pt a b : Pt FP)) (biggerN (ptY (.pt a b : Pt FP))) (cat [ptX (.pt a b : Pt FP), ptY (.pt a b : Pt FP)])) 0 (48 * kS s)) = .pt a b := by
      unfold pt1
      cases s with
      | true =>
        have x0 := q2 0 (by decide)
        have hon : b * b = a * a * a + four := (onP_iff _).1 ho
        have ey := yB_val hon
        simp only
        rw [show kS true = 1 from rfl] at x0 q3 ⊢
        rw [x0, q3]
        show toPt a.val (yB a.val (biggerN b.val)) false = _
        rw [ey]
        exact toPt_of (.pt a b)
      | false =>
        have x0 := q2 0 (by decide)
        have x1 := q2 1 (by decide)
        simp only
        rw [show kS false = 2 from rfl] at x0 x1 ⊢
        rw [x0, x1]
        exact toPt_of (.pt a b)
    rw [hP]
    unfold fin1
    rw [ho, h]; rfl
theorem dec_len1 (p : Pt FP) (s : Bool) : (dec1 (!s) (win (e1L s p) 0 (48 * kS s))).2 = 200 := by
  have hl : (win (e1L s p) 0 (48 * kS s)).length = 48 * kS s := by
    rw [e1L_ec, b1_cat]
    exact (wr_facts (r := [ptY p]) (ptX_lt p) (kS_pos s) (kS_le s)).1
  obtain ⟨q1, q2⟩ := rd_len (K := kS (!s)) (s := !s) (L := win (e1L s p) 0 (48 * kS s)) (by rw [hl]; cases s <;> decide)
  unfold dec1
  rw [q1, q2]; rfl
/-- Bytes that are read are the point's. -/
theorem enc_dec1 {L : List Int} (hL : ∀ d ∈ L, 0 ≤ d ∧ d < 256) {s : Bool} (h : (dec1 s L).2 = 0) : in1 (dec1 s L).1 = true ∧ win (e1L s (dec1 s L).1) 0 (48 * kS s) = L := by
  unfold dec1 at h ⊢
  cases hr : rdN (kS s) s L with
  | false =>
    rw [hr, if_neg Bool.false_ne_true] at h
    rw [if_neg Bool.false_ne_true]
    by_cases he : rdE (kS s) s L = 0
    · rw [if_pos he]
      refine ⟨by unfold in1; rw [smul_inf]; rfl, ?_⟩
      rw [e1L_ec, b1_cat]
      exact rd_inf (kS_pos s) hL hr he (by cases s <;> rfl)
    · rw [if_neg he] at h; exact absurd h he
  | true =>
    rw [hr, if_pos rfl] at h
    rw [if_pos rfl]
    unfold fin1 at h ⊢
    cases ho : onP (pt1 s L) with
    | false => rw [ho, if_neg Bool.false_ne_true] at h; cases h
    | true =>
      rw [ho, if_pos rfl] at h
      cases hi : in1 (pt1 s L) with
      | false => rw [hi, if_neg Bool.false_ne_true] at h; cases h
      | true =>
        rw [if_pos rfl, if_pos rfl]
        refine ⟨hi, ?_⟩
        have hon := (onP_iff _).1 ho
        rw [e1L_ec, b1_cat]
        cases s with
        | true =>
          have x0 : xN 1 0 L < pN := xN_lt hr 0 (by decide)
          have hY : yB (xN 1 0 L) (flB L 32) < pN := by
            unfold yB
            split
            · exact ng_lt _
            · exact yR_lt _
          have e1 : l1 (pt1 true L) = [xN 1 0 L, yB (xN 1 0 L) (flB L 32)] := by
            show [(tf _).val, (tf _).val] = _
            rw [val_tf x0, val_tf hY]
          have e2 : ptY (pt1 true L) = yB (xN 1 0 L) (flB L 32) := val_tf hY
          have e3 : ptI (pt1 true L) = false := rfl
          rw [e1, e2, e3, yB_big hon]
          exact rd_num (kS_pos true) hL hr rfl (by rw [Bool.true_and])
        | false =>
          have x0 : xN 2 0 L < pN := xN_lt hr 0 (by decide)
          have x1 : xN 2 1 L < pN := xN_lt hr 1 (by decide)
          have e1 : l1 (pt1 false L) = [xN 2 0 L, xN 2 1 L] := by
            show [(tf _).val, (tf _).val] = _
            rw [val_tf x0, val_tf x1]
          have e3 : ptI (pt1 false L) = false := rfl
          rw [e1, e3]
          refine rd_num (kS_pos false) hL hr rfl ?_
          unfold rdN at hr
          simp only [Bool.and_eq_true] at hr
          have := hr.2.2.1
          rw [Bool.false_and]
          simpa using this
end Go.Proofs.YtfmajnlfpnjagaaGreat
/- fp2root.Sqrt: the contract. -/
namespace Go.Proofs.YtfmajnlfpnjagaaGreat
open Ex Num Rg
open Sh (R av rd mo en mo_en)
set_option maxRecDepth 100000
set_option maxHeartbeats 4000000

def hfC : List Ch := [.n .u64 0xdcff7fffffffd556, .n .u64 0xf55ffff58a9ffff, .n .u64 0xb39869507b587b12, .n .u64 0xb23ba5c279c2895f, .n .u64 0x258dd3db21a5d66b, .n .u64 0xd0088f51cbff34d]
def hfQ : Nat := 0x0d0088f51cbff34d258dd3db21a5d66bb23ba5c279c2895fb39869507b587b120f55ffff58a9ffffdcff7fffffffd556
theorem hf_ex : ∃ n, n = hfQ := ⟨_, rfl⟩
/-- The half of 1; the kernel does not look into it. -/
noncomputable def hfN : Nat := Classical.choose hf_ex
theorem hf_eq : hfN = hfQ := Classical.choose_spec hf_ex
theorem half_run2 : pureRun Tryz.prog oJk Tryz.f147 [] [] 100 = some ([], .val true hfC) := by kernel_rfl
theorem half_ok2 : PureOk Tryz.prog 147 [] (num6 hfN) := by
  rw [hf_eq]
  exact pure_val (pure_ok oJkok mixed Tryz.func147 half_run2 trivial rfl) fun u ⟨l, q, e⟩ => ⟨l, num_any (k := 6) (x := hfQ) (by kernel_rfl) q, e⟩
theorem hf_two : tf hfN + tf hfN = 1 := by rw [hf_eq, ← tf_add, ← tf_one]; exact tf_lit (by kernel_rfl)
noncomputable def sgI (a : FP2) : Int := if sg2 a = true then 1 else 0
theorem sgI_1 (a : FP2) : decide (sgI a = 1) = sg2 a := by
  unfold sgI
  cases sg2 a <;> rfl
theorem signN_tf (x : Nat) : signN x = if sgF (tf x) = true then 1 else 0 := by
  unfold signN sgF
  have h : (tf x).val = x % pN := rfl
  rw [h]
  rcases Nat.mod_two_eq_zero_or_one (x % pN) with e | e <;> rw [e] <;> rfl
theorem sg_t (r : R FP2) : pureRun Tryz.prog oJk Tryz.f149 [va FP2 r] [true] 300 = some ([(dq (re FP r.1) 0, true)], intA (signN r.2)) := by kernel_rfl
theorem sg_f (r : R FP2) : pureRun Tryz.prog oJk Tryz.f149 [va FP2 r] [false] 300 = some ([(dq (re FP r.1) 0, false)], intA (signN r.1)) := by kernel_rfl
theorem sign_ok2 (r : R FP2) : PureOk Tryz.prog 149 [va FP2 r] (intA (sgI (mo r))) := by
  have e : dq (re FP r.1) 0 = decide ((mo r : FP2).a = 0) := dq_val (mo r : FP2).a 0
  have h1 := sg_t r
  have h2 := sg_f r
  rw [signN_tf] at h1 h2
  unfold sgI sg2
  by_cases h : (mo r : FP2).a = 0
  · rw [if_pos h]
    exact pure_ok oJkok mixed Tryz.func149 h1 ⟨by rw [e]; exact decide_eq_true h, trivial⟩ rfl
  · rw [if_neg h]
    exact pure_ok oJkok mixed Tryz.func149 h2 ⟨by rw [e]; exact decide_eq_false h, trivial⟩ rfl
noncomputable def SJl : List (FuncId × ASpec) := (147, pureSpec (ev FP (num6 hfN))) :: (149, pureSpec (sq1 FP2 fun r => intA (sgI (mo r)))) :: SJk
theorem SJlok : SpecsOk Tryz.prog SJl := ⟨pureSpec_ok Tryz.func147 (by kernel_rfl) (by kernel_rfl) (ev_ok (α := FP) half_ok2), pureSpec_ok Tryz.func149 (by kernel_rfl) (by kernel_rfl) (sq1_ok sign_ok2), SJkok⟩
noncomputable abbrev oJl : Orc := orc SJl KH
theorem oJlok : OrcOk Tryz.prog oJl := orc_ok SJlok KHok
/- the try: a number, and the root of the norm -/
noncomputable def tX (r : R FP2) (n : Nat) : Nat := rootN (mu FP (ad FP r.1 n) hfN)
noncomputable def tI1 (r : R FP2) (n : Nat) : Bool := isSqN (mu FP (ad FP r.1 n) hfN)
noncomputable def tI0 (r : R FP2) : Bool := isSqN (ng FP r.1)
noncomputable def tO0 (r : R FP2) (n : Nat) : R FP2 := (tX r n, rootN (ng FP r.1))
noncomputable def tO1 (r : R FP2) (n : Nat) : R FP2 := (tX r n, mu FP (mu FP r.2 hfN) (iv FP (tX r n)))
noncomputable def trA (n : Nat) : List AV := [va FP n, .val false [.p 0 0]]
noncomputable def trH (r : R FP2) : Heap := [(0, some (roB (av r)))]
noncomputable def trRun (r : R FP2) (n : Nat) (p : List Bool) := segOut Tryz.prog oJl Tryz.f146 500 1 [] (entry Tryz.f146 (trA n) (trH r) 1 p)
section
variable (r : R FP2) (n : Nat)
theorem tr_ttt : trRun r n [true, true, true] = some ([(dq (tX r n) 0, true), (decide (sgI (mo (tO0 r n) : FP2) = 1), true), (tI0 r, true)], [], .tup [(true, av (ng FP2 (tO0 r n))), (false, [.v (.bool (eqR (mu FP2 (ng FP2 (tO0 r n)) (ng FP2 (tO0 r n))) r))])], []) := by kernel_rfl
theorem tr_ttf : trRun r n [true, true, false] = some ([(dq (tX r n) 0, true), (decide (sgI (mo (tO0 r n) : FP2) = 1), true), (tI0 r, false)], [], .tup [(true, av (ng FP2 (tO0 r n))), (false, [.b false])], []) := by kernel_rfl
theorem tr_tft : trRun r n [true, false, true] = some ([(dq (tX r n) 0, true), (decide (sgI (mo (tO0 r n) : FP2) = 1), false), (tI0 r, true)], [], .tup [(true, av (tO0 r n)), (false, [.v (.bool (eqR (mu FP2 (tO0 r n) (tO0 r n)) r))])], []) := by kernel_rfl
theorem tr_tff : trRun r n [true, false, false] = some ([(dq (tX r n) 0, true), (decide (sgI (mo (tO0 r n) : FP2) = 1), false), (tI0 r, false)], [], .tup [(true, av (tO0 r n)), (false, [.b false])], []) := by kernel_rfl
theorem tr_ftt : trRun r n [false, true, true] = some ([(dq (tX r n) 0, false), (decide (sgI (mo (tO1 r n) : FP2) = 1), true), (tI1 r n, true)], [], .tup [(true, av (ng FP2 (tO1 r n))), (false, [.v (.bool (eqR (mu FP2 (ng FP2 (tO1 r n)) (ng FP2 (tO1 r n))) r))])], []) := by kernel_rfl
theorem tr_ftf : trRun r n [false, true, false] = some ([(dq (tX r n) 0, false), (decide (sgI (mo (tO1 r n) : FP2) = 1), true), (tI1 r n, false)], [], .tup [(true, av (ng FP2 (tO1 r n))), (false, [.b false])], []) := by kernel_rfl
theorem tr_fft : trRun r n [false, false, true] = some ([(dq (tX r n) 0, false), (decide (sgI (mo (tO1 r n) : FP2) = 1), false), (tI1 r n, true)], [], .tup [(true, av (tO1 r n)), (false, [.v (.bool (eqR (mu FP2 (tO1 r n) (tO1 r n)) r))])], []) := by kernel_rfl
theorem tr_fff : trRun r n [false, false, false] = some ([(dq (tX r n) 0, false), (decide (sgI (mo (tO1 r n) : FP2) = 1), false), (tI1 r n, false)], [], .tup [(true, av (tO1 r n)), (false, [.b false])], []) := by kernel_rfl
end
theorem tr_go {r : R FP2} {n : Nat} {p : List Bool} {conds : List (Bool × Bool)} {out : R FP2} {ok : Ch} (h : trRun r n p = some (conds, [], .tup [(true, av out), (false, [ok])], [])) (hc : okConds conds) {e : FP2} {t : Bool} (ho : out = en e) (hok : ok = .b t ∨ ok = .v (.bool t)) :
    CanOk Tryz.prog 146 (trA n) (trH r) 1 [] (.tup [(true, av (en e : R FP2)), (false, [.v (.bool t)])]) [] := by
  subst ho
  refine can_val (can_run SJlok KHok Tryz.func146 (by kernel_rfl) (by kernel_rfl) h (by kernel_rfl) hc) fun β u q => ?_
  refine relT2 (fun _ q => q) (fun _ q => ?_) q
  rcases hok with e | e
  · subst e
    obtain ⟨l1, l2, p1, p2, p3⟩ := q
    exact ⟨l1, l2, ⟨p1, rfl, trivial⟩, p2, p3⟩
  · subst e; exact q
noncomputable def hF : FP := tf hfN
theorem rt_val (q : FP) : rootN q.val = (rtF q).val := by
  unfold rtF
  refine (val_tf ?_).symm
  by_cases h : isSqN q.val = true
  · exact (rootN_spec h).2.2
  · unfold rootN; rw [if_neg h]; exact pN_pos
theorem eqR_val (x y : FP2) : eqR (mu FP2 (en x) (en x)) (en y) = decide (x * x = y) := by
  have e : mu FP2 (en x) (en x) = (en (x * x) : R FP2) := by unfold mu; rw [mo_en]
  rw [e]
  have e1 : eqR (en (x * x)) (en y) = (decide ((x * x).a = y.a) && decide ((x * x).b = y.b)) := by
    show (dq (x * x).a.val y.a.val && dq (x * x).b.val y.b.val) = _
    rw [dq_val, dq_val]
  rw [e1]
  by_cases h : x * x = y
  · rw [h, decide_eq_true rfl, decide_eq_true rfl, decide_eq_true rfl]; rfl
  · rw [decide_eq_false h]
    by_cases ha : (x * x).a = y.a
    · by_cases hb : (x * x).b = y.b
      · exact absurd (Qx.ext ha hb) h
      · rw [decide_eq_false hb, Bool.and_false]
    · rw [decide_eq_false ha, Bool.false_and]
section
variable (a : FP2) (n : Nat)
theorem tX_val : tX (en a) n = (tryX hF a (tf n)).val := by
  have e : mu FP (ad FP (en a : R FP2).1 n) hfN = ((a.a + tf n) * hF : FP).val := by
    unfold ad mu
    show (mo (en (mo a.a.val + mo n : FP)) * mo hfN : FP).val = _
    rw [mo_en]
    show ((tf a.a.val + tf n) * tf hfN : FP).val = _
    rw [tf_val]; rfl
  unfold tX tryX
  rw [e]; exact rt_val _
theorem tI1_val : tI1 (en a) n = isF ((a.a + tf n) * hF) := by
  have e : mu FP (ad FP (en a : R FP2).1 n) hfN = ((a.a + tf n) * hF : FP).val := by
    unfold ad mu
    show (mo (en (mo a.a.val + mo n : FP)) * mo hfN : FP).val = _
    rw [mo_en]
    show ((tf a.a.val + tf n) * tf hfN : FP).val = _
    rw [tf_val]; rfl
  unfold tI1 isF
  rw [e]
theorem ng_val : (ng FP (en a : R FP2).1 : Nat) = (-a.a : FP).val := by
  show (-(tf a.a.val) : FP).val = _
  rw [tf_val]
theorem tI0_val : tI0 (en a) = isF (-a.a) := by
  unfold tI0 isF
  rw [ng_val]
theorem tO0_val (h : tryX hF a (tf n) = 0) : tO0 (en a) n = (en (⟨tryX hF a (tf n), tryY hF a (tf n)⟩ : FP2) : R FP2) := by
  unfold tO0 tryY
  rw [if_pos h, tX_val, ng_val, rt_val]; rfl
theorem tO1_val (h : ¬ tryX hF a (tf n) = 0) : tO1 (en a) n = (en (⟨tryX hF a (tf n), tryY hF a (tf n)⟩ : FP2) : R FP2) := by
  have e : (mu FP (mu FP (en a : R FP2).2 hfN) (iv FP (tX (en a) n)) : Nat) = (a.b * hF * FD.inv (tryX hF a (tf n)) : FP).val := by
    rw [tX_val]
    unfold mu iv
    show (mo (en (mo a.b.val * mo hfN : FP)) * mo (en (FD.inv (mo (tryX hF a (tf n)).val : FP))) : FP).val = _
    rw [mo_en, mo_en]
    show (tf a.b.val * tf hfN * FD.inv (tf (tryX hF a (tf n)).val) : FP).val = _
    rw [tf_val, tf_val]; rfl
  unfold tO1 tryY
  rw [if_neg h, e, tX_val]; rfl
theorem tz_val : dq (tX (en a) n) 0 = decide (tryX hF a (tf n) = 0) := by
  rw [tX_val]
  exact dq_val _ 0
noncomputable def trV : AV := .tup [(true, av (en (tryO hF a (tf n)) : R FP2)), (false, [.v (.bool (tryI hF a (tf n)))])]
theorem ng_en (o : FP2) : ng FP2 (en o) = (en (-o) : R FP2) := by unfold ng; rw [mo_en]
theorem sg_en (o : FP2) : decide (sgI (mo (en o : R FP2) : FP2) = 1) = sg2 o := by rw [mo_en]; exact sgI_1 o
theorem tr_can : CanOk Tryz.prog 146 (trA n) (trH (en a)) 1 [] (trV a n) [] := by
  unfold trV
  have hz := tz_val a n
  by_cases h : tryX hF a (tf n) = 0
  · rw [decide_eq_true h] at hz
    have eo := tO0_val a n h
    have ei : tryI hF a (tf n) = (tI0 (en a) && decide (tryO hF a (tf n) * tryO hF a (tf n) = a)) := by unfold tryI; rw [if_pos h, tI0_val]
    have r1 := tr_ttt (en a) n
    have r2 := tr_ttf (en a) n
    have r3 := tr_tft (en a) n
    have r4 := tr_tff (en a) n
    rw [eo, sg_en] at r1 r2 r3 r4
    rw [ng_en] at r1 r2
    unfold tryO at *
    generalize hO : (⟨tryX hF a (tf n), tryY hF a (tf n)⟩ : FP2) = o at *
    rw [ei]
    unfold ev2
    cases hs : sg2 o with
    | true =>
      rw [if_pos rfl]
      cases hi : tI0 (en a) with
      | true => exact tr_go r1 ⟨hz, hs, hi, trivial⟩ rfl (.inr (by rw [eqR_val, Bool.true_and]))
      | false => exact tr_go r2 ⟨hz, hs, hi, trivial⟩ rfl (.inl (by rw [Bool.false_and]))
    | false =>
      rw [if_neg Bool.false_ne_true]
      cases hi : tI0 (en a) with
      | true => exact tr_go r3 ⟨hz, hs, hi, trivial⟩ rfl (.inr (by rw [eqR_val, Bool.true_and]))
      | false => exact tr_go r4 ⟨hz, hs, hi, trivial⟩ rfl (.inl (by rw [Bool.false_and]))
  · rw [decide_eq_false h] at hz
    have eo := tO1_val a n h
    have ei : tryI hF a (tf n) = (tI1 (en a) n && decide (tryO hF a (tf n) * tryO hF a (tf n) = a)) := by unfold tryI; rw [if_neg h, tI1_val]
    have r1 := tr_ftt (en a) n
    have r2 := tr_ftf (en a) n
    have r3 := tr_fft (en a) n
    have r4 := tr_fff (en a) n
    rw [eo, sg_en] at r1 r2 r3 r4
    rw [ng_en] at r1 r2
    unfold tryO at *
    generalize hO : (⟨tryX hF a (tf n), tryY hF a (tf n)⟩ : FP2) = o at *
    rw [ei]
    unfold ev2
    cases hs : sg2 o with
    | true =>
      rw [if_pos rfl]
      cases hi : tI1 (en a) n with
      | true => exact tr_go r1 ⟨hz, hs, hi, trivial⟩ rfl (.inr (by rw [eqR_val, Bool.true_and]))
      | false => exact tr_go r2 ⟨hz, hs, hi, trivial⟩ rfl (.inl (by rw [Bool.false_and]))
    | false =>
      rw [if_neg Bool.false_ne_true]
      cases hi : tI1 (en a) n with
      | true => exact tr_go r3 ⟨hz, hs, hi, trivial⟩ rfl (.inr (by rw [eqR_val, Bool.true_and]))
      | false => exact tr_go r4 ⟨hz, hs, hi, trivial⟩ rfl (.inl (by rw [Bool.false_and]))
end
noncomputable def trSp : ASpec := fun args H fr path => match args with
  | [.val true c, .val false [.p k 0]] => match asNum 6 c, hget H k with
    | some n, some ⟨_, cs, _⟩ => match (rd cs : Option (R FP2)) with
      | some r => some (trR [k] 1 fr 0 [] (trV (mo r) n) [] [(redB r, true)] path)
      | none => none
    | _, _ => none
  | _ => none
theorem trSp_ok : SpecOk Tryz.prog 146 trSp := by
  refine can_spec Tryz.func146 (by kernel_rfl) (by kernel_rfl) fun args H fr path r hs => ?_
  unfold trSp at hs
  split at hs
  case h_2 => cases hs
  rename_i c k
  split at hs
  case h_2 => cases hs
  rename_i n ty cs o hn hk'
  split at hs
  case h_2 => cases hs
  rename_i q hq
  injection hs with hs
  refine ⟨[k], trA n, trH q, 1, 0, [], _, _, _, path, hs.symm, fun β us w ha hg hc => ?_⟩
  obtain ⟨u1, us1, r1, ⟨u2, us2, r2, ha, rfl⟩, rfl⟩ := ha
  have hr := red_en hc.1
  have h := tr_can (mo q) n
  rw [hr] at h
  refine ⟨h, by kernel_rfl, ⟨u1, _, ?_, ⟨u2, us2, r2, ha, rfl⟩, rfl⟩, good1 (c := av q) hg hk' (fun l h => Sh.rd_ok hq h), fun j hj => ?_⟩
  · obtain ⟨l, q, rfl⟩ := r1; exact ⟨l, num_any hn q, rfl⟩
  · match j, hj with
    | 0, _ => exact relB_def (hg.heap _ _ hk')
noncomputable def SJl2 : List (FuncId × ASpec) := (146, trSp) :: SJl
theorem SJl2ok : SpecsOk Tryz.prog SJl2 := ⟨trSp_ok, SJlok⟩
noncomputable abbrev oJl2 : Orc := orc SJl2 KH
theorem oJl2ok : OrcOk Tryz.prog oJl2 := orc_ok SJl2ok KHok
/- Sqrt -/
noncomputable def nmR (q : R FP2) : Nat := ad FP (mu FP q.1 q.1) (mu FP q.2 q.2)
def zer12 : List Ch := [.n .u64 0, .n .u64 0, .n .u64 0, .n .u64 0, .n .u64 0, .n .u64 0, .n .u64 0, .n .u64 0, .n .u64 0, .n .u64 0, .n .u64 0, .n .u64 0]
def sqE : AV := .tup [(true, zer12), (false, [.b false])]
noncomputable def sqO (q : R FP2) (n : Nat) : AV := .tup [(true, av (en (tryO hF (mo q) (tf n)) : R FP2)), (false, [.b true])]
section
variable (r : R FP2)
theorem sq_1 : pureRun Tryz.prog oJl2 Tryz.f73 [va FP2 r] [true] 500 = some ([(!isSqN (nmR (re FP2 r)), true)], sqE) := by kernel_rfl
theorem sq_2 : pureRun Tryz.prog oJl2 Tryz.f73 [va FP2 r] [false, true] 500 = some ([(!isSqN (nmR (re FP2 r)), false), (redB (re FP2 r), true), (tryI hF (mo (re FP2 r)) (tf (rootN (nmR (re FP2 r)))), true)], sqO (re FP2 r) (rootN (nmR (re FP2 r)))) := by kernel_rfl
theorem sq_3 : pureRun Tryz.prog oJl2 Tryz.f73 [va FP2 r] [false, false, true] 500 = some ([(!isSqN (nmR (re FP2 r)), false), (redB (re FP2 r), true), (tryI hF (mo (re FP2 r)) (tf (rootN (nmR (re FP2 r)))), false), (redB (re FP2 r), true), (tryI hF (mo (re FP2 r)) (tf (ng FP (rootN (nmR (re FP2 r))))), true)], sqO (re FP2 r) (ng FP (rootN (nmR (re FP2 r))))) := by kernel_rfl
theorem sq_4 : pureRun Tryz.prog oJl2 Tryz.f73 [va FP2 r] [false, false, false] 500 = some ([(!isSqN (nmR (re FP2 r)), false), (redB (re FP2 r), true), (tryI hF (mo (re FP2 r)) (tf (rootN (nmR (re FP2 r)))), false), (redB (re FP2 r), true), (tryI hF (mo (re FP2 r)) (tf (ng FP (rootN (nmR (re FP2 r))))), false)], sqE) := by kernel_rfl
end
theorem nmR_val (a : FP2) : nmR (en a) = (nrF a).val := by
  unfold nmR ad mu nrF
  show (mo (en (mo a.a.val * mo a.a.val : FP)) + mo (en (mo a.b.val * mo a.b.val : FP)) : FP).val = _
  rw [mo_en, mo_en]
  show (tf a.a.val * tf a.a.val + tf a.b.val * tf a.b.val : FP).val = _
  rw [tf_val, tf_val]
noncomputable def sqV (a : FP2) : AV := .tup [(true, av (en (rt2 a) : R FP2)), (false, [.v (.bool (is2 a))])]
theorem zer_num : (rd zer12 : Option (R FP2)) = some (en (0 : FP2)) := by kernel_rfl
theorem bv_rel {β β' : Env} {b b' : Bool} {u : Value} (e : b = b') (h : relG β false [.b b] u) : relG β' false [.v (.bool b')] u := by
  subst e
  obtain ⟨l1, l2, p1, p2, p3⟩ := h
  exact ⟨l1, l2, ⟨p1, rfl, trivial⟩, p2, p3⟩
theorem sqE_rel {a : FP2} (hi : is2 a = false) {u : Value} (h : relA noEnv sqE u) : relA noEnv (sqV a) u := by
  unfold sqV
  rw [rt2_no hi, hi]
  exact relT2 (fun _ ⟨l, q, e⟩ => ⟨l, Sh.rd_ok (α := FP2) zer_num q, e⟩) (fun _ q => bv_rel rfl q) h
theorem sqO_rel {a : FP2} {n : Nat} (ht : tryI hF a (tf n) = true) {u : Value} (h : relA noEnv (sqO (en a) n) u) : relA noEnv (sqV a) u := by
  obtain ⟨h1, h2⟩ := try_sound ht
  unfold sqV
  rw [← h1, h2]
  unfold sqO at h
  rw [mo_en] at h
  exact relT2 (fun _ q => q) (fun _ q => bv_rel rfl q) h
theorem sqrt2_ok (r : R FP2) : PureOk Tryz.prog 73 [va FP2 r] (sqV (mo r)) := by
  have h1 := sq_1 r
  have h2 := sq_2 r
  have h3 := sq_3 r
  have h4 := sq_4 r
  have e : re FP2 r = en (mo r : FP2) := rfl
  rw [e] at h1 h2 h3 h4
  generalize (mo r : FP2) = a at *
  rw [mo_en, nmR_val] at h2 h3 h4
  rw [nmR_val] at h1
  rw [rt_val, tf_val] at h2 h3 h4
  have en2 : tf (ng FP (rtF (nrF a)).val) = -rtF (nrF a) := by
    show tf (-(tf (rtF (nrF a)).val) : FP).val = _
    rw [tf_val, tf_val]
  rw [en2] at h3 h4
  have hr := redB_en a
  cases hi : isF (nrF a) with
  | false =>
    have hi' : isSqN (nrF a).val = false := hi
    exact pure_val (pure_ok oJl2ok mixed Tryz.func73 h1 ⟨by rw [hi']; rfl, trivial⟩ rfl) fun u q => sqE_rel (prog_no hi) q
  | true =>
    have hi' : (!isSqN (nrF a).val) = false := by
      have : isSqN (nrF a).val = true := hi
      rw [this]; rfl
    cases ht : tryI hF a (rtF (nrF a)) with
    | true =>
      refine pure_val (pure_ok oJl2ok mixed Tryz.func73 h2 ⟨hi', hr, ht, trivial⟩ rfl) fun u q => ?_
      exact sqO_rel (n := (rtF (nrF a)).val) (by rw [tf_val]; exact ht) q
    | false =>
      cases ht2 : tryI hF a (-rtF (nrF a)) with
      | true =>
        refine pure_val (pure_ok oJl2ok mixed Tryz.func73 h3 ⟨hi', hr, ht, hr, ht2, trivial⟩ rfl) fun u q => ?_
        exact sqO_rel (n := ng FP (rtF (nrF a)).val) (by rw [en2]; exact ht2) q
      | false => exact pure_val (pure_ok oJl2ok mixed Tryz.func73 h4 ⟨hi', hr, ht, hr, ht2, trivial⟩ rfl) fun u q => sqE_rel (prog_fail hf_two hi ht ht2) q
noncomputable def SJm : List (FuncId × ASpec) := (73, pureSpec (sq1 FP2 fun r => sqV (mo r))) :: SJk
theorem SJmok : SpecsOk Tryz.prog SJm := ⟨pureSpec_ok Tryz.func73 (by kernel_rfl) (by kernel_rfl) (sq1_ok sqrt2_ok), SJkok⟩
noncomputable abbrev oJm : Orc := orc SJm KH
theorem oJmok : OrcOk Tryz.prog oJm := orc_ok SJmok KHok
end Go.Proofs.YtfmajnlfpnjagaaGreat
/- codec.Decode2: the contract. -/
namespace Go.Proofs.YtfmajnlfpnjagaaGreat
open Ex Num Rg
open Sh (R av rd mo en mo_en)
set_option maxRecDepth 100000
set_option maxHeartbeats 4000000

noncomputable def x2 (K : Nat) (L : List Int) : R FP2 := (xN K 1 L, xN K 0 L)
noncomputable def z2 (L : List Int) : R FP2 := (xN 4 3 L, xN 4 2 L)
noncomputable def y2R (x : R FP2) : R FP2 := en (rt2 (mo (ad FP2 (mu FP2 (mu FP2 x x) x) ((4 : Nat), (4 : Nat)))))
noncomputable def yB2 (x : R FP2) (b : Bool) : R FP2 := if (!(bg2 (mo (y2R x)) == b)) = true then ng FP2 (y2R x) else y2R x
noncomputable def dE2 (e : Int) : AV := .tup [(true, zero24 false), (false, [.n .i64 e])]
noncomputable def dP2 (x y : R FP2) : AV := .tup [(true, lcat (av x) (lcat (av y) [.b false])), (false, [.n .i64 0])]
section
variable (n m : Nat) (xs : List Int)
noncomputable def d2S (s : Bool) (p : List Bool) : ASt := entry Tryz.f26 (dcA n m s) (byH xs) 1 p
theorem d2s_e : segOut Tryz.prog oJm Tryz.f26 800 1 [] (d2S n m xs true [true, true]) = some (wcC n m xs (rdN 2 true (win xs 0 n)) false [(!decide (rdE 2 true (win xs 0 n) = 0), true)], [], .tup [(true, zero24 false), (false, [.v (.int .i64 (rdE 2 true (win xs 0 n)))])], []) := by kernel_rfl
theorem d2s_i : segOut Tryz.prog oJm Tryz.f26 800 1 [] (d2S n m xs true [true, false, true]) = some (wcC n m xs (rdN 2 true (win xs 0 n)) false ((!decide (rdE 2 true (win xs 0 n) = 0), false) :: tt 2 []), [], .tup [(true, zero24 true), (false, [.n .i64 0])], []) := by kernel_rfl
theorem d2l_e : segOut Tryz.prog oJm Tryz.f26 800 1 [] (d2S n m xs false [true, true]) = some (wcC n m xs (rdN 4 false (win xs 0 n)) false [(!decide (rdE 4 false (win xs 0 n) = 0), true)], [], .tup [(true, zero24 false), (false, [.v (.int .i64 (rdE 4 false (win xs 0 n)))])], []) := by kernel_rfl
theorem d2l_i : segOut Tryz.prog oJm Tryz.f26 800 1 [] (d2S n m xs false [true, false, true]) = some (wcC n m xs (rdN 4 false (win xs 0 n)) false ((!decide (rdE 4 false (win xs 0 n) = 0), false) :: tt 2 []), [], .tup [(true, zero24 true), (false, [.n .i64 0])], []) := by kernel_rfl
noncomputable def d2C (b : Bool) (r : List (Bool × Bool)) : List (Bool × Bool) := wcC n m xs (rdN 2 true (win xs 0 n)) true ((true, true) :: (false, false) :: tt 2 ((!(bg2 (mo (y2R (x2 2 (win xs 0 n)))) == flB (win xs 0 n) 32), b) :: r))
noncomputable def d2D (r : List (Bool × Bool)) : List (Bool × Bool) := wcC n m xs (rdN 4 false (win xs 0 n)) true ((true, true) :: (false, false) :: tt 4 r)
theorem d2s_t1 : segOut Tryz.prog oJm Tryz.f26 800 1 [] (d2S n m xs true [false, false, true, true]) = some (d2C n m xs true [(!on2 (mo ((x2 2 (win xs 0 n)), ng FP2 (y2R (x2 2 (win xs 0 n))), false) : P2), true)], [], dE2 204, []) := by kernel_rfl
theorem d2s_t2 : segOut Tryz.prog oJm Tryz.f26 800 1 [] (d2S n m xs true [false, false, true, false, true]) = some (d2C n m xs true [(!on2 (mo ((x2 2 (win xs 0 n)), ng FP2 (y2R (x2 2 (win xs 0 n))), false) : P2), false), (!in2 (mo ((x2 2 (win xs 0 n)), ng FP2 (y2R (x2 2 (win xs 0 n))), false) : P2), true)], [], dE2 205, []) := by kernel_rfl
theorem d2s_t3 : segOut Tryz.prog oJm Tryz.f26 800 1 [] (d2S n m xs true [false, false, true, false, false]) = some (d2C n m xs true [(!on2 (mo ((x2 2 (win xs 0 n)), ng FP2 (y2R (x2 2 (win xs 0 n))), false) : P2), false), (!in2 (mo ((x2 2 (win xs 0 n)), ng FP2 (y2R (x2 2 (win xs 0 n))), false) : P2), false)], [], dP2 (x2 2 (win xs 0 n)) (ng FP2 (y2R (x2 2 (win xs 0 n)))), []) := by kernel_rfl
theorem d2s_f1 : segOut Tryz.prog oJm Tryz.f26 800 1 [] (d2S n m xs true [false, false, false, true]) = some (d2C n m xs false [(!on2 (mo ((x2 2 (win xs 0 n)), y2R (x2 2 (win xs 0 n)), false) : P2), true)], [], dE2 204, []) := by kernel_rfl
theorem d2s_f2 : segOut Tryz.prog oJm Tryz.f26 800 1 [] (d2S n m xs true [false, false, false, false, true]) = some (d2C n m xs false [(!on2 (mo ((x2 2 (win xs 0 n)), y2R (x2 2 (win xs 0 n)), false) : P2), false), (!in2 (mo ((x2 2 (win xs 0 n)), y2R (x2 2 (win xs 0 n)), false) : P2), true)], [], dE2 205, []) := by kernel_rfl
theorem d2s_f3 : segOut Tryz.prog oJm Tryz.f26 800 1 [] (d2S n m xs true [false, false, false, false, false]) = some (d2C n m xs false [(!on2 (mo ((x2 2 (win xs 0 n)), y2R (x2 2 (win xs 0 n)), false) : P2), false), (!in2 (mo ((x2 2 (win xs 0 n)), y2R (x2 2 (win xs 0 n)), false) : P2), false)], [], dP2 (x2 2 (win xs 0 n)) (y2R (x2 2 (win xs 0 n))), []) := by kernel_rfl
theorem d2l_1 : segOut Tryz.prog oJm Tryz.f26 800 1 [] (d2S n m xs false [false, false, true]) = some (d2D n m xs [(!on2 (mo ((x2 4 (win xs 0 n)), z2 (win xs 0 n), false) : P2), true)], [], dE2 204, []) := by kernel_rfl
theorem d2l_2 : segOut Tryz.prog oJm Tryz.f26 800 1 [] (d2S n m xs false [false, false, false, true]) = some (d2D n m xs [(!on2 (mo ((x2 4 (win xs 0 n)), z2 (win xs 0 n), false) : P2), false), (!in2 (mo ((x2 4 (win xs 0 n)), z2 (win xs 0 n), false) : P2), true)], [], dE2 205, []) := by kernel_rfl
theorem d2l_3 : segOut Tryz.prog oJm Tryz.f26 800 1 [] (d2S n m xs false [false, false, false, false]) = some (d2D n m xs [(!on2 (mo ((x2 4 (win xs 0 n)), z2 (win xs 0 n), false) : P2), false), (!in2 (mo ((x2 4 (win xs 0 n)), z2 (win xs 0 n), false) : P2), false)], [], dP2 (x2 4 (win xs 0 n)) (z2 (win xs 0 n)), []) := by kernel_rfl
end
/-- A point that was read: it must lie on the curve, and be of order r. -/
noncomputable def fin2 (p : P2) : P2 × Int := if on2 p = true then (if in2 p = true then (p, 0) else (.pt 0 0, 205)) else (.pt 0 0, 204)
noncomputable def pt2 (s : Bool) (L : List Int) : P2 := match s with
  | true => mo (x2 2 L, yB2 (x2 2 L) (flB L 32), false)
  | false => mo (x2 4 L, z2 L, false)
def kT (s : Bool) : Nat := match s with | true => 2 | false => 4
noncomputable def dec2 (s : Bool) (L : List Int) : P2 × Int := if rdN (kT s) s L = true then fin2 (pt2 s L) else if rdE (kT s) s L = 0 then (.inf, 0) else (.pt 0 0, rdE (kT s) s L)
noncomputable def gmV2 (q : P2 × Int) : AV := mA2 q.1 q.2
theorem zer24_f : (rd (zero24 false) : Option (R P2)) = some (en (.pt 0 0 : P2)) := by kernel_rfl
theorem zer24_t : (rd (zero24 true) : Option (R P2)) = some (en (.inf : P2)) := by kernel_rfl
theorem z24_rel {β β' : Env} {i : Bool} {p : P2} (h : (rd (zero24 i) : Option (R P2)) = some (en p)) {u : Value} (hr : relG β true (zero24 i) u) : relG β' true (av (en p : R P2)) u := by
  obtain ⟨l, q, e⟩ := hr
  exact ⟨l, Sh.rd_ok (α := P2) h q, e⟩
theorem gz_A2 {β : Env} {e : Int} {u : Value} (h : relA β (dE2 e) u) : relA β (gmV2 (.pt 0 0, e)) u := relT2 (fun _ q => z24_rel zer24_f q) (fun _ q => gval rfl q) h
theorem gi_A2 {β : Env} {u : Value} (h : relA β (.tup [(true, zero24 true), (false, [.n .i64 0])]) u) : relA β (gmV2 (.inf, 0)) u := relT2 (fun _ q => z24_rel zer24_t q) (fun _ q => gval rfl q) h
theorem ge_A2 {β : Env} {e : Int} {u : Value} (h : relA β (.tup [(true, zero24 false), (false, [.v (.int .i64 e)])]) u) : relA β (gmV2 (.pt 0 0, e)) u := relT2 (fun _ q => z24_rel zer24_f q) (fun _ q => q) h
theorem rd_ptF (x y : R FP2) : (rd (lcat (av x) (lcat (av y) [.b false])) : Option (R P2)) = some (x, y, false) := by kernel_rfl
theorem gp_A2 {β : Env} {x y : R FP2} (hx : redB x = true) (hy : redB y = true) {u : Value} (h : relA β (dP2 x y) u) : relA β (gmV2 (mo (x, y, false), 0)) u := by
  have e : (en (mo (x, y, false) : P2) : R P2) = (x, y, false) := by
    show ((en (mo x : FP2) : R FP2), (en (mo y : FP2) : R FP2), false) = _
    rw [red_en hx, red_en hy]
  unfold gmV2 mA2
  simp only
  rw [e]
  exact relT2 (fun _ ⟨l, q, e⟩ => ⟨l, Sh.rd_ok (α := P2) (rd_ptF x y) q, e⟩) (fun _ q => gval rfl q) h
theorem dc_fin2 {n m : Nat} {xs : List Int} {s : Bool} {x y : R FP2} (hx : redB x = true) (hy : redB y = true) {C : List (Bool × Bool) → List (Bool × Bool)} (hC : ∀ r, okConds r → okConds (C r)) {p1 p2 p3 : List Bool}
    (h1 : segOut Tryz.prog oJm Tryz.f26 800 1 [] (d2S n m xs s p1) = some (C [(!on2 (mo (x, y, false)), true)], [], dE2 204, []))
    (h2 : segOut Tryz.prog oJm Tryz.f26 800 1 [] (d2S n m xs s p2) = some (C [(!on2 (mo (x, y, false)), false), (!in2 (mo (x, y, false)), true)], [], dE2 205, []))
    (h3 : segOut Tryz.prog oJm Tryz.f26 800 1 [] (d2S n m xs s p3) = some (C [(!on2 (mo (x, y, false)), false), (!in2 (mo (x, y, false)), false)], [], dP2 x y, [])) :
    CanOk Tryz.prog 26 (dcA n m s) (byH xs) 1 [] (gmV2 (fin2 (mo (x, y, false)))) [] := by
  unfold fin2
  cases ho : on2 (mo (x, y, false)) with
  | false =>
    rw [if_neg Bool.false_ne_true]
    exact can_val (can_run SJmok KHok Tryz.func26 (by kernel_rfl) (by kernel_rfl) h1 (by kernel_rfl) (hC _ ⟨by rw [ho]; rfl, trivial⟩)) fun _ _ q => gz_A2 q
  | true =>
    rw [if_pos rfl]
    cases hi : in2 (mo (x, y, false)) with
    | false =>
      rw [if_neg Bool.false_ne_true]
      exact can_val (can_run SJmok KHok Tryz.func26 (by kernel_rfl) (by kernel_rfl) h2 (by kernel_rfl) (hC _ ⟨by rw [ho]; rfl, by rw [hi]; rfl, trivial⟩)) fun _ _ q => gz_A2 q
    | true =>
      rw [if_pos rfl]
      exact can_val (can_run SJmok KHok Tryz.func26 (by kernel_rfl) (by kernel_rfl) h3 (by kernel_rfl) (hC _ ⟨by rw [ho]; rfl, by rw [hi]; rfl, trivial⟩)) fun _ _ q => gp_A2 hx hy q
theorem red_pair {a b : Nat} (ha : a < pN) (hb : b < pN) : redB ((a, b) : R FP2) = true := Bool.and_eq_true_iff.2 ⟨decide_eq_true ha, decide_eq_true hb⟩
theorem y2R_red (x : R FP2) : redB (y2R x) = true := redB_en _
theorem ng2_red (x : R FP2) : redB (ng FP2 x) = true := redB_en _
theorem dec2_can {n m : Nat} {xs : List Int} (hl : n ≤ xs.length) (hm : n ≤ m) (hn : hasB .i64 n = true) (s : Bool) : CanOk Tryz.prog 26 (dcA n m s) (byH xs) 1 [] (gmV2 (dec2 s (win xs 0 n))) [] := by
  have hW : ∀ (b d : Bool) r, b = d → okConds r → okConds (wcC n m xs b d r) := fun b d r h hr => ⟨Nat.ble_eq_true_of_le hl, Nat.ble_eq_true_of_le hm, hn, h, hr⟩
  unfold dec2
  cases hr : rdN (kT s) s (win xs 0 n) with
  | false =>
    rw [if_neg Bool.false_ne_true]
    by_cases he : rdE (kT s) s (win xs 0 n) = 0
    · rw [if_pos he]
      cases s with
      | true => exact can_val (can_run SJmok KHok Tryz.func26 (by kernel_rfl) (by kernel_rfl) (d2s_i n m xs) (by kernel_rfl) (hW _ _ _ hr ⟨e0_false he, tt_ok 2 trivial⟩)) fun _ _ q => gi_A2 q
      | false => exact can_val (can_run SJmok KHok Tryz.func26 (by kernel_rfl) (by kernel_rfl) (d2l_i n m xs) (by kernel_rfl) (hW _ _ _ hr ⟨e0_false he, tt_ok 2 trivial⟩)) fun _ _ q => gi_A2 q
    · rw [if_neg he]
      cases s with
      | true => exact can_val (can_run SJmok KHok Tryz.func26 (by kernel_rfl) (by kernel_rfl) (d2s_e n m xs) (by kernel_rfl) (hW _ _ _ hr ⟨e0_true he, trivial⟩)) fun _ _ q => ge_A2 q
      | false => exact can_val (can_run SJmok KHok Tryz.func26 (by kernel_rfl) (by kernel_rfl) (d2l_e n m xs) (by kernel_rfl) (hW _ _ _ hr ⟨e0_true he, trivial⟩)) fun _ _ q => ge_A2 q
  | true =>
    rw [if_pos rfl]
    cases s with
    | true =>
      have hx : redB (x2 2 (win xs 0 n)) = true := red_pair (xN_lt hr 1 (by decide)) (xN_lt hr 0 (by decide))
      unfold pt2 yB2
      by_cases hb : (!(bg2 (mo (y2R (x2 2 (win xs 0 n)))) == flB (win xs 0 n) 32)) = true
      · simp only [if_pos hb]
        exact dc_fin2 hx (ng2_red _) (C := d2C n m xs true) (fun r hq => hW _ _ _ hr ⟨rfl, rfl, tt_ok 2 ⟨hb, hq⟩⟩) (d2s_t1 n m xs) (d2s_t2 n m xs) (d2s_t3 n m xs)
      · simp only [if_neg hb]
        exact dc_fin2 hx (y2R_red _) (C := d2C n m xs false) (fun r hq => hW _ _ _ hr ⟨rfl, rfl, tt_ok 2 ⟨by simpa using hb, hq⟩⟩) (d2s_f1 n m xs) (d2s_f2 n m xs) (d2s_f3 n m xs)
    | false => exact dc_fin2 (red_pair (xN_lt hr 1 (by decide)) (xN_lt hr 0 (by decide))) (red_pair (xN_lt hr 3 (by decide)) (xN_lt hr 2 (by decide))) (C := d2D n m xs) (fun r hq => hW _ _ _ hr ⟨rfl, rfl, tt_ok 4 hq⟩) (d2l_1 n m xs) (d2l_2 n m xs) (d2l_3 n m xs)
noncomputable def SJn : List (FuncId × ASpec) := (26, dcSp fun s L => gmV2 (dec2 s L)) :: SJm
theorem SJnok : SpecsOk Tryz.prog SJn := ⟨dcSp_ok Tryz.func26 (by kernel_rfl) (by kernel_rfl) (fun _ _ => by kernel_rfl) fun _ _ _ s hl hm hn => dec2_can hl hm hn s, SJmok⟩
noncomputable abbrev oJn : Orc := orc SJn KH
theorem oJnok : OrcOk Tryz.prog oJn := orc_ok SJnok KHok
end Go.Proofs.YtfmajnlfpnjagaaGreat
/- codec: the twisted curve's points to bytes and back. -/
namespace Go.Proofs.YtfmajnlfpnjagaaGreat
open Ex Num Rg
open Sh (R av rd mo en mo_en)
set_option maxRecDepth 100000
set_option maxHeartbeats 4000000

theorem neg_ne1 {y : FP} (h : y ≠ 0) : -y ≠ 0 := fun e => h (by rw [← neg_neg y, e]; exact neg_zero)
theorem bg2_neg1 {y : FP2} (h : y ≠ 0) : bg2 (-y) = !bg2 y := by
  unfold bg2
  by_cases hb : y.b = 0
  · have hb' : (-y).b = 0 := by show -y.b = 0; rw [hb]; exact neg_zero
    have ha : y.a ≠ 0 := fun e => h (Qx.ext e hb)
    rw [if_pos hb, if_pos hb']
    exact bigger_neg1 ha
  · rw [if_neg hb, if_neg (show ¬ (-y).b = 0 from neg_ne1 hb)]
    exact bigger_neg1 hb
theorem y2R_mo (x : R FP2) : (mo (y2R x) : FP2) = rt2 (mo x * mo x * mo x + four2) := by
  unfold y2R
  rw [mo_en]
  have e : (mo (ad FP2 (mu FP2 (mu FP2 x x) x) ((4 : Nat), (4 : Nat))) : FP2) = mo x * mo x * mo x + four2 := by
    unfold ad mu
    rw [mo_en, mo_en, mo_en]; rfl
  rw [e]
theorem ng2_mo (x : R FP2) : (mo (ng FP2 x) : FP2) = -mo x := by unfold ng; rw [mo_en]
theorem yB2_val {a b : FP2} (h : b * b = a * a * a + four2) : (mo (yB2 (en a) (bg2 b)) : FP2) = b := by
  have hb : b ≠ 0 := C2.no2 a b h
  have hs : is2 (a * a * a + four2) = true := is2_iff.2 ⟨b, h⟩
  have e1 := y2R_mo (en a)
  rw [mo_en] at e1
  have hq := rt2_sq hs
  rw [← e1, ← h] at hq
  unfold yB2
  rcases sq_pm2 hq with e | e
  · rw [e, if_neg (by cases bg2 b <;> decide)]
    exact e
  · rw [e, bg2_neg1 hb, if_pos (by cases bg2 b <;> decide), ng2_mo, e, neg_neg]
theorem yB2_big {x : R FP2} {c : Bool} (h : Rg.On C2.b (mo (x, yB2 x c, false) : P2)) : bg2 (mo (yB2 x c)) = c := by
  have hb : (mo (yB2 x c) : FP2) ≠ 0 := C2.no2 _ _ h
  unfold yB2 at hb ⊢
  by_cases hq : (!(bg2 (mo (y2R x)) == c)) = true
  · rw [if_pos hq] at hb ⊢
    rw [ng2_mo] at hb ⊢
    have hne : (mo (y2R x) : FP2) ≠ 0 := fun e => hb (by rw [e]; exact neg_zero)
    rw [bg2_neg1 hne]
    revert hq
    cases bg2 (mo (y2R x)) <;> cases c <;> decide
  · rw [if_neg hq]
    revert hq
    cases bg2 (mo (y2R x)) <;> cases c <;> decide
theorem kT_pos (s : Bool) : 0 < kT s := by cases s <;> decide
theorem kT_le (s : Bool) : kT s ≤ 4 := by cases s <;> decide
theorem l2_lt (p : P2) : ∀ y ∈ [(pX1 p).a.val, (pY1 p).b.val, (pY1 p).a.val], y < pN := fun y hy => by
  rcases List.mem_cons.1 hy with e | hy
  · rw [e]; exact (pX1 p).a.isLt
  · rcases List.mem_cons.1 hy with e | hy
    · rw [e]; exact (pY1 p).b.isLt
    · rcases List.mem_cons.1 hy with e | hy
      · rw [e]; exact (pY1 p).a.isLt
      · cases hy
theorem l2_eq (p : P2) : l2 p = (pX1 p).b.val :: [(pX1 p).a.val, (pY1 p).b.val, (pY1 p).a.val] := rfl
theorem in2_on {p : P2} (h : in2 p = true) : on2 p = true := (Bool.and_eq_true_iff.1 h).1
/-- The bytes of a point are read as the point. -/
theorem dec_enc2 {p : P2} (h : in2 p = true) (s : Bool) : dec2 s (win (e2L s p) 0 (48 * kT s)) = (p, 0) := by
  have ho := in2_on h
  rw [e2L_ec, b2_cat, l2_eq]
  unfold dec2
  cases p with
  | inf =>
    have h0 : ∀ d ∈ cat (((pX1 (Pt.inf : P2)).b.val :: [(pX1 (Pt.inf : P2)).a.val, (pY1 (Pt.inf : P2)).b.val, (pY1 (Pt.inf : P2)).a.val]).take (kT s)), d = 0 := by
      cases s
      · exact zero_cat 4
      · exact zero_cat 2
    obtain ⟨q1, q2⟩ := wr_inf (r := [(pX1 (Pt.inf : P2)).a.val, (pY1 (Pt.inf : P2)).b.val, (pY1 (Pt.inf : P2)).a.val]) (s := s) (i := pI1 (Pt.inf : P2)) (b := bg2 (pY1 (Pt.inf : P2))) (pX1 (Pt.inf : P2)).b.isLt (kT_pos s) (kT_le s) rfl h0
    rw [q1, q2, if_neg Bool.false_ne_true, if_pos rfl]
  | pt a b =>
    obtain ⟨q1, q2, q3⟩ := wr_num (r := [(pX1 (.pt a b : P2)).a.val, (pY1 (.pt a b : P2)).b.val, (pY1 (.pt a b : P2)).a.val]) (s := s) (i := pI1 (.pt a b : P2)) (b := bg2 (pY1 (.pt a b : P2))) (pX1 (.pt a b : P2)).b.isLt (kT_pos s) (kT_le s) (l2_lt _) rfl
    rw [q1, if_pos rfl]
    have hP : pt2 s (win (ecL s (pI1 (.pt a b : P2)) (bg2 (pY1 (.pt a b : P2))) (cat ((pX1 (.pt a b : P2)).b.val :: [(pX1 (.pt a b : P2)).a.val, (pY1 (.pt a b : P2)).b.val, (pY1 (.pt a b : P2)).a.val]))) 0 (48 * kT s)) = .pt a b := by
      generalize win (ecL s (pI1 (.pt a b : P2)) (bg2 (pY1 (.pt a b : P2))) (cat ((pX1 (.pt a b : P2)).b.val :: [(pX1 (.pt a b : P2)).a.val, (pY1 (.pt a b : P2)).b.val, (pY1 (.pt a b : P2)).a.val]))) 0 (48 * kT s) = L at *
      unfold pt2
      cases s with
      | true =>
        have x0 : xN 2 0 L = a.b.val := q2 0 (by decide)
        have x1 : xN 2 1 L = a.a.val := q2 1 (by decide)
        have hon : b * b = a * a * a + four2 := (on2_iff _).1 ho
        have ey := yB2_val hon
        have ex : x2 2 L = en a := by unfold x2; rw [x0, x1]; rfl
        have e3 : flB L 32 = bg2 b := q3
        simp only
        rw [ex, e3]
        show Pt.pt (mo (en a : R FP2) : FP2) (mo (yB2 (en a) (bg2 b)) : FP2) = _
        rw [mo_en, ey]
      | false =>
        have x0 : xN 4 0 L = a.b.val := q2 0 (by decide)
        have x1 : xN 4 1 L = a.a.val := q2 1 (by decide)
        have x3 : xN 4 2 L = b.b.val := q2 2 (by decide)
        have x4 : xN 4 3 L = b.a.val := q2 3 (by decide)
        have ex : x2 4 L = en a := by unfold x2; rw [x0, x1]; rfl
        have ez : z2 L = en b := by unfold z2; rw [x3, x4]; rfl
        simp only
        rw [ex, ez]
        exact mo_en (.pt a b : P2)
    rw [hP]
    unfold fin2
    rw [ho, h]; rfl
theorem dec_len2 (p : P2) (s : Bool) : (dec2 (!s) (win (e2L s p) 0 (48 * kT s))).2 = 200 := by
  have hl : (win (e2L s p) 0 (48 * kT s)).length = 48 * kT s := by
    rw [e2L_ec, b2_cat, l2_eq]
    exact (wr_facts (r := [(pX1 p).a.val, (pY1 p).b.val, (pY1 p).a.val]) (pX1 p).b.isLt (kT_pos s) (kT_le s)).1
  obtain ⟨q1, q2⟩ := rd_len (K := kT (!s)) (s := !s) (L := win (e2L s p) 0 (48 * kT s)) (by rw [hl]; cases s <;> decide)
  unfold dec2
  rw [q1, q2]; rfl
theorem red_en2 {x : R FP2} (h : redB x = true) : (mo x : FP2).a.val = x.1 ∧ (mo x : FP2).b.val = x.2 := by
  have e := red_en h
  exact ⟨congrArg Prod.fst e, congrArg Prod.snd e⟩
/-- Bytes that are read are the point's. -/
theorem enc_dec2 {L : List Int} (hL : ∀ d ∈ L, 0 ≤ d ∧ d < 256) {s : Bool} (h : (dec2 s L).2 = 0) : in2 (dec2 s L).1 = true ∧ win (e2L s (dec2 s L).1) 0 (48 * kT s) = L := by
  unfold dec2 at h ⊢
  cases hr : rdN (kT s) s L with
  | false =>
    rw [hr, if_neg Bool.false_ne_true] at h
    rw [if_neg Bool.false_ne_true]
    by_cases he : rdE (kT s) s L = 0
    · rw [if_pos he]
      refine ⟨by unfold in2; rw [smul_inf]; rfl, ?_⟩
      rw [e2L_ec, b2_cat]
      exact rd_inf (kT_pos s) hL hr he (by cases s <;> rfl)
    · rw [if_neg he] at h; exact absurd h he
  | true =>
    rw [hr, if_pos rfl] at h
    rw [if_pos rfl]
    unfold fin2 at h ⊢
    cases ho : on2 (pt2 s L) with
    | false => rw [ho, if_neg Bool.false_ne_true] at h; cases h
    | true =>
      rw [ho, if_pos rfl] at h
      cases hi : in2 (pt2 s L) with
      | false => rw [hi, if_neg Bool.false_ne_true] at h; cases h
      | true =>
        rw [if_pos rfl, if_pos rfl]
        refine ⟨hi, ?_⟩
        have hon := (on2_iff _).1 ho
        rw [e2L_ec, b2_cat, l2_eq]
        cases s with
        | true =>
          have x0 : xN 2 0 L < pN := xN_lt hr 0 (by decide)
          have x1 : xN 2 1 L < pN := xN_lt hr 1 (by decide)
          have hX : pX1 (pt2 true L) = mo (x2 2 L) := rfl
          have hY : pY1 (pt2 true L) = mo (yB2 (x2 2 L) (flB L 32)) := rfl
          have hI : pI1 (pt2 true L) = false := rfl
          obtain ⟨e1, e2⟩ := red_en2 (x := x2 2 L) (red_pair x1 x0)
          rw [hI, hY, hX, yB2_big hon, e1, e2]
          exact rd_num (kT_pos true) hL hr rfl (by rw [Bool.true_and])
        | false =>
          have x0 : xN 4 0 L < pN := xN_lt hr 0 (by decide)
          have x1 : xN 4 1 L < pN := xN_lt hr 1 (by decide)
          have x3 : xN 4 2 L < pN := xN_lt hr 2 (by decide)
          have x4 : xN 4 3 L < pN := xN_lt hr 3 (by decide)
          have hX : pX1 (pt2 false L) = mo (x2 4 L) := rfl
          have hY : pY1 (pt2 false L) = mo (z2 L) := rfl
          have hI : pI1 (pt2 false L) = false := rfl
          obtain ⟨e1, e2⟩ := red_en2 (x := x2 4 L) (red_pair x1 x0)
          obtain ⟨e3, e4⟩ := red_en2 (x := z2 L) (red_pair x4 x3)
          rw [hI, hY, hX, e1, e2, e3, e4]
          refine rd_num (kT_pos false) hL hr rfl ?_
          unfold rdN at hr
          simp only [Bool.and_eq_true] at hr
          have := hr.2.2.1
          rw [Bool.false_and]
          simpa using this
end Go.Proofs.YtfmajnlfpnjagaaGreat
/- sigilref13: number, b, Reduce, On, twice, plus: the contracts. -/
namespace Go.Proofs.YtfmajnlfpnjagaaGreat
open Ex Num Rg
open Sh (R av rd mo en mo_en)
set_option maxRecDepth 100000
set_option maxHeartbeats 4000000

def KQ : List (TypeId × List (Option IntKind)) := (200, List.replicate 36 (some .u64)) :: KH
theorem KQok : KindsOk Tryz.prog KQ := ⟨⟨by kernel_rfl, by kernel_rfl, by kernel_rfl⟩, KHok⟩
noncomputable abbrev oQ0 : Orc := orc SJn KQ
theorem oQ0ok : OrcOk Tryz.prog oQ0 := orc_ok SJnok KQok
/- number, b, Reduce -/
def numCh (i : Int) : List Ch := [.n .u64 i, .n .u64 0, .n .u64 0, .n .u64 0, .n .u64 0, .n .u64 0, .n .u64 0, .n .u64 0, .n .u64 0, .n .u64 0, .n .u64 0, .n .u64 0]
def num2Sp : List AV → Option AV
  | [.val false [.n .u64 i]] => some (.val true (numCh i))
  | _ => none
theorem r13num_run (i : Int) : pureRun Tryz.prog oQ0 Tryz.f214 [.val false [.n .u64 i]] [] 100 = some ([], .val true (numCh i)) := by kernel_rfl
theorem num2Sp_ok : ∀ args v, num2Sp args = some v → PureOk Tryz.prog 214 args v := by
  intro args v hs
  unfold num2Sp at hs
  split at hs
  case h_2 => cases hs
  rename_i i
  injection hs with hs; subst hs
  exact pure_ok oQ0ok mixed Tryz.func214 (r13num_run i) trivial rfl
theorem r13b_run : pureRun Tryz.prog oQ0 Tryz.f213 [] [] 100 = some ([], .val true G2bC) := by kernel_rfl
theorem r13b_ok : PureOk Tryz.prog 213 [] (ve four2) := pure_sh (α := FP2) (r := (en four2 : R FP2)) (pure_ok oQ0ok mixed Tryz.func213 r13b_run trivial rfl) (by kernel_rfl)
section
variable (r s : R P2)
theorem r13red_i : pureRun Tryz.prog oQ0 Tryz.f137 [va P2 r] [true] 300 = some ([(r.2.2, true)], .val true (zero24 true)) := by kernel_rfl
theorem r13red_p : pureRun Tryz.prog oQ0 Tryz.f137 [va P2 r] [false] 300 = some ([(r.2.2, false)], .val true (lcat (av (re FP2 r.1)) (lcat (av (re FP2 r.2.1)) [.b false]))) := by kernel_rfl
end
theorem r13red_ok (r : R P2) : PureOk Tryz.prog 137 [va P2 r] (ve (mo r : P2)) := by
  have h1 := r13red_i r
  have h2 := r13red_p r
  obtain ⟨x, y, i⟩ := r
  cases i with
  | true => exact pure_sh (α := P2) (r := (en (.inf : P2) : R P2)) (pure_ok oQ0ok mixed Tryz.func137 h1 ⟨rfl, trivial⟩ rfl) (by kernel_rfl)
  | false => exact pure_sh (α := P2) (r := ((re FP2 x, re FP2 y, false) : R P2)) (pure_ok oQ0ok mixed Tryz.func137 h2 ⟨rfl, trivial⟩ rfl) (by kernel_rfl)
noncomputable def SQ0 : List (FuncId × ASpec) := (214, pureSpec num2Sp) :: (213, pureSpec (ev FP2 (ve four2))) :: (137, pureSpec (sq1 P2 fun r => ve (mo r : P2))) :: SJn
theorem SQ0ok : SpecsOk Tryz.prog SQ0 := ⟨pureSpec_ok Tryz.func214 (by kernel_rfl) (by kernel_rfl) num2Sp_ok, pureSpec_ok Tryz.func213 (by kernel_rfl) (by kernel_rfl) (ev_ok r13b_ok), pureSpec_ok Tryz.func137 (by kernel_rfl) (by kernel_rfl) (sq1_ok r13red_ok), SJnok⟩
noncomputable abbrev oQ1 : Orc := orc SQ0 KQ
theorem oQ1ok : OrcOk Tryz.prog oQ1 := orc_ok SQ0ok KQok
/- twice -/
def kk (n : Nat) : R FP2 := ((n : Nat), (0 : Nat))
noncomputable def uS (x y : R FP2) : R FP2 := mu FP2 (kk 4) (mu FP2 x (mu FP2 y y))
noncomputable def uM (x : R FP2) : R FP2 := mu FP2 (kk 3) (mu FP2 x x)
noncomputable def uX (x y : R FP2) : R FP2 := su FP2 (mu FP2 (uM x) (uM x)) (ad FP2 (uS x y) (uS x y))
noncomputable def uY (x y : R FP2) : R FP2 := su FP2 (mu FP2 (uM x) (su FP2 (uS x y) (uX x y))) (mu FP2 (kk 8) (mu FP2 (mu FP2 y y) (mu FP2 y y)))
noncomputable def uT (r : R J2) : R J2 := (uX r.1 r.2.1, uY r.1 r.2.1, mu FP2 (kk 2) (mu FP2 r.2.1 r.2.2))
theorem r13tw_run (r : R J2) : pureRun Tryz.prog oQ1 Tryz.f234 [va J2 r] [] 500 = some ([], va J2 (uT r)) := by kernel_rfl
theorem mo_kk2 : (mo (kk 2) : FP2) = 1 + 1 := Qx.ext tf_k2 (by show tf 0 = 0 + 0; rw [tf_zero]; exact (zero_add 0).symm)
theorem mo_kk3 : (mo (kk 3) : FP2) = 1 + 1 + 1 := Qx.ext tf_k3 (by show tf 0 = 0 + 0 + 0; rw [tf_zero, zero_add, zero_add])
theorem mo_kk4 : (mo (kk 4) : FP2) = 1 + 1 + (1 + 1) := Qx.ext tf_k4 (by show tf 0 = 0 + 0 + (0 + 0); rw [tf_zero, zero_add, zero_add])
theorem mo_kk8 : (mo (kk 8) : FP2) = 1 + 1 + (1 + 1) + (1 + 1 + (1 + 1)) := Qx.ext tf_k8 (by show tf 0 = 0 + 0 + (0 + 0) + (0 + 0 + (0 + 0)); rw [tf_zero, zero_add, zero_add, zero_add])
theorem k4_eq (x y : FP2) : (1 + 1 + (1 + 1)) * (x * (y * y)) = jD x y := ring [x, y] (a := (1 + 1 + (1 + 1)) * (x * (y * y))) (b := x * (y * y) + x * (y * y) + (x * (y * y) + x * (y * y))) (by kernel_rfl)
theorem k3_eq (x : FP2) : (1 + 1 + 1) * (x * x) = jE x := ring [x] (a := (1 + 1 + 1) * (x * x)) (b := x * x + x * x + x * x) (by kernel_rfl)
theorem k8_eq (y : FP2) : (1 + 1 + (1 + 1) + (1 + 1 + (1 + 1))) * ((y * y) * (y * y)) = jC8 y := ring [y] (a := (1 + 1 + (1 + 1) + (1 + 1 + (1 + 1))) * ((y * y) * (y * y))) (b := ((y * y) * (y * y) + (y * y) * (y * y) + ((y * y) * (y * y) + (y * y) * (y * y))) + ((y * y) * (y * y) + (y * y) * (y * y) + ((y * y) * (y * y) + (y * y) * (y * y)))) (by kernel_rfl)
theorem k2_eq (y z : FP2) : (1 + 1) * (y * z) = y * z + y * z := ring [y, z] (a := (1 + 1) * (y * z)) (b := y * z + y * z) (by kernel_rfl)
theorem uT_en (r : R J2) : uT r = en (twJ (mo r : J2)) := by
  unfold uT uY uX uM uS su mu ad
  simp only [mo_en, mo_kk2, mo_kk3, mo_kk4, mo_kk8, k2_eq, k3_eq, k4_eq, k8_eq]
  rfl
theorem r13tw_ok (r : R J2) : PureOk Tryz.prog 234 [va J2 r] (ve (twJ (mo r : J2))) := by
  unfold ve
  rw [← uT_en]
  exact pure_ok oQ1ok mixed Tryz.func234 (r13tw_run r) trivial rfl
theorem r13on_i (r : R P2) : pureRun Tryz.prog oQ1 Tryz.f135 [va P2 r] [true] 300 = some ([(r.2.2, true)], .val false [.b true]) := by kernel_rfl
theorem r13on_p (r : R P2) : pureRun Tryz.prog oQ1 Tryz.f135 [va P2 r] [false] 300 = some ([(r.2.2, false)], boolA (cvN r.1 r.2.1)) := by kernel_rfl
theorem r13on_ok (r : R P2) : PureOk Tryz.prog 135 [va P2 r] (boolA (on2 (mo r))) := by
  have h1 := r13on_i r
  have h2 := r13on_p r
  obtain ⟨x, y, i⟩ := r
  cases i with
  | true => exact pure_val (pure_ok oQ1ok mixed Tryz.func135 h1 ⟨rfl, trivial⟩ rfl) fun u hu => bv_one rfl hu
  | false =>
    have e : on2 (mo ((x, y, false) : R P2)) = cvN x y := (cvN_eq x y).symm
    rw [e]
    exact pure_ok oQ1ok mixed Tryz.func135 h2 ⟨rfl, trivial⟩ rfl
noncomputable def SQ1 : List (FuncId × ASpec) := (234, pureSpec (sq1 J2 fun r => ve (twJ (mo r : J2)))) :: (135, pureSpec (sq1 P2 fun r => boolA (on2 (mo r)))) :: SQ0
theorem SQ1ok : SpecsOk Tryz.prog SQ1 := ⟨pureSpec_ok Tryz.func234 (by kernel_rfl) (by kernel_rfl) (sq1_ok r13tw_ok), pureSpec_ok Tryz.func135 (by kernel_rfl) (by kernel_rfl) (sq1_ok r13on_ok), SQ0ok⟩
noncomputable abbrev oQ2 : Orc := orc SQ1 KQ
theorem oQ2ok : OrcOk Tryz.prog oQ2 := orc_ok SQ1ok KQok
/- plus -/
section
variable (p : R J2) (q : R P2)
theorem up_1 : pureRun Tryz.prog oQ2 Tryz.f235 [va J2 p, va P2 q] [true] 500 = some ([(eqZ p.2.2, true)], .val true (lcat (av q.1) (lcat (av q.2.1) (numCh 1)))) := by kernel_rfl
theorem up_2 : pureRun Tryz.prog oQ2 Tryz.f235 [va J2 p, va P2 q] [false, true, true] 500 = some ([(eqZ p.2.2, false), (eqZ (qH p.1 p.2.2 q.1), true), (eqZ (qR p.2.1 p.2.2 q.2.1), true)], ve (twJ (mo p : J2))) := by kernel_rfl
theorem up_3 : pureRun Tryz.prog oQ2 Tryz.f235 [va J2 p, va P2 q] [false, true, false] 500 = some ([(eqZ p.2.2, false), (eqZ (qH p.1 p.2.2 q.1), true), (eqZ (qR p.2.1 p.2.2 q.2.1), false)], .val true zero36) := by kernel_rfl
theorem up_4 : pureRun Tryz.prog oQ2 Tryz.f235 [va J2 p, va P2 q] [false, false] 500 = some ([(eqZ p.2.2, false), (eqZ (qH p.1 p.2.2 q.1), false)],
  va J2 (qPX p.1 (qH p.1 p.2.2 q.1) (qR p.2.1 p.2.2 q.2.1), qPY p.1 p.2.1 (qH p.1 p.2.2 q.1) (qR p.2.1 p.2.2 q.2.1), mu FP2 p.2.2 (qH p.1 p.2.2 q.1))) := by kernel_rfl
end
theorem up_ok {p : R J2} {q : R P2} (hz : redB p.2.2 = true) (hx : redB q.1 = true) (hy : redB q.2.1 = true) : PureOk Tryz.prog 235 [va J2 p, va P2 q] (ve (plJ (mo p : J2) (mo q.1) (mo q.2.1))) := by
  have ez : eqZ p.2.2 = decide ((mo p : J2).z = 0) := by conv => lhs; rw [← red_en hz]
                                                         exact eqZ_en _
  have eh : qH p.1 p.2.2 q.1 = en (pH (mo p : J2) (mo q.1)) := by unfold qH su mu; simp only [mo_en]; rfl
  have er : qR p.2.1 p.2.2 q.2.1 = en (pR (mo p : J2) (mo q.2.1)) := by unfold qR su mu; simp only [mo_en]; rfl
  have zh : eqZ (qH p.1 p.2.2 q.1) = decide (pH (mo p : J2) (mo q.1) = 0) := by rw [eh]; exact eqZ_en _
  have zr : eqZ (qR p.2.1 p.2.2 q.2.1) = decide (pR (mo p : J2) (mo q.2.1) = 0) := by rw [er]; exact eqZ_en _
  have r1 := up_1 p q
  have r2 := up_2 p q
  have r3 := up_3 p q
  have r4 := up_4 p q
  rw [zh, ez] at r2
  rw [zh, ez, zr] at r3
  rw [zr] at r2
  rw [zh, ez, eh, er] at r4
  rw [ez] at r1
  unfold plJ
  by_cases h0 : (mo p : J2).z = 0
  · rw [if_pos h0]
    refine pure_sh (α := J2) (r := (en (⟨mo q.1, mo q.2.1, 1⟩ : J2) : R J2)) (pure_ok oQ2ok mixed Tryz.func235 r1 ⟨decide_eq_true h0, trivial⟩ rfl) ?_
    have e : (en (⟨mo q.1, mo q.2.1, 1⟩ : J2) : R J2) = (q.1, q.2.1, en (1 : FP2)) := by
      show ((en (mo q.1 : FP2), en (mo q.2.1 : FP2), en (1 : FP2)) : R J2) = _
      rw [red_en hx, red_en hy]
    rw [e]
    exact rd_j1 _ _
  · rw [if_neg h0]
    by_cases hh : pH (mo p : J2) (mo q.1) = 0
    · rw [if_pos hh]
      by_cases hr : pR (mo p : J2) (mo q.2.1) = 0
      · rw [if_pos hr]
        exact pure_ok oQ2ok mixed Tryz.func235 r2 ⟨decide_eq_false h0, decide_eq_true hh, decide_eq_true hr, trivial⟩ rfl
      · rw [if_neg hr]
        exact pure_sh (α := J2) (r := (en (⟨0, 0, 0⟩ : J2) : R J2)) (pure_ok oQ2ok mixed Tryz.func235 r3 ⟨decide_eq_false h0, decide_eq_true hh, decide_eq_false hr, trivial⟩ rfl) (by kernel_rfl)
    · rw [if_neg hh]
      have e : ((qPX p.1 (en (pH (mo p : J2) (mo q.1))) (en (pR (mo p : J2) (mo q.2.1))), qPY p.1 p.2.1 (en (pH (mo p : J2) (mo q.1))) (en (pR (mo p : J2) (mo q.2.1))), mu FP2 p.2.2 (en (pH (mo p : J2) (mo q.1)))) : R J2) =
          en (⟨pX (mo p : J2).x (pH (mo p : J2) (mo q.1)) (pR (mo p : J2) (mo q.2.1)), pY (mo p : J2).x (mo p : J2).y (pH (mo p : J2) (mo q.1)) (pR (mo p : J2) (mo q.2.1)), (mo p : J2).z * pH (mo p : J2) (mo q.1)⟩ : J2) := by
        unfold qPY qPX su mu ad
        simp only [mo_en]
        rfl
      rw [e] at r4
      exact pure_ok oQ2ok mixed Tryz.func235 r4 ⟨decide_eq_false h0, decide_eq_false hh, trivial⟩ rfl
theorem up2Sp_ok : ∀ args c v, pl2Sp args = some (c, v) → okConds c → PureOk Tryz.prog 235 args v := by
  intro args c v hs hc us w ha
  unfold pl2Sp at hs
  split at hs
  case h_2 => cases hs
  split at hs
  case h_2 => cases hs
  rename_i p q hx hy
  injection hs with hs; injection hs with h1 h2; subst h1; subst h2
  obtain ⟨u1, us1, r1, ⟨u2, us2, r2, ha, rfl⟩, rfl⟩ := ha
  exact up_ok hc.1 hc.2.1 hc.2.2.1 _ w ⟨u1, _, va_rel hx r1, ⟨u2, _, va_rel hy r2, ha, rfl⟩, rfl⟩
noncomputable def SQ2 : List (FuncId × ASpec) := (235, condSpec pl2Sp) :: SQ1
theorem SQ2ok : SpecsOk Tryz.prog SQ2 := ⟨condSpec_ok Tryz.func235 (by kernel_rfl) (by kernel_rfl) up2Sp_ok, SQ1ok⟩
noncomputable abbrev oQ3 : Orc := orc SQ2 KQ
theorem oQ3ok : OrcOk Tryz.prog oQ3 := orc_ok SQ2ok KQok
end Go.Proofs.YtfmajnlfpnjagaaGreat
/- bls.caught, and the closures that catch: the contracts. -/
namespace Go.Proofs.YtfmajnlfpnjagaaGreat
open Ex
set_option maxRecDepth 100000
set_option maxHeartbeats 4000000

theorem caught_nil (w : World) : Calls Tryz.prog 58 #[.nilIface] w fun e w' => e = .returned (.int .i64 0) ∧ w' = w := by
  go_enter Tryz.func58, Tryz.ntmps58
  go_wp2
  exact ⟨rfl, _, results_tmp rfl _ _ _, rfl, rfl⟩
theorem caught_err (w : World) : Calls Tryz.prog 58 #[.iface 26 (.int .i64 210)] w fun e w' => e = .returned (.int .i64 210) ∧ w' = w := by
  have hta : ∀ (T : TypeId) (w : World), (Instr.typeAssert (.iface 26 (.int .i64 210)) T 26 true).run Tryz.prog w = .ok (.tuple #[.int .i64 210, .bool true]) w := fun T w => by
    simp [Instr.typeAssert, go_sem]
  have hnot : ∀ (x : Bool) (w : World), (Op.unary .not (.bool x)).run Tryz.prog w = .ok (.bool (!x)) w := fun _ _ => rfl
  go_enter Tryz.func58, Tryz.ntmps58
  go_wp2
  exact ⟨rfl, _, results_tmp rfl _ _ _, rfl, rfl⟩
theorem idle_a (p q : Value) (w : World) : CallsD Tryz.prog 57 #[p, q] .returning w fun e u' w' => e = .returned (.tuple #[]) ∧ u' = .returning ∧ w' = w := by
  refine callsD_of_wpS Tryz.func57 rfl fun c₀ cs hu => ?_
  apply wpS_seq
  apply wpS_region
  simp [wpOpsS, go_sem, recoverD, hu, Tryz.ntmps57, Exit.thenS]
  refine (caught_nil w).mono ?_
  rintro e w' ⟨rfl, rfl⟩
  show Code.wpS Tryz.prog _ _ _ _ _
  apply wpS_seq
  apply wpS_region
  simp [wpOpsS, go_sem, Exit.thenS]
  refine wpS_cond (t := false) (by simp [Act.eval, Array.replicate]) ?_
  simp only [Bool.false_eq_true, if_false]
  refine wpS_of_wp (wp_skip ?_)
  cases c₀
  simp_all [bodyPostS, results, Tryz.results57]
theorem catch_a (p q : Addr) (x y : Value) (w : World) (hp : w.cell? p = some x) (hfp : w.frozen? p = false) (hq : w.cell? q = some y) (hfq : w.frozen? q = false) (hne : p.block ≠ q.block) :
    CallsD Tryz.prog 57 #[.pointer (some p), .pointer (some q)] (.panicking [{ v := .iface 26 (.int .i64 210), recovered := false }]) w fun e u' w' =>
      e = .returned (.tuple #[]) ∧ u' = .panicking [{ v := .iface 26 (.int .i64 210), recovered := true }] ∧ w' = (w.setCell p (.slice none 0 0)).setCell q (.int .i64 210) := by
  refine callsD_of_wpS Tryz.func57 rfl fun c₀ cs hu => ?_
  apply wpS_seq
  apply wpS_region
  simp [wpOpsS, go_sem, recoverD, hu, Tryz.ntmps57, Exit.thenS]
  refine (caught_err w).mono ?_
  rintro e w' ⟨rfl, rfl⟩
  show Code.wpS Tryz.prog _ _ _ _ _
  apply wpS_seq
  apply wpS_region
  simp [wpOpsS, go_sem, Exit.thenS]
  refine wpS_cond (t := true) (by simp [Act.eval, Array.replicate]) ?_
  simp only [if_true]
  apply wpS_region
  have e1 : (w'.setCell p (.slice none 0 0)).cell? q = some y := by rw [World.cell?_setCell_other (h := fun h => hne (congrArg Addr.block h))]; exact hq
  have e2 : (w'.setCell p (.slice none 0 0)).frozen? q = false := by rw [World.frozen?_setCell]; exact hfq
  simp [wpOpsS, go_sem, hp, hfp, e1, e2, bodyPostS, results, Tryz.results57]
theorem idle_b (p q : Value) (w : World) : CallsD Tryz.prog 159 #[p, q] .returning w fun e u' w' => e = .returned (.tuple #[]) ∧ u' = .returning ∧ w' = w := by
  refine callsD_of_wpS Tryz.func159 rfl fun c₀ cs hu => ?_
  apply wpS_seq
  apply wpS_region
  simp [wpOpsS, go_sem, recoverD, hu, Tryz.ntmps159, Exit.thenS]
  refine (caught_nil w).mono ?_
  rintro e w' ⟨rfl, rfl⟩
  show Code.wpS Tryz.prog _ _ _ _ _
  apply wpS_seq
  apply wpS_region
  simp [wpOpsS, go_sem, Exit.thenS]
  refine wpS_cond (t := false) (by simp [Act.eval, Array.replicate]) ?_
  simp only [Bool.false_eq_true, if_false]
  refine wpS_of_wp (wp_skip ?_)
  cases c₀
  simp_all [bodyPostS, results, Tryz.results159]
theorem catch_b (p q : Addr) (x y : Value) (w : World) (hp : w.cell? p = some x) (hfp : w.frozen? p = false) (hq : w.cell? q = some y) (hfq : w.frozen? q = false) (hne : p.block ≠ q.block) :
    CallsD Tryz.prog 159 #[.pointer (some p), .pointer (some q)] (.panicking [{ v := .iface 26 (.int .i64 210), recovered := false }]) w fun e u' w' =>
      e = .returned (.tuple #[]) ∧ u' = .panicking [{ v := .iface 26 (.int .i64 210), recovered := true }] ∧ w' = (w.setCell p (.slice none 0 0)).setCell q (.int .i64 210) := by
  refine callsD_of_wpS Tryz.func159 rfl fun c₀ cs hu => ?_
  apply wpS_seq
  apply wpS_region
  simp [wpOpsS, go_sem, recoverD, hu, Tryz.ntmps159, Exit.thenS]
  refine (caught_err w).mono ?_
  rintro e w' ⟨rfl, rfl⟩
  show Code.wpS Tryz.prog _ _ _ _ _
  apply wpS_seq
  apply wpS_region
  simp [wpOpsS, go_sem, Exit.thenS]
  refine wpS_cond (t := true) (by simp [Act.eval, Array.replicate]) ?_
  simp only [if_true]
  apply wpS_region
  have e1 : (w'.setCell p (.slice none 0 0)).cell? q = some y := by rw [World.cell?_setCell_other (h := fun h => hne (congrArg Addr.block h))]; exact hq
  have e2 : (w'.setCell p (.slice none 0 0)).frozen? q = false := by rw [World.frozen?_setCell]; exact hfq
  simp [wpOpsS, go_sem, hp, hfp, e1, e2, bodyPostS, results, Tryz.results159]
end Go.Proofs.YtfmajnlfpnjagaaGreat
/- fr.wide, Reduce, FromOctets, Bytes, FromBytes: the contracts. -/
namespace Go.Proofs.YtfmajnlfpnjagaaGreat
open Ex Num Rg
open Sh (R av rd mo en mo_en)
set_option maxRecDepth 100000
set_option maxHeartbeats 4000000

def KV : List (TypeId × List (Option IntKind)) := (35, List.replicate 4 (some .u64)) :: KQ
theorem KVok : KindsOk Tryz.prog KV := ⟨⟨by kernel_rfl, by kernel_rfl, by kernel_rfl⟩, KQok⟩
def num4 (x : Nat) : AV := .val true [.num 4 x]
def ws4 (x : Nat) : List Int := (List.range 4).map (wordN x) ++ []
def R4 : Nat := 115792089237316195423570985008687907853269984665640564039457584007913129639936
theorem R4_eq : R4 = 2 ^ (64 * 4) := by decide
theorem rQ_lt : Nat.blt rQ R4 = true := by kernel_rfl
theorem rN_lt : rN < R4 := by rw [rN_eq]; exact nblt.1 rQ_lt
theorem rN_pos : 0 < rN := by rw [rN_eq]; exact nblt.1 (by kernel_rfl)
theorem modr_lt (x : Nat) : x % rN < R4 := Nat.lt_trans (Nat.mod_lt _ rN_pos) rN_lt
def wd4 (l : List Int) : List Int := (wl 5 (natL l % natL (win RL 0 4))).take 4
theorem frw_run (off n m : Nat) (xs : List Int) : segOut Tryz.prog oJn Tryz.f87 300 1 [] (entry Tryz.f87 [slA 0 off n m] (seqH xs) 1 []) =
  some ([(Nat.ble (off + n) xs.length, true), (hasB .i64 n, true), (true, true), (true, true), (true, true), (true, true), (false, false), (true, true)], [], .val true [.seq .u64 (wd4 (win xs off n))], []) := by kernel_rfl
theorem frw_can {off n m : Nat} {xs : List Int} (hl : off + n ≤ xs.length) (hn : n ≤ 1125899906842624) : CanOk Tryz.prog 87 [slA 0 off n m] (seqH xs) 1 [] (num4 (natL (win xs off n) % rN)) [] := by
  refine can_val (can_run SJnok KHok Tryz.func87 (by kernel_rfl) (by kernel_rfl) (frw_run off n m xs) (by kernel_rfl) ⟨Nat.ble_eq_true_of_le hl, hasB_len hn, rfl, rfl, rfl, rfl, rfl, rfl, trivial⟩) fun β u hu => ?_
  obtain ⟨l, q, rfl⟩ := hu
  refine ⟨l, num_of_wl (β := β) (k := 4) ?_ ?_, rfl⟩
  · rw [← R4_eq]; exact modr_lt _
  · unfold wd4 at q
    rw [wl_take, natL_RL] at q
    exact q
noncomputable def SVb1 : List (FuncId × ASpec) := (87, nilSpec (wdSp fun _ l => num4 (natL l % rN))) :: SJn
theorem SVb1ok : SpecsOk Tryz.prog SVb1 := ⟨nilSpec_ok (wdSp_ok Tryz.func87 (by kernel_rfl) (by kernel_rfl) (fun _ _ => rfl) fun _ _ _ _ _ hl hn => frw_can hl hn), SJnok⟩
noncomputable abbrev oVb1 : Orc := orc SVb1 KV
theorem oVb1ok : OrcOk Tryz.prog oVb1 := orc_ok SVb1ok KVok
theorem natL_ws4 {x : Nat} (h : x < R4) : natL (win (ws4 x) 0 4) = x := by
  have e : win (ws4 x) 0 4 = wl 4 x := by
    unfold win ws4 wl
    rw [List.append_nil, List.drop_zero, List.take_of_length_le (by simp)]
  rw [e, natL_wl (by rw [← R4_eq]; exact h)]
theorem fred_run (a : Nat) : pureRun Tryz.prog oVb1 Tryz.f70 [num4 a] [] 300 = some (tt 2 [], num4 (natL (win (ws4 a) 0 4) % rN)) := by kernel_rfl
theorem fred_ok {a : Nat} (h : a < R4) : PureOk Tryz.prog 70 [num4 a] (num4 (a % rN)) := by
  have h1 := pure_ok oVb1ok mixed Tryz.func70 (fred_run a) (tt_ok 2 trivial) rfl
  rw [natL_ws4 h] at h1
  exact h1
def spN4 (g : Nat → AV) : List AV → Option AV
  | [.val true a] => match asNum 4 a with
    | some x => some (g x)
    | none => none
  | _ => none
theorem spN4_ok {f : FuncId} {g : Nat → AV} (h : ∀ x, x < R4 → PureOk Tryz.prog f [num4 x] (g x)) : ∀ args v, spN4 g args = some v → PureOk Tryz.prog f args v := by
  intro args v hs us w ha
  unfold spN4 at hs
  split at hs
  case h_2 => cases hs
  rename_i a
  split at hs
  case h_2 => cases hs
  rename_i x hx
  injection hs with hs; subst hs
  obtain ⟨u1, us1, ⟨l, q, rfl⟩, ha, rfl⟩ := ha
  obtain ⟨_, hlt⟩ := asNum_rel hx q
  exact h x (by rw [R4_eq]; exact hlt) _ w ⟨_, _, ⟨l, num_any hx q, rfl⟩, ha, rfl⟩
noncomputable def SVb2 : List (FuncId × ASpec) := (70, pureSpec (spN4 fun x => num4 (x % rN))) :: SVb1
theorem SVb2ok : SpecsOk Tryz.prog SVb2 := ⟨pureSpec_ok Tryz.func70 (by kernel_rfl) (by kernel_rfl) (spN4_ok fun _ h => fred_ok h), SVb1ok⟩
noncomputable abbrev oVb2 : Orc := orc SVb2 KV
theorem oVb2ok : OrcOk Tryz.prog oVb2 := orc_ok SVb2ok KVok
/- FromBytes -/
noncomputable def frV (n N : Nat) : Nat := if n = 32 ∧ N < rN then N else 0
noncomputable def frE (n N : Nat) : Int := if n = 32 then (if N < rN then 0 else 61) else 60
noncomputable def frA (n N : Nat) : AV := .tup [(true, [.num 4 (frV n N)]), (false, [.v (.int .i64 (frE n N))])]
def zero4 : List Ch := [.n .u64 0, .n .u64 0, .n .u64 0, .n .u64 0]
def fr0 (e : Int) : AV := .tup [(true, zero4), (false, [.n .i64 e])]
theorem zero_num4 {β : Env} {v : Value} (h : relG β true zero4 v) : relG β true [.num 4 0] v := by
  obtain ⟨l, q, rfl⟩ := h
  exact ⟨l, num_any (k := 4) (x := 0) (by kernel_rfl) q, rfl⟩
theorem frb_len (off n m : Nat) (xs : List Int) : segOut Tryz.prog oVb2 Tryz.f24 300 1 [] (entry Tryz.f24 [slA 0 off n m] (byH xs) 1 [true]) =
  some ([(hasB .i64 n, true), (!decide ((n : Int) = 32), true)], [], fr0 60, []) := by kernel_rfl
noncomputable def frC (off : Nat) (xs : List Int) (b : Bool) : List (Bool × Bool) := [(true, true), (false, false), (Nat.ble (off + 32) xs.length, true), (true, true), (true, true), (!decide (natB (win xs off 32) % rN = natB (win xs off 32)), b)]
theorem frb_range (off m : Nat) (xs : List Int) : segOut Tryz.prog oVb2 Tryz.f24 300 1 [] (entry Tryz.f24 [slA 0 off 32 m] (byH xs) 1 [false, true]) = some (frC off xs true, [], fr0 61, []) := by kernel_rfl
theorem frb_num (off m : Nat) (xs : List Int) : segOut Tryz.prog oVb2 Tryz.f24 300 1 [] (entry Tryz.f24 [slA 0 off 32 m] (byH xs) 1 [false, false]) =
  some (frC off xs false, [], .tup [(true, [.num 4 (natB (win xs off 32))]), (false, [.n .i64 0])], []) := by kernel_rfl
theorem frb_can {off n m : Nat} {xs : List Int} (hl : off + n ≤ xs.length) (hn : hasB .i64 n = true) :
    CanOk Tryz.prog 24 [slA 0 off n m] (byH xs) 1 [] (frA n (natB (win xs off n))) [] := by
  have hmod : ∀ N : Nat, decide (N % rN = N) = decide (N < rN) := fun N => by
    by_cases h : N < rN
    · rw [decide_eq_true h, decide_eq_true (Nat.mod_eq_of_lt h)]
    · rw [decide_eq_false h, decide_eq_false fun e => h (by rw [← e]; exact Nat.mod_lt _ rN_pos)]
  by_cases h : n = 32
  · subst h
    by_cases hN : natB (win xs off 32) < rN
    · refine can_val (can_run SVb2ok KVok Tryz.func24 (by kernel_rfl) (by kernel_rfl) (frb_num off m xs) (by kernel_rfl) ⟨rfl, rfl, Nat.ble_eq_true_of_le hl, rfl, rfl, by rw [hmod, decide_eq_true hN]; rfl, trivial⟩) fun β u hu => ?_
      unfold frA frV frE
      rw [if_pos ⟨rfl, hN⟩, if_pos rfl, if_pos hN]
      exact relT2 (fun _ q => q) (fun _ q => gval rfl q) hu
    · refine can_val (can_run SVb2ok KVok Tryz.func24 (by kernel_rfl) (by kernel_rfl) (frb_range off m xs) (by kernel_rfl) ⟨rfl, rfl, Nat.ble_eq_true_of_le hl, rfl, rfl, by rw [hmod, decide_eq_false hN]; rfl, trivial⟩) fun β u hu => ?_
      unfold frA frV frE
      rw [if_neg (fun q => hN q.2), if_pos rfl, if_neg hN]
      exact relT2 (fun _ q => zero_num4 q) (fun _ q => gval rfl q) hu
  · refine can_val (can_run SVb2ok KVok Tryz.func24 (by kernel_rfl) (by kernel_rfl) (frb_len off n m xs) (by kernel_rfl) ⟨hn, by simp; omega, trivial⟩) fun β u hu => ?_
    unfold frA frV frE
    rw [if_neg (fun q => h q.1), if_neg h]
    exact relT2 (fun _ q => zero_num4 q) (fun _ q => gval rfl q) hu
noncomputable def SVb3 : List (FuncId × ASpec) := (24, nilSpec (bySp fun n l => frA n (natB l))) :: SVb2
theorem SVb3ok : SpecsOk Tryz.prog SVb3 := ⟨nilSpec_ok (bySp_ok Tryz.func24 (by kernel_rfl) (by kernel_rfl) (fun _ _ => rfl) fun _ _ _ _ _ hl hn => frb_can hl hn), SVb2ok⟩
noncomputable abbrev oVb3 : Orc := orc SVb3 KV
theorem oVb3ok : OrcOk Tryz.prog oVb3 := orc_ok SVb3ok KVok
end Go.Proofs.YtfmajnlfpnjagaaGreat
/- bls.secret: what it answers, and what it panics with. -/
namespace Go.Proofs.YtfmajnlfpnjagaaGreat
open Ex Num Rg
open Go.RowKit (Below)
open Sh (R av rd mo en mo_en)
set_option maxRecDepth 100000
set_option maxHeartbeats 4000000

def zN : Nat := Int.toNat 0 + 18446744073709551616 * (Int.toNat 0 + 18446744073709551616 * (Int.toNat 0 + 18446744073709551616 * (Int.toNat 0 + 18446744073709551616 * 0)))
theorem zN_eq : zN = 0 := by kernel_rfl
section
variable (n m : Nat) (xs : List Int)
noncomputable def scS (p : List Bool) : ASt := entry Tryz.f60 [slA 0 0 n m] (byH xs) 1 p
noncomputable def scC (r : List (Bool × Bool)) : List (Bool × Bool) := (Nat.ble (0 + n) xs.length, true) :: (hasB .i64 n, true) :: r
theorem sc_run : segOut Tryz.prog oVb3 Tryz.f60 300 1 [1] (scS n m xs [false, false]) = some (scC n xs [(!decide (frE n (natB (win xs 0 n)) = 0), false), (decide (frV n (natB (win xs 0 n)) = zN), false)], [], slA 1 0 4 4, [(1, some ⟨35, [.num 4 (frV n (natB (win xs 0 n)))], false⟩)]) := by kernel_rfl
noncomputable def sgSt (x : Option (List (Bool × Bool) × List Nat × ASt)) : ASt := match x with | some (_, _, y) => y | none => ⟨[], ⟨[], [], 0, []⟩⟩
noncomputable def scP (p : List Bool) : ASt := sgSt (aSegN Tryz.prog oVb3 8 1 (scS n m xs p))
theorem sc_p1 : aSegN Tryz.prog oVb3 8 1 (scS n m xs [true]) = some (scC n xs [(!decide (frE n (natB (win xs 0 n)) = 0), true)], [], scP n m xs [true]) := by kernel_rfl
theorem sc_p2 : aSegN Tryz.prog oVb3 8 1 (scS n m xs [false, true]) = some (scC n xs [(!decide (frE n (natB (win xs 0 n)) = 0), false), (decide (frV n (natB (win xs 0 n)) = zN), true)], [], scP n m xs [false, true]) := by kernel_rfl
noncomputable def scI : List Item := (scP 0 0 [] [true]).todo
theorem sc_t1 : (scP n m xs [true]).todo = .code (.region (headId scI) (headOps scI) false) :: rest1 scI := by kernel_rfl
theorem sc_t2 : (scP n m xs [false, true]).todo = .code (.region (headId scI) (headOps scI) false) :: rest1 scI := by kernel_rfl
end
noncomputable abbrev scO : Array Oper := headOps scI
theorem sc_raise {Q : Exit → Act → World → Prop} {a : Act} {w : World} (ht : 17 < a.tmps.size) (h : ∀ a', a'.defers = a.defers → Q (.panic [{ v := .iface 26 (.int .i64 210), recovered := false }]) a' w) : wpOps Tryz.prog scO Q [0, 1] a w :=
  raise_wp (k := .i64) (t := 17) (T := 26) (v := .int .i64 210) (o0 := scO.getD 0 default) (o1 := scO.getD 1 default) (by kernel_rfl) (by kernel_rfl) (by kernel_rfl) (by kernel_rfl) (by kernel_rfl) (by kernel_rfl) (by kernel_rfl) (by kernel_rfl) ht h
/-- Is the number of these bytes a secret key's? -/
noncomputable def skB (n N : Nat) : Bool := decide (frE n N = 0) && !decide (frV n N = zN)
theorem skB_iff {n N : Nat} : skB n N = true ↔ n = 32 ∧ N < rN ∧ N ≠ 0 := by
  unfold skB frE frV
  rw [zN_eq]
  by_cases h1 : n = 32
  · by_cases h2 : N < rN
    · by_cases h3 : N = 0 <;> simp [h1, h2, h3]
    · simp [h1, h2]
  · simp [h1]
theorem sc_can {n m : Nat} {xs : List Int} (hl : n ≤ xs.length) (hn : hasB .i64 n = true) (hk : skB n (natB (win xs 0 n)) = true) :
    CanOk Tryz.prog 60 [slA 0 0 n m] (byH xs) 1 [] (slA 1 0 4 4) [(1, some ⟨35, [.num 4 (frV n (natB (win xs 0 n)))], false⟩)] := by
  unfold skB at hk
  simp only [Bool.and_eq_true, Bool.not_eq_true', decide_eq_true_eq, decide_eq_false_iff_not] at hk
  exact can_run SVb3ok KVok Tryz.func60 (by kernel_rfl) (by kernel_rfl) (sc_run n m xs) (by kernel_rfl) ⟨Nat.ble_eq_true_of_le (by omega), hn, by rw [decide_eq_true hk.1]; rfl, decide_eq_false hk.2, trivial⟩
noncomputable def errC : List PanicEntry := [{ v := .iface 26 (.int .i64 210), recovered := false }]
theorem sc_pan {n m : Nat} {xs : List Int} (hl : n ≤ xs.length) (hn : hasB .i64 n = true) (hk : skB n (natB (win xs 0 n)) = false) : PanOk Tryz.prog 60 [slA 0 0 n m] (byH xs) 1 errC := by
  intro β us w ha hg hf
  have fin : ∀ (y : ASt), y.todo = .code (.region (headId scI) (headOps scI) false) :: rest1 scI → ASafe Tryz.prog 60 β w (fun e w' => e = .panicked errC ∧ Below w.heap.size w w') Tryz.f60.ntmps [] y := by
    intro y hy β' a w' hi _
    rw [hy]
    refine Safe.of_wpP Tryz.func60 (wp_region ?_)
    have hs : List.range (headOps scI).size = [0, 1] := by kernel_rfl
    rw [hs]
    refine sc_raise (by rw [hi.sz]; decide) fun a' ha' => .inr ⟨errC, rfl, ?_⟩
    rw [ha', hi.dfr]
    exact ⟨rfl, hi.os, hi.tape, hi.output, hi.size, fun k hk => hi.frame k hk fun _ _ h => by cases h⟩
  have hl' : Nat.ble (0 + n) xs.length = true := Nat.ble_eq_true_of_le (by omega)
  by_cases he : frE n (natB (win xs 0 n)) = 0
  · have hz : frV n (natB (win xs 0 n)) = zN := by
      unfold skB at hk
      rw [decide_eq_true he] at hk
      simpa using hk
    refine calls_of_entry (args := [slA 0 0 n m]) (H := byH xs) (k0 := 1) (path := [false, true]) Tryz.func60 (by kernel_rfl) (by kernel_rfl) ?_ ha hg hf
    exact segN_safe oVb3ok mixed (sc_p2 n m xs) ⟨hl', hn, by rw [decide_eq_true he]; rfl, decide_eq_true hz, trivial⟩ (wfB_ok (by kernel_rfl)) hf (fun _ h => by cases h) fun _ => fin _ (sc_t2 n m xs)
  · refine calls_of_entry (args := [slA 0 0 n m]) (H := byH xs) (k0 := 1) (path := [true]) Tryz.func60 (by kernel_rfl) (by kernel_rfl) ?_ ha hg hf
    exact segN_safe oVb3ok mixed (sc_p1 n m xs) ⟨hl', hn, by rw [decide_eq_false he]; rfl, trivial⟩ (wfB_ok (by kernel_rfl)) hf (fun _ h => by cases h) fun _ => fin _ (sc_t1 n m xs)
/- on offer, where it is one -/
noncomputable def secSp : ASpec := fun args H fr path => match args with
  | [S] => match asSm S with
    | some (k, n, m) => match hget H k with
      | some ⟨_, cs, _⟩ => match toSeq .u8 cs with
        | some xs => some (trR [k] 1 fr 1 [] (slA 1 0 4 4) [(1, some ⟨35, [.num 4 (frV n (natB (win xs 0 n)))], false⟩)] [(Nat.ble n xs.length, true), (Nat.ble n m, true), (hasB .i64 n, true), (skB n (natB (win xs 0 n)), true)] path)
        | none => none
      | _ => none
    | none => none
  | _ => none
theorem secSp_ok : SpecOk Tryz.prog 60 secSp := by
  refine can_spec2 Tryz.func60 (by kernel_rfl) (by kernel_rfl) fun args H fr path r hs => ?_
  unfold secSp at hs
  split at hs
  case h_2 => cases hs
  rename_i S
  split at hs
  case h_2 => cases hs
  rename_i k n m hS
  split at hs
  case h_2 => cases hs
  rename_i ty cs o hk'
  split at hs
  case h_2 => cases hs
  rename_i xs hxs
  injection hs with hs
  refine ⟨[k], 1, 1, [], _, _, _, path, hs.symm, fun β us w ha hg hc => ?_⟩
  obtain ⟨u1, us1, r1, ha, rfl⟩ := ha
  obtain ⟨hl, hm, hn, hb, _⟩ := hc
  obtain ⟨m', _, r1⟩ := asSm_rel hS (Nat.le_of_ble_eq_true hm) r1
  obtain ⟨g1, g2, g3⟩ := good_by hg hk' hxs
  exact ⟨[slA 0 0 n m'], byH xs, sc_can (Nat.le_of_ble_eq_true hl) hn hb, by kernel_rfl, ⟨u1, _, sl_in (by omega) rfl r1, ha, rfl⟩, g2, g3⟩
noncomputable def SVc : List (FuncId × ASpec) := (60, secSp) :: SVb3
theorem SVcok : SpecsOk Tryz.prog SVc := ⟨secSp_ok, SVb3ok⟩
noncomputable abbrev oVc : Orc := orc SVc KV
theorem oVcok : OrcOk Tryz.prog oVc := orc_ok SVcok KVok
end Go.Proofs.YtfmajnlfpnjagaaGreat
/- bls.SkToPk: the contract. -/
namespace Go.Proofs.YtfmajnlfpnjagaaGreat
open Ex Num Rg
open Go.RowKit (Below)
open Sh (R av rd mo en mo_en)
set_option maxRecDepth 100000
set_option maxHeartbeats 4000000

theorem cell_of {w : World} {B : Nat} {v : Value} {ty : TypeId} (h : w.heap[B]? = some (.cells #[v] ty (0, 0))) : w.cell? ⟨B, 0, none⟩ = some v ∧ w.frozen? ⟨B, 0, none⟩ = false := by
  constructor
  · simp [World.cell?, h]
  · simp [World.frozen?, h]
theorem set_other {w : World} {a : Addr} {v : Value} {B : Nat} (h : B ≠ a.block) : (w.setCell a v).heap[B]? = w.heap[B]? := by
  simp only [World.setCell, Array.getElem?_modify]
  rw [if_neg (fun e => h e.symm)]
theorem set_rest (w : World) (a : Addr) (v : Value) : (w.setCell a v).heap.size = w.heap.size ∧ (w.setCell a v).os = w.os ∧ (w.setCell a v).tape = w.tape ∧ (w.setCell a v).output = w.output := by
  refine ⟨?_, rfl, rfl, rfl⟩
  simp [World.setCell]
theorem set_same {w : World} {B : Nat} {u v : Value} {ty : TypeId} (h : w.heap[B]? = some (.cells #[u] ty (0, 0))) : (w.setCell ⟨B, 0, none⟩ v).heap[B]? = some (.cells #[v] ty (0, 0)) := by
  simp [World.setCell, Array.getElem?_modify, h]
noncomputable def errU : Value := .tuple #[.slice none 0 0, .int .i64 210]
/-- The deferred closure, where a panic comes through the door. -/
theorem catch_leaves {F : FuncId} {fnF : Func} (hF : Tryz.prog.funcs[F]? = some fnF) (hb : fnF.body.isSome = true) (hname : (fnF.name == "runtime.NumGoroutine") = false)
    (hcatch : ∀ (p q : Addr) (x y : Value) (w : World), w.cell? p = some x → w.frozen? p = false → w.cell? q = some y → w.frozen? q = false → p.block ≠ q.block →
      CallsD Tryz.prog F #[.pointer (some p), .pointer (some q)] (.panicking [{ v := .iface 26 (.int .i64 210), recovered := false }]) w fun e u' w' =>
        e = .returned (.tuple #[]) ∧ u' = .panicking [{ v := .iface 26 (.int .i64 210), recovered := true }] ∧ w' = (w.setCell p (.slice none 0 0)).setCell q (.int .i64 210))
    {fn : Func} {t1 t2 : Tmp} {tmps : Array Value} {B1 B2 : Nat} {ty1 ty2 : TypeId} {R : Ending → World → Prop} {w : World} (hres : fn.results = #[.cell t1 23, .cell t2 26])
    (ht1 : tmps.getD t1 undef = .pointer (some ⟨B1, 0, none⟩)) (ht2 : tmps.getD t2 undef = .pointer (some ⟨B2, 0, none⟩)) (c1 : w.heap[B1]? = some (.cells #[.slice none 0 0] ty1 (0, 0))) (c2 : w.heap[B2]? = some (.cells #[.int .i64 0] ty2 (0, 0))) (hne : B1 ≠ B2)
    (hR : ∀ w', (∀ B, B ≠ B1 → B ≠ B2 → w'.heap[B]? = w.heap[B]?) → w'.heap.size = w.heap.size → w'.os = w.os → w'.tape = w.tape → w'.output = w.output → R (.returned errU) w') :
    Leaves Tryz.prog fn tmps R [{ target := .fn (.func F) #[.pointer (some ⟨B1, 0, none⟩), .pointer (some ⟨B2, 0, none⟩)], args := #[] }] (.panicking errC) w := by
  obtain ⟨a1, f1⟩ := cell_of c1
  obtain ⟨a2, f2⟩ := cell_of c2
  have h1 : fnF.name ≠ "runtime.NumGoroutine" := by simpa using hname
  have h2 : ¬ fnF.body = none := by cases hq : fnF.body <;> simp [hq] at hb ⊢
  refine leaves_cons (f := F) (args := #[.pointer (some ⟨B1, 0, none⟩), .pointer (some ⟨B2, 0, none⟩)]) (by simp) (by simp [invoke, callFunc, hF, h1, h2]) ?_
  refine (hcatch ⟨B1, 0, none⟩ ⟨B2, 0, none⟩ _ _ w a1 f1 a2 f2 hne).mono ?_
  rintro e u' w' ⟨rfl, rfl, rfl⟩
  have c2' : (w.setCell ⟨B1, 0, none⟩ (.slice none 0 0)).heap[B2]? = some (.cells #[.int .i64 0] ty2 (0, 0)) := (set_other fun e => hne e.symm).trans c2
  have e2 := (cell_of (set_same (v := .int .i64 210) c2')).1
  have e1 := (cell_of ((set_other (a := ⟨B2, 0, none⟩) (v := .int .i64 210) hne).trans (set_same (v := .slice none 0 0) c1))).1
  obtain ⟨q1, q2, q3, q4⟩ := set_rest (w.setCell ⟨B1, 0, none⟩ (.slice none 0 0)) ⟨B2, 0, none⟩ (.int .i64 210)
  obtain ⟨r1, r2, r3, r4⟩ := set_rest w ⟨B1, 0, none⟩ (.slice none 0 0)
  refine ⟨errU, ?_, hR _ (fun B n1 n2 => by rw [set_other n2, set_other n1]) (q1.trans r1) (q2.trans r2) (q3.trans r3) (q4.trans r4)⟩
  rw [Array.getD_eq_getD_getElem?] at ht1 ht2
  simp [results, hres, ht1, ht2, go_sem, e1, e2, errU]
section
variable (n m : Nat) (xs : List Int) (p : List Bool)
noncomputable abbrev skF : Func := Tryz.f19
noncomputable def skA : ASt := entry skF [slA 0 0 n m] (byH xs) 1 p
noncomputable def skS : ASt := sgSt (aSegN Tryz.prog oVc 3 1 (skA n m xs p))
noncomputable def skI : List Item := (skS 0 0 [] []).todo
noncomputable abbrev skO : Array Oper := headOps skI
noncomputable def rnS (x : Option (List Rec × St)) : St := match x with | some (_, s) => s | none => ⟨[], [], 0, []⟩
noncomputable def rnR (x : Option (List Rec × St)) : List Rec := match x with | some (r, _) => r | none => []
noncomputable def skX : Option (List Rec × St) := runOps Tryz.prog oVc skO [skO.getD 0 default] 0 (skS n m xs p).s
theorem sk_seg : aSegN Tryz.prog oVc 3 1 (skA n m xs p) = some ([], [], skS n m xs p) := by kernel_rfl
theorem sk_todo : (skS n m xs p).todo = .code (.region (headId skI) skO false) :: rest1 skI := by kernel_rfl
theorem sk_x : skX n m xs p = some (rnR (skX n m xs p), rnS (skX n m xs p)) := by kernel_rfl
theorem sk_xc : recConds (rnR (skX n m xs p)) = [] := by kernel_rfl
theorem sk_xk : recKeys (rnR (skX n m xs p)) = [] := by kernel_rfl
theorem sk_clo : tget (rnS (skX n m xs p)).T 6 = .val false [.clo 57 [(1, 0), (2, 0)]] := by kernel_rfl
theorem sk_fr : (rnS (skX n m xs p)).fr = 3 := by kernel_rfl
noncomputable def skY : ASt := ⟨rest1 skI, rnS (skX n m xs p)⟩
end
/-- The first two regions: the results' cells, and the closure that is deferred. -/
theorem sk_open {n m : Nat} {xs : List Int} (p : List Bool) {β : Env} {us : List Value} {w : World} {R : Ending → World → Prop} (ha : relAs β [slA 0 0 n m] us) (hg : Ex.Good β (byH xs) w) (hf : ∀ b, 1 ≤ b → β b = none)
    (h : ∀ (β' : Env) (a : Act) (w' : World) (A B : Nat) (m1 m2 : Nat × Nat), β' 1 = some (.at_ A m1) → β' 2 = some (.at_ B m2) → (∀ b, 3 ≤ b → β' b = none) →
      Inv β w [] ⟨skF.ntmps, [{ target := .fn (.func 57) #[.pointer (some ⟨A, m1.2 + 0, none⟩), .pointer (some ⟨B, m2.2 + 0, none⟩)], args := #[] }]⟩ β' (tget (skY n m xs p).s.T) (skY n m xs p).s.H a w' →
      Ex.Safe Tryz.prog 19 R (skY n m xs p).todo a w') : Calls Tryz.prog 19 ⟨us⟩ w R := by
  refine calls_of_entry (args := [slA 0 0 n m]) (H := byH xs) (k0 := 1) (path := p) Tryz.func19 (by kernel_rfl) (by kernel_rfl) ?_ ha hg hf
  refine segN_safe oVcok mixed (sk_seg n m xs p) trivial (wfB_ok (by kernel_rfl)) hf (fun _ h => by cases h) fun hw => ?_
  intro β' a w' hi hf'
  rw [sk_todo]
  refine Ex.Safe.of_wp (wp_region ?_)
  have hs : List.range skO.size = List.range' 0 [skO.getD 0 default].length ++ [1] := by kernel_rfl
  rw [hs]
  refine seq_pre oVcok (W := []) _ 0 _ _ _ β' a w' (fun j o hj => ?_) (sk_x n m xs p) (by rw [sk_xc]; trivial) hi hf' hw.1 hw.2 (by rw [sk_xk]; intro k hk; cases hk) ?_
  · cases j with
    | zero => injection hj with hj; subst hj; kernel_rfl
    | succ j => simp at hj
  · intro β2 a2 w2 hi2 hf2
    have hc := hi2.tmp 6
    rw [sk_clo] at hc
    obtain ⟨ps, hp, hu⟩ := rel_one hc
    obtain ⟨A, m1, B, m2, e1, e2, rfl⟩ := relP_two hp
    injection hu with hu _
    refine defer_wp (o := skO.getD 1 default) (c := match (skO.getD 1 default).op with | .defer c => c | _ => ⟨.builtin .len, #[], #[]⟩) (t := 6) (by kernel_rfl) (by kernel_rfl) (by kernel_rfl) (by kernel_rfl) (by kernel_rfl) (by kernel_rfl) hu ⟨rfl, ?_⟩
    exact h β2 _ w2 A B m1 m2 e1 e2 (fun b hb => hf2 b (by rw [sk_fr]; exact hb)) hi2.push
theorem cell_at1 {β : Env} {H : Heap} {w : World} {k ty A : Nat} {m : Nat × Nat} {c : Ch} {v : Value} (hg : Ex.Good β H w) (hk : hget H k = some ⟨ty, [c], false⟩) (hr : Nat.beq ty roTy = false) (hA : β k = some (.at_ A m)) (hc : ∀ l, relC β c l → l = [v]) : w.heap[A]? = some (.cells #[v] ty (0, 0)) ∧ m.2 = 0 := by
  rcases relB_rw (hg.heap k _ hk) (nbeq_ro hr) with ⟨B, n, l, t, e1, e2, e3, e4, _⟩ | ⟨e1, _⟩
  · rw [hA] at e1
    injection e1 with e1; injection e1 with e1 e5
    subst e1; subst e5
    obtain ⟨l1, l2, q1, q2, q3⟩ := e2
    simp only [relL] at q2
    rw [e4 rfl, q3, q2, hc _ q1] at e3
    exact ⟨e3, rfl⟩
  · rw [hA] at e1; cases e1
section
variable (n m : Nat) (xs : List Int) (p : List Bool)
noncomputable def skZ : ASt := sgSt (aSegN Tryz.prog oVc 1 1 (skY n m xs p))
noncomputable def skJ : List Item := (skZ 0 0 [] []).todo
noncomputable def skW : Option (List Rec × St) := runOps Tryz.prog oVc (headOps skJ) [(headOps skJ).getD 0 default] 0 (skZ n m xs p).s
theorem sk_seg2 : aSegN Tryz.prog oVc 1 3 (skY n m xs p) = some ([], [], skZ n m xs p) := by kernel_rfl
theorem sk_todo2 : (skZ n m xs p).todo = .code (.region (headId skJ) (headOps skJ) false) :: rest1 skJ := by kernel_rfl
theorem sk_w : skW n m xs p = some (rnR (skW n m xs p), rnS (skW n m xs p)) := by kernel_rfl
theorem sk_wc : recConds (rnR (skW n m xs p)) = [] := by kernel_rfl
theorem sk_wk : recKeys (rnR (skW n m xs p)) = [] := by kernel_rfl
theorem sk_w8 : tget (rnS (skW n m xs p)).T 8 = slA 0 0 n m := by kernel_rfl
theorem sk_w2 : tget (rnS (skW n m xs p)).T 2 = .val false [.p 1 0] := by kernel_rfl
theorem sk_w3 : tget (rnS (skW n m xs p)).T 3 = .val false [.p 2 0] := by kernel_rfl
theorem sk_wH0 : hget (rnS (skW n m xs p)).H 0 = some (roB [.seq .u8 xs]) := by kernel_rfl
theorem sk_wH1 : hget (rnS (skW n m xs p)).H 1 = some ⟨23, [.v (.slice none 0 0)], false⟩ := by kernel_rfl
theorem sk_wH2 : hget (rnS (skW n m xs p)).H 2 = some ⟨26, [.n .i64 0], false⟩ := by kernel_rfl
end
theorem seq_seq (xs : List Int) : toSeq .u8 [.seq .u8 xs] = some xs := by kernel_rfl
theorem ptr_at {β : Env} {T : AV} {u : Value} {k A : Nat} {m : Nat × Nat} (hT : T = .val false [.p k 0]) (h : relA β T u) (hA : β k = some (.at_ A m)) : u = .pointer (some ⟨A, m.2 + 0, none⟩) := by
  subst hT
  obtain ⟨B, n, h1, h2⟩ := rel_one h
  rw [hA] at h1
  injection h1 with h1; injection h1 with h1 h3
  subst h1; subst h3
  injection h2
theorem below_get {w w' : World} (h : Below w.heap.size w w') {B : Nat} {o : Obj} (hB : w.heap[B]? = some o) : w'.heap[B]? = some o := by
  rw [h.block B (Array.getElem?_eq_some_iff.1 hB).1]; exact hB
theorem err_out {β : Env} {H : Heap} {w w' : World} (hg : Ex.Good β H w) (hs : w.heap.size ≤ w'.heap.size) (hf : ∀ B, B < w.heap.size → w'.heap[B]? = w.heap[B]?) (ho : w'.os = w.os) (ht : w'.tape = w.tape) (hp : w'.output = w.output) : Outs β w [] (errV 210) [] (.returned errU) w' :=
  ⟨errU, β, rfl, {
    val := ⟨_, ⟨_, _, rel_one' ⟨rfl, rfl, trivial⟩, ⟨_, _, rel_one' ⟨rfl, (has_iff _ _).2 (by decide)⟩, rfl, rfl⟩, rfl⟩, rfl⟩
    good := ⟨(fun _ _ h => by cases h), (fun _ _ _ _ _ h => by cases h), (fun b B n h => Nat.lt_of_lt_of_le (hg.lt b B n h) hs)⟩
    new := fun _ _ h => .inl h
    ext := Env.le_refl β
    frame := fun B hB _ => hf B hB
    size := hs
    os := ho
    tape := ht
    output := hp }⟩
/-- Where the bytes are no secret key: nothing but the error. -/
theorem sk_err {n m : Nat} {xs : List Int} (hl : n ≤ xs.length) (hn : hasB .i64 n = true) (hk : skB n (natB (win xs 0 n)) = false) :
    CanOk Tryz.prog 19 [slA 0 0 n m] (byH xs) 1 [] (errV 210) [] := by
  intro β us w ha hg hf
  refine sk_open [] ha hg hf fun β' a w' A B m1 m2 hA hB hf' hi => ?_
  refine segN_safe (β0 := β') (w0 := w') (W := []) oVcok mixed (sk_seg2 n m xs []) trivial (wfB_ok (by kernel_rfl)) hf' (fun _ h => by cases h) (fun hw => ?_) β' a w' hi.root (fun b hb => hf' b (by rw [show (skY n m xs []).s.fr = 3 from sk_fr n m xs []] at hb; exact hb))
  intro β1 a1 w1 hi1 hf1
  rw [sk_todo2]
  refine Ex.Safe.of_wpP Tryz.func19 (wp_region ?_)
  have hs : List.range (headOps skJ).size = List.range' 0 [(headOps skJ).getD 0 default].length ++ (1 :: List.range' 2 ((headOps skJ).size - 2)) := by kernel_rfl
  rw [hs]
  refine seq_pre oVcok (W := []) _ 0 _ _ _ β1 a1 w1 (fun j o hj => ?_) (sk_w n m xs []) (by rw [sk_wc]; trivial) hi1 hf1 hw.1 hw.2 (by rw [sk_wk]; intro k hk; cases hk) ?_
  · cases j with
    | zero => injection hj with hj; subst hj; kernel_rfl
    | succ j => simp at hj
  intro β2 a2 w2 hi2 _
  have r8 := hi2.tmp 8
  rw [sk_w8] at r8
  obtain ⟨_, g2, _⟩ := good_by hi2.good (sk_wH0 n m xs []) (seq_seq xs)
  have hpan := sc_pan hl hn hk (inEnv β2 [0] 1) [a2.tmps.getD 8 undef] w2 ⟨_, [], sl_in (by omega) rfl r8, rfl, rfl⟩ g2 (fun b hb => by
    have : Nat.blt b 1 = false := by cases h : Nat.blt b 1 with | false => rfl | true => have := nblt.1 h; omega
    simp [inEnv, this])
  refine pan_wp (o := (headOps skJ).getD 1 default) (c := match ((headOps skJ).getD 1 default).op with | .call c => c | _ => ⟨.builtin .len, #[], #[]⟩) (g := 60) (chain := errC) (by kernel_rfl) (by kernel_rfl) (by kernel_rfl) (by kernel_rfl) Tryz.func60 (by kernel_rfl) (by kernel_rfl) ?_
  have hargs : (match ((headOps skJ).getD 1 default).op with | .call c => c | _ => ⟨.builtin .len, #[], #[]⟩).args = #[.tmp 8] := by kernel_rfl
  rw [hargs, show Array.map a2.eval #[Operand.tmp 8] = #[a2.eval (.tmp 8)] from by simp]
  refine Calls.mono (R := fun e w' => e = .panicked errC ∧ Below w2.heap.size w2 w') hpan ?_
  rintro e w3 ⟨rfl, hbl⟩
  refine ⟨rfl, .inr ⟨errC, rfl, ?_⟩⟩
  have hA2 := hi2.ext 1 _ hA
  have hB2 := hi2.ext 2 _ hB
  obtain ⟨c1, z1⟩ := cell_at1 (v := .slice none 0 0) hi2.good (sk_wH1 n m xs []) (by kernel_rfl) hA2 fun l h => h.1
  obtain ⟨c2, z2⟩ := cell_at1 (v := .int .i64 0) hi2.good (sk_wH2 n m xs []) (by kernel_rfl) hB2 fun l h => h.1
  have hne : A ≠ B := fun e => by
    subst e
    have := hi2.good.inj 1 2 A m1 m2 (by rw [rwK_mk (sk_wH1 n m xs []) (nbeq_ro (by kernel_rfl))]) (by rw [sk_wH2]; rfl) hA2 hB2
    cases this
  have big : ∀ {k C : Nat} {q : Nat × Nat}, 1 ≤ k → β' k = some (.at_ C q) → w.heap.size ≤ C := by
    intro k C q hk0 hC
    rcases hi.new k _ hC with h | h
    · rw [hf k hk0] at h; cases h
    · rcases h C q rfl with h | ⟨j, _, hj, _⟩
      · exact h
      · cases hj
  have bA := big (by omega) hA
  have bB := big (by omega) hB
  have t1 := ptr_at (sk_w2 n m xs []) (hi2.tmp 2) hA2
  have t2 := ptr_at (sk_w3 n m xs []) (hi2.tmp 3) hB2
  rw [z1] at t1
  rw [z2] at t2
  rw [hi2.dfr, z1, z2]
  refine catch_leaves Tryz.func57 (by kernel_rfl) (by kernel_rfl) (fun p q x y w a b c d e => catch_a p q x y w a b c d e) (t1 := 2) (t2 := 3) (by kernel_rfl) t1 t2 (below_get hbl c1) (below_get hbl c2) hne fun w4 k1 k2 k3 k4 k5 => ?_
  refine err_out hg ?_ (fun C hC => ?_) ?_ ?_ ?_
  · rw [k2]; exact Nat.le_trans hi.size (Nat.le_trans hi2.size hbl.size)
  · rw [k1 C (by omega) (by omega), hbl.block C (Nat.lt_of_lt_of_le hC (Nat.le_trans hi.size hi2.size)), hi2.frame C (Nat.lt_of_lt_of_le hC hi.size) (fun _ _ h => by cases h), hi.frame C hC (fun _ _ h => by cases h)]
  · rw [k3, hbl.os, hi2.os, hi.os]
  · rw [k4, hbl.tape, hi2.tape, hi.tape]
  · rw [k5, hbl.output, hi2.output, hi.output]
/- where they are one -/
noncomputable def skQ (N : Nat) : Pt FP := mulP (natL (win (ws4 N) 0 4)) (toPt (ptX G1B) (ptY G1B) (ptI G1B))
theorem skQ_eq {N : Nat} (h : N < R4) : skQ N = smul N G1B := by
  unfold skQ mulP
  rw [toPt_of, if_pos onG1, natL_ws4 h]
def pkV : AV := .tup [(false, [.sl 12 0 48 48]), (false, [.n .i64 0])]
def pkH (l : List Int) : Heap := [(12, some ⟨5, [.seq .u8 l], true⟩)]
theorem sk_run (n m : Nat) (xs : List Int) : segOut Tryz.prog oVc skF 400 1 [12] (skY n m xs [false, true, true, true, true, true, true, true, true, true]) =
  some ((Nat.ble n xs.length, true) :: (Nat.ble n m, true) :: (hasB .i64 n, true) :: (skB n (natB (win xs 0 n)), true) :: tt 2 [(in1 (toPt (ptX (skQ (frV n (natB (win xs 0 n))))) (ptY (skQ (frV n (natB (win xs 0 n))))) (ptI (skQ (frV n (natB (win xs 0 n)))))), true)], [], pkV,
    pkH (e1L true (toPt (ptX (skQ (frV n (natB (win xs 0 n))))) (ptY (skQ (frV n (natB (win xs 0 n))))) (ptI (skQ (frV n (natB (win xs 0 n)))))))) := by kernel_rfl
theorem in1_smul (N : Nat) : in1 (smul N G1B) = true := by
  have h1 := (onP_iff G1B).1 onG1
  unfold in1
  rw [(onP_iff _).2 (on_smul C1 h1 N), ← smul_mul C1 h1, Nat.mul_comm, smul_mul C1 h1, rG1, smul_inf]
  rfl
theorem sk_can {n m : Nat} {xs : List Int} (hl : n ≤ xs.length) (hm : n ≤ m) (hn : hasB .i64 n = true) (hk : skB n (natB (win xs 0 n)) = true) :
    CanOk Tryz.prog 19 [slA 0 0 n m] (byH xs) 1 [] pkV (pkH (e1L true (smul (natB (win xs 0 n)) G1B))) := by
  obtain ⟨k1, k2, _⟩ := skB_iff.1 hk
  have hV : frV n (natB (win xs 0 n)) = natB (win xs 0 n) := if_pos ⟨k1, k2⟩
  have hrun := sk_run n m xs
  rw [hV, toPt_of, skQ_eq (Nat.lt_trans k2 rN_lt)] at hrun
  intro β us w ha hg hf
  refine sk_open [false, true, true, true, true, true, true, true, true, true] ha hg hf fun β' a w' A B m1 m2 _ _ hf' hi => ?_
  exact out_idle oVcok mixed Tryz.func19 hrun ⟨Nat.ble_eq_true_of_le hl, Nat.ble_eq_true_of_le hm, hn, hk, tt_ok 2 ⟨in1_smul _, trivial⟩⟩ (wfB_ok (by kernel_rfl)) hf (fun _ h => by cases h) rfl Tryz.func57 (by kernel_rfl) (by kernel_rfl)
    (fun w => idle_a _ _ w) (fun _ _ h => h) β' a w' hi (fun b hb => hf' b (by rw [show (skY n m xs _).s.fr = 3 from sk_fr n m xs _] at hb; exact hb))
end Go.Proofs.YtfmajnlfpnjagaaGreat
/- bls: SkToPk on offer; awake of sigillaw21. -/
namespace Go.Proofs.YtfmajnlfpnjagaaGreat
open Ex Num Rg
open Go.RowKit (Below)
open Sh (R av rd mo en mo_en)
set_option maxRecDepth 100000
set_option maxHeartbeats 4000000

/-- The path tells whether the bytes are no secret key. -/
noncomputable def skSp : ASpec := fun args H fr path => match args, path with
  | [S], b :: rest => match asSm S with
    | some (k, n, m) => match hget H k with
      | some ⟨_, cs, _⟩ => match toSeq .u8 cs with
        | some xs => match b with
          | true => some (trR [k] 1 fr 0 [] (errV 210) [] [(Nat.ble n xs.length, true), (Nat.ble n m, true), (hasB .i64 n, true), (skB n (natB (win xs 0 n)), false)] rest)
          | false => some (trR [k] 1 fr 12 [] pkV (pkH (e1L true (smul (natB (win xs 0 n)) G1B))) [(Nat.ble n xs.length, true), (Nat.ble n m, true), (hasB .i64 n, true), (skB n (natB (win xs 0 n)), true)] rest)
        | none => none
      | _ => none
    | none => none
  | _, _ => none
theorem skSp_ok : SpecOk Tryz.prog 19 skSp := by
  refine can_spec2 Tryz.func19 (by kernel_rfl) (by kernel_rfl) fun args H fr path r hs => ?_
  unfold skSp at hs
  split at hs
  case h_2 => cases hs
  rename_i S b rest
  split at hs
  case h_2 => cases hs
  rename_i k n m hS
  split at hs
  case h_2 => cases hs
  rename_i ty cs o hk'
  split at hs
  case h_2 => cases hs
  rename_i xs hxs
  split at hs
  · injection hs with hs
    refine ⟨[k], 1, 0, [], _, _, _, rest, hs.symm, fun β us w ha hg hc => ?_⟩
    obtain ⟨u1, us1, r1, ha, rfl⟩ := ha
    obtain ⟨hl, hm, hn, hb, _⟩ := hc
    obtain ⟨m', _, r1⟩ := asSm_rel hS (Nat.le_of_ble_eq_true hm) r1
    obtain ⟨g1, g2, g3⟩ := good_by hg hk' hxs
    exact ⟨[slA 0 0 n m'], byH xs, sk_err (Nat.le_of_ble_eq_true hl) hn hb, by kernel_rfl, ⟨u1, _, sl_in (by omega) rfl r1, ha, rfl⟩, g2, g3⟩
  · injection hs with hs
    refine ⟨[k], 1, 12, [], _, _, _, rest, hs.symm, fun β us w ha hg hc => ?_⟩
    obtain ⟨u1, us1, r1, ha, rfl⟩ := ha
    obtain ⟨hl, hm, hn, hb, _⟩ := hc
    obtain ⟨m', hm', r1⟩ := asSm_rel hS (Nat.le_of_ble_eq_true hm) r1
    obtain ⟨g1, g2, g3⟩ := good_by hg hk' hxs
    exact ⟨[slA 0 0 n m'], byH xs, sk_can (Nat.le_of_ble_eq_true hl) hm' hn hb, by kernel_rfl, ⟨u1, _, sl_in (by omega) rfl r1, ha, rfl⟩, g2, g3⟩
noncomputable def SVe : List (FuncId × ASpec) := (19, skSp) :: (21, nilSpec smSp) :: (71, nilSpec (dcSp fun s L => gmV (dec1 s L))) :: SVc
theorem SVeok : SpecsOk Tryz.prog SVe := ⟨skSp_ok, nilSpec_ok smSp_ok, nilSpec_ok (dcSp_ok Tryz.func71 (by kernel_rfl) (by kernel_rfl) (fun _ _ => by kernel_rfl) fun _ _ _ s hl hm hn => dec1_can hl hm hn s), SVcok⟩
noncomputable abbrev oVe : Orc := orc SVe KV
theorem oVeok : OrcOk Tryz.prog oVe := orc_ok SVeok KVok
noncomputable def SVf : List (FuncId × ASpec) := (25, inlSpec Tryz.prog oVe Tryz.f25 300) :: (17, inlSpec Tryz.prog oVe Tryz.f17 300) :: (22, inlSpec Tryz.prog oVe Tryz.f22 600) :: (45, inlSpec Tryz.prog oVe Tryz.f45 300) :: SVe
theorem SVfok : SpecsOk Tryz.prog SVf := ⟨inl_ok oVeok mixed Tryz.func25 (by kernel_rfl) (by kernel_rfl) 300, inl_ok oVeok mixed Tryz.func17 (by kernel_rfl) (by kernel_rfl) 300, inl_ok oVeok mixed Tryz.func22 (by kernel_rfl) (by kernel_rfl) 600, inl_ok oVeok mixed Tryz.func45 (by kernel_rfl) (by kernel_rfl) 300, SVeok⟩
noncomputable abbrev oVf : Orc := orc SVf KV
theorem oVfok : OrcOk Tryz.prog oVf := orc_ok SVfok KVok
end Go.Proofs.YtfmajnlfpnjagaaGreat
/- sigillaw21: awake, BlsNames. -/
namespace Go.Proofs.YtfmajnlfpnjagaaGreat
open Ex Num Rg
open Sh (R av rd mo en mo_en)
set_option maxRecDepth 100000
set_option maxHeartbeats 4000000

def oneB : List Int := List.take (Int.toNat 31) (List.drop 0 (List.replicate (Int.toNat 31) 0)) ++ [1]
def oneN : Nat := natB (win oneB 0 (Int.toNat 31 + 1))
def zerN : Nat := natB (win (List.replicate (Int.toNat 32) 0) 0 (Int.toNat 32))
theorem oneN_eq : oneN = 1 := by kernel_rfl
theorem zerN_eq : zerN = 0 := by kernel_rfl
noncomputable def aw21C : List (Bool × Bool) := tt 7 ((skB (Int.toNat 32) zerN, false) :: tt 9 ((skB (Int.toNat 31 + 1) oneN, true) :: (in1 (toPt (ptX G1B) (ptY G1B) (ptI G1B)), true) :: (Nat.ble (0 + 48) (e1L true (smul oneN G1B)).length, true) :: (Nat.ble (0 + 48) (e1L true (toPt (ptX G1B) (ptY G1B) (ptI G1B))).length, true) ::
  tt 2 ((smB (win (e1L true (smul oneN G1B)) 0 48) (win (e1L true (toPt (ptX G1B) (ptY G1B) (ptI G1B))) 0 48), true) :: tt 2 ((Nat.ble 48 (e1L true (smul oneN G1B)).length, true) :: tt 2 ((decide ((dec1 true (win (e1L true (smul oneN G1B)) 0 48)).2 = 0), true) :: (!ptI (dec1 true (win (e1L true (smul oneN G1B)) 0 48)).1, true) :: tt 3 [(false, false)])))))
theorem aw21_run : pureRun Tryz.prog oVf Tryz.f15 [] [true, true, true, false, false, true, true, true, true, false] 1000 = some (aw21C, .val false [.b true]) := by kernel_rfl
theorem ecL_l (s i b : Bool) (B : List Int) : (ecL s i b B).length = B.length := by
  cases B with
  | nil => cases s <;> cases i <;> cases b <;> rfl
  | cons f t => rw [ecL_cons]; rfl
theorem e1L_l (s : Bool) (p : Pt FP) : (e1L s p).length = 96 := by rw [e1L_ec, ecL_l, b1_cat, cat_length]; rfl
theorem skB_zero : skB (Int.toNat 32) zerN = false := by
  cases h : skB (Int.toNat 32) zerN with
  | false => rfl
  | true => exact absurd zerN_eq (skB_iff.1 h).2.2
theorem rN_gt1 : 1 < rN := by rw [rN_eq]; exact nblt.1 (by kernel_rfl)
theorem skB_one : skB (Int.toNat 31 + 1) oneN = true := skB_iff.2 ⟨rfl, by rw [oneN_eq]; exact rN_gt1, by rw [oneN_eq]; decide⟩
theorem smB_rfl (l : List Int) : smB l l = true := decide_eq_true rfl
theorem aw21_ok : PureOk Tryz.prog 15 [] (.val false [.b true]) := by
  have r := aw21_run
  have e1 : smul oneN G1B = G1B := by rw [oneN_eq]; rfl
  have hd : dec1 true (win (e1L true G1B) 0 48) = (G1B, 0) := dec_enc1 in1_G true
  unfold aw21C at r
  rw [toPt_of, e1, hd] at r
  have hb : Nat.ble 48 (e1L true G1B).length = true := by rw [e1L_l]; rfl
  have hb' : Nat.ble (0 + 48) (e1L true G1B).length = true := by rw [e1L_l]; rfl
  exact pure_ok oVfok mixed Tryz.func15 r (tt_ok 7 ⟨skB_zero, tt_ok 9 ⟨skB_one, in1_G, hb', hb', tt_ok 2 ⟨smB_rfl _, tt_ok 2 ⟨hb, tt_ok 2 ⟨decide_eq_true rfl, rfl, tt_ok 3 ⟨rfl, trivial⟩⟩⟩⟩⟩⟩) rfl
noncomputable def SVw : List (FuncId × ASpec) := (15, pureSpec yes12) :: SVf
theorem SVwok : SpecsOk Tryz.prog SVw := ⟨pureSpec_ok Tryz.func15 (by kernel_rfl) (by kernel_rfl) (sp0_ok aw21_ok fun u h => h), SVfok⟩
noncomputable abbrev oVw : Orc := orc SVw KV
theorem oVwok : OrcOk Tryz.prog oVw := orc_ok SVwok KVok
theorem bNames_run : pureRun Tryz.prog oVw Tryz.f3 [] [] 300 = some ([], .val false [.b true]) := by kernel_rfl
theorem blsNames_walk : LawWalk Tryz.prog 3 Tryz.f3 := fps_walk (n := 0) (by kernel_rfl) fun xs h _ => by
  obtain rfl := List.length_eq_zero_iff.1 h
  exact pure_ok oVwok mixed Tryz.func3 bNames_run trivial rfl
end Go.Proofs.YtfmajnlfpnjagaaGreat
