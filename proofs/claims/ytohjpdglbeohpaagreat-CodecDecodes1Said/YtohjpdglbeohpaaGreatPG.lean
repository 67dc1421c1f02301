/- Part 7 of the proof: Qg. -/
import Derived.Test.YtohjpdglbeohpaaGreatPF
/- sigilref20: Decode1, Decode2: the contracts. -/
namespace Go.Proofs.YtohjpdglbeohpaaGreat
open Ex Num Rg
open Sh (R av rd mo en mo_en)
set_option maxRecDepth 100000
set_option maxHeartbeats 4000000

noncomputable def sqA1 (x : Nat) : Bool := isSqN (ad FP (mu FP (mu FP x x) x) (4 : Nat))
noncomputable def sqA2 (x : R FP2) : Bool := is2 (mo (ad FP2 (mu FP2 (mu FP2 x x) x) ((4 : Nat), (4 : Nat))))
def z12v (b : Bool) : List Ch := [.n .u64 0, .n .u64 0, .n .u64 0, .n .u64 0, .n .u64 0, .n .u64 0, .n .u64 0, .n .u64 0, .n .u64 0, .n .u64 0, .n .u64 0, .n .u64 0, .v (.bool b)]
def z24v (b : Bool) : List Ch := List.replicate 24 (.n .u64 0) ++ [.v (.bool b)]
section
variable (n m : Nat) (xs : List Int)
noncomputable def k1S (s : Bool) (p : List Bool) : ASt := entry Tryz.f12 (dcA n m s) (byH xs) 1 p
noncomputable def k2S (s : Bool) (p : List Bool) : ASt := entry Tryz.f16 (dcA n m s) (byH xs) 1 p
theorem k1s_e : segOut Tryz.prog oQf Tryz.f12 800 1 [] (k1S n m xs true [true, true]) = some (wcC n m xs (rdN 1 true (win xs 0 n)) false [(!decide (rdE 1 true (win xs 0 n) = 0), true)], [], .tup [(true, z12v (decide (rdE 1 true (win xs 0 n) = 0))), (false, [.v (.int .i64 (rdE 1 true (win xs 0 n)))])], []) := by kernel_rfl
theorem k1s_i : segOut Tryz.prog oQf Tryz.f12 800 1 [] (k1S n m xs true [true, false, true]) = some (wcC n m xs (rdN 1 true (win xs 0 n)) false [(!decide (rdE 1 true (win xs 0 n) = 0), false), (decide (rdE 1 true (win xs 0 n) = 0), true)], [], .tup [(true, z12v (decide (rdE 1 true (win xs 0 n) = 0))), (false, [.v (.int .i64 (rdE 1 true (win xs 0 n)))])], []) := by kernel_rfl
theorem k1l_e : segOut Tryz.prog oQf Tryz.f12 800 1 [] (k1S n m xs false [true, true]) = some (wcC n m xs (rdN 2 false (win xs 0 n)) false [(!decide (rdE 2 false (win xs 0 n) = 0), true)], [], .tup [(true, z12v (decide (rdE 2 false (win xs 0 n) = 0))), (false, [.v (.int .i64 (rdE 2 false (win xs 0 n)))])], []) := by kernel_rfl
theorem k1l_i : segOut Tryz.prog oQf Tryz.f12 800 1 [] (k1S n m xs false [true, false, true]) = some (wcC n m xs (rdN 2 false (win xs 0 n)) false [(!decide (rdE 2 false (win xs 0 n) = 0), false), (decide (rdE 2 false (win xs 0 n) = 0), true)], [], .tup [(true, z12v (decide (rdE 2 false (win xs 0 n) = 0))), (false, [.v (.int .i64 (rdE 2 false (win xs 0 n)))])], []) := by kernel_rfl
noncomputable def k1C (b : Bool) (r : List (Bool × Bool)) : List (Bool × Bool) := wcC n m xs (rdN 1 true (win xs 0 n)) true (tt 1 ((!sqA1 (xN 1 0 (win xs 0 n)), b) :: r))
theorem k1s_n : segOut Tryz.prog oQf Tryz.f12 800 1 [] (k1S n m xs true [false, true]) = some (k1C n m xs true [], [], dE 204, []) := by kernel_rfl
theorem k1s_t1 : segOut Tryz.prog oQf Tryz.f12 800 1 [] (k1S n m xs true [false, false, true, true]) = some (k1C n m xs false ([(!(biggerN (yR (xN 1 0 (win xs 0 n))) == flB (win xs 0 n) 32), true), (!onP (toPt (xN 1 0 (win xs 0 n)) (ng FP (yR (xN 1 0 (win xs 0 n)))) false), true)]), [], dE 204, []) := by kernel_rfl
theorem k1s_t2 : segOut Tryz.prog oQf Tryz.f12 800 1 [] (k1S n m xs true [false, false, true, false, true]) = some (k1C n m xs false ([(!(biggerN (yR (xN 1 0 (win xs 0 n))) == flB (win xs 0 n) 32), true), (!onP (toPt (xN 1 0 (win xs 0 n)) (ng FP (yR (xN 1 0 (win xs 0 n)))) false), false), (!in1 (toPt (xN 1 0 (win xs 0 n)) (ng FP (yR (xN 1 0 (win xs 0 n)))) false), true)]), [], dE 205, []) := by kernel_rfl
theorem k1s_t3 : segOut Tryz.prog oQf Tryz.f12 800 1 [] (k1S n m xs true [false, false, true, false, false]) = some (k1C n m xs false ([(!(biggerN (yR (xN 1 0 (win xs 0 n))) == flB (win xs 0 n) 32), true), (!onP (toPt (xN 1 0 (win xs 0 n)) (ng FP (yR (xN 1 0 (win xs 0 n)))) false), false), (!in1 (toPt (xN 1 0 (win xs 0 n)) (ng FP (yR (xN 1 0 (win xs 0 n)))) false), false)]), [], dP (xN 1 0 (win xs 0 n)) (ng FP (yR (xN 1 0 (win xs 0 n)))), []) := by kernel_rfl
theorem k1s_f1 : segOut Tryz.prog oQf Tryz.f12 800 1 [] (k1S n m xs true [false, false, false, true]) = some (k1C n m xs false ([(!(biggerN (yR (xN 1 0 (win xs 0 n))) == flB (win xs 0 n) 32), false), (!onP (toPt (xN 1 0 (win xs 0 n)) (yR (xN 1 0 (win xs 0 n))) false), true)]), [], dE 204, []) := by kernel_rfl
theorem k1s_f2 : segOut Tryz.prog oQf Tryz.f12 800 1 [] (k1S n m xs true [false, false, false, false, true]) = some (k1C n m xs false ([(!(biggerN (yR (xN 1 0 (win xs 0 n))) == flB (win xs 0 n) 32), false), (!onP (toPt (xN 1 0 (win xs 0 n)) (yR (xN 1 0 (win xs 0 n))) false), false), (!in1 (toPt (xN 1 0 (win xs 0 n)) (yR (xN 1 0 (win xs 0 n))) false), true)]), [], dE 205, []) := by kernel_rfl
theorem k1s_f3 : segOut Tryz.prog oQf Tryz.f12 800 1 [] (k1S n m xs true [false, false, false, false, false]) = some (k1C n m xs false ([(!(biggerN (yR (xN 1 0 (win xs 0 n))) == flB (win xs 0 n) 32), false), (!onP (toPt (xN 1 0 (win xs 0 n)) (yR (xN 1 0 (win xs 0 n))) false), false), (!in1 (toPt (xN 1 0 (win xs 0 n)) (yR (xN 1 0 (win xs 0 n))) false), false)]), [], dP (xN 1 0 (win xs 0 n)) (yR (xN 1 0 (win xs 0 n))), []) := by kernel_rfl
noncomputable def k1D (r : List (Bool × Bool)) : List (Bool × Bool) := wcC n m xs (rdN 2 false (win xs 0 n)) true (tt 2 r)
theorem k1l_1 : segOut Tryz.prog oQf Tryz.f12 800 1 [] (k1S n m xs false [false, true]) = some (k1D n m xs [(!onP (toPt (xN 2 0 (win xs 0 n)) (xN 2 1 (win xs 0 n)) false), true)], [], dE 204, []) := by kernel_rfl
theorem k1l_2 : segOut Tryz.prog oQf Tryz.f12 800 1 [] (k1S n m xs false [false, false, true]) = some (k1D n m xs [(!onP (toPt (xN 2 0 (win xs 0 n)) (xN 2 1 (win xs 0 n)) false), false), (!in1 (toPt (xN 2 0 (win xs 0 n)) (xN 2 1 (win xs 0 n)) false), true)], [], dE 205, []) := by kernel_rfl
theorem k1l_3 : segOut Tryz.prog oQf Tryz.f12 800 1 [] (k1S n m xs false [false, false, false]) = some (k1D n m xs [(!onP (toPt (xN 2 0 (win xs 0 n)) (xN 2 1 (win xs 0 n)) false), false), (!in1 (toPt (xN 2 0 (win xs 0 n)) (xN 2 1 (win xs 0 n)) false), false)], [], dP (xN 2 0 (win xs 0 n)) (xN 2 1 (win xs 0 n)), []) := by kernel_rfl
theorem k2s_e : segOut Tryz.prog oQf Tryz.f16 800 1 [] (k2S n m xs true [true, true]) = some (wcC n m xs (rdN 2 true (win xs 0 n)) false [(!decide (rdE 2 true (win xs 0 n) = 0), true)], [], .tup [(true, z24v (decide (rdE 2 true (win xs 0 n) = 0))), (false, [.v (.int .i64 (rdE 2 true (win xs 0 n)))])], []) := by kernel_rfl
theorem k2s_i : segOut Tryz.prog oQf Tryz.f16 800 1 [] (k2S n m xs true [true, false, true]) = some (wcC n m xs (rdN 2 true (win xs 0 n)) false [(!decide (rdE 2 true (win xs 0 n) = 0), false), (decide (rdE 2 true (win xs 0 n) = 0), true)], [], .tup [(true, z24v (decide (rdE 2 true (win xs 0 n) = 0))), (false, [.v (.int .i64 (rdE 2 true (win xs 0 n)))])], []) := by kernel_rfl
theorem k2l_e : segOut Tryz.prog oQf Tryz.f16 800 1 [] (k2S n m xs false [true, true]) = some (wcC n m xs (rdN 4 false (win xs 0 n)) false [(!decide (rdE 4 false (win xs 0 n) = 0), true)], [], .tup [(true, z24v (decide (rdE 4 false (win xs 0 n) = 0))), (false, [.v (.int .i64 (rdE 4 false (win xs 0 n)))])], []) := by kernel_rfl
theorem k2l_i : segOut Tryz.prog oQf Tryz.f16 800 1 [] (k2S n m xs false [true, false, true]) = some (wcC n m xs (rdN 4 false (win xs 0 n)) false [(!decide (rdE 4 false (win xs 0 n) = 0), false), (decide (rdE 4 false (win xs 0 n) = 0), true)], [], .tup [(true, z24v (decide (rdE 4 false (win xs 0 n) = 0))), (false, [.v (.int .i64 (rdE 4 false (win xs 0 n)))])], []) := by kernel_rfl
noncomputable def k2C (b : Bool) (r : List (Bool × Bool)) : List (Bool × Bool) := wcC n m xs (rdN 2 true (win xs 0 n)) true (tt 2 ((!sqA2 (x2 2 (win xs 0 n)), b) :: r))
theorem k2s_n : segOut Tryz.prog oQf Tryz.f16 800 1 [] (k2S n m xs true [false, true]) = some (k2C n m xs true [], [], dE2 204, []) := by kernel_rfl
theorem k2s_t1 : segOut Tryz.prog oQf Tryz.f16 800 1 [] (k2S n m xs true [false, false, true, true]) = some (k2C n m xs false ([(!(bg2 (mo (y2R (x2 2 (win xs 0 n)))) == flB (win xs 0 n) 32), true), (!on2 (mo ((x2 2 (win xs 0 n)), (ng FP2 (y2R (x2 2 (win xs 0 n)))), false) : P2), true)]), [], dE2 204, []) := by kernel_rfl
theorem k2s_t2 : segOut Tryz.prog oQf Tryz.f16 800 1 [] (k2S n m xs true [false, false, true, false, true]) = some (k2C n m xs false ([(!(bg2 (mo (y2R (x2 2 (win xs 0 n)))) == flB (win xs 0 n) 32), true), (!on2 (mo ((x2 2 (win xs 0 n)), (ng FP2 (y2R (x2 2 (win xs 0 n)))), false) : P2), false), (!in2 (mo ((x2 2 (win xs 0 n)), (ng FP2 (y2R (x2 2 (win xs 0 n)))), false) : P2), true)]), [], dE2 205, []) := by kernel_rfl
theorem k2s_t3 : segOut Tryz.prog oQf Tryz.f16 800 1 [] (k2S n m xs true [false, false, true, false, false]) = some (k2C n m xs false ([(!(bg2 (mo (y2R (x2 2 (win xs 0 n)))) == flB (win xs 0 n) 32), true), (!on2 (mo ((x2 2 (win xs 0 n)), (ng FP2 (y2R (x2 2 (win xs 0 n)))), false) : P2), false), (!in2 (mo ((x2 2 (win xs 0 n)), (ng FP2 (y2R (x2 2 (win xs 0 n)))), false) : P2), false)]), [], dP2 (x2 2 (win xs 0 n)) (ng FP2 (y2R (x2 2 (win xs 0 n)))), []) := by kernel_rfl
theorem k2s_f1 : segOut Tryz.prog oQf Tryz.f16 800 1 [] (k2S n m xs true [false, false, false, true]) = some (k2C n m xs false ([(!(bg2 (mo (y2R (x2 2 (win xs 0 n)))) == flB (win xs 0 n) 32), false), (!on2 (mo ((x2 2 (win xs 0 n)), (y2R (x2 2 (win xs 0 n))), false) : P2), true)]), [], dE2 204, []) := by kernel_rfl
theorem k2s_f2 : segOut Tryz.prog oQf Tryz.f16 800 1 [] (k2S n m xs true [false, false, false, false, true]) = some (k2C n m xs false ([(!(bg2 (mo (y2R (x2 2 (win xs 0 n)))) == flB (win xs 0 n) 32), false), (!on2 (mo ((x2 2 (win xs 0 n)), (y2R (x2 2 (win xs 0 n))), false) : P2), false), (!in2 (mo ((x2 2 (win xs 0 n)), (y2R (x2 2 (win xs 0 n))), false) : P2), true)]), [], dE2 205, []) := by kernel_rfl
theorem k2s_f3 : segOut Tryz.prog oQf Tryz.f16 800 1 [] (k2S n m xs true [false, false, false, false, false]) = some (k2C n m xs false ([(!(bg2 (mo (y2R (x2 2 (win xs 0 n)))) == flB (win xs 0 n) 32), false), (!on2 (mo ((x2 2 (win xs 0 n)), (y2R (x2 2 (win xs 0 n))), false) : P2), false), (!in2 (mo ((x2 2 (win xs 0 n)), (y2R (x2 2 (win xs 0 n))), false) : P2), false)]), [], dP2 (x2 2 (win xs 0 n)) (y2R (x2 2 (win xs 0 n))), []) := by kernel_rfl
noncomputable def k2D (r : List (Bool × Bool)) : List (Bool × Bool) := wcC n m xs (rdN 4 false (win xs 0 n)) true (tt 4 r)
theorem k2l_1 : segOut Tryz.prog oQf Tryz.f16 800 1 [] (k2S n m xs false [false, true]) = some (k2D n m xs [(!on2 (mo ((x2 4 (win xs 0 n)), (z2 (win xs 0 n)), false) : P2), true)], [], dE2 204, []) := by kernel_rfl
theorem k2l_2 : segOut Tryz.prog oQf Tryz.f16 800 1 [] (k2S n m xs false [false, false, true]) = some (k2D n m xs [(!on2 (mo ((x2 4 (win xs 0 n)), (z2 (win xs 0 n)), false) : P2), false), (!in2 (mo ((x2 4 (win xs 0 n)), (z2 (win xs 0 n)), false) : P2), true)], [], dE2 205, []) := by kernel_rfl
theorem k2l_3 : segOut Tryz.prog oQf Tryz.f16 800 1 [] (k2S n m xs false [false, false, false]) = some (k2D n m xs [(!on2 (mo ((x2 4 (win xs 0 n)), (z2 (win xs 0 n)), false) : P2), false), (!in2 (mo ((x2 4 (win xs 0 n)), (z2 (win xs 0 n)), false) : P2), false)], [], dP2 (x2 4 (win xs 0 n)) (z2 (win xs 0 n)), []) := by kernel_rfl
end
theorem nsq1 {x : Nat} (h : sqA1 x = false) (c : Bool) : onP (toPt x (yB x c) false) = false := by
  cases ho : onP (toPt x (yB x c) false) with
  | false => rfl
  | true =>
    have hq : tf (yB x c) * tf (yB x c) = tf x * tf x * tf x + four := (onP_iff _).1 ho
    have h2 := isF_of hq
    unfold sqA1 at h
    rw [(yR_tf x).2, h2] at h; cases h
theorem nsq2 {x : R FP2} (h : sqA2 x = false) (c : Bool) : on2 (mo (x, yB2 x c, false)) = false := by
  cases ho : on2 (mo (x, yB2 x c, false)) with
  | false => rfl
  | true =>
    have hq : (mo (yB2 x c) : FP2) * mo (yB2 x c) = mo x * mo x * mo x + four2 := (on2_iff _).1 ho
    have e : (mo (ad FP2 (mu FP2 (mu FP2 x x) x) ((4 : Nat), (4 : Nat))) : FP2) = mo x * mo x * mo x + four2 := by
      unfold ad mu
      rw [mo_en, mo_en, mo_en]; rfl
    have h2 := is2_iff.2 ⟨_, hq⟩
    unfold sqA2 at h
    rw [e, h2] at h; cases h
theorem z12_A {β : Env} {e : Int} {q : Pt FP} {b : Bool} (hb : b = ptI q) (h0 : ptX q = 0) (h1 : ptY q = 0) {u : Value} (h : relA β (.tup [(true, z12v b), (false, [.v (.int .i64 e)])]) u) : relA β (gmV (q, e)) u := by
  subst hb
  have e1 : gmV (q, e) = .tup [(true, [.num 6 0, .num 6 0, .v (.bool (ptI q))]), (false, [.v (.int .i64 e)])] := by
    show gmA q e = _
    unfold gmA
    rw [h0, h1]
  rw [e1]
  exact relT2 (fun _ q => (asG1_rel (x := 0) (y := 0) (by kernel_rfl) q).1) (fun _ q => q) h
theorem z24_A {β : Env} {e : Int} {q : P2} {b : Bool} (hq : (rd (z24v b) : Option (R P2)) = some (en q)) {u : Value} (h : relA β (.tup [(true, z24v b), (false, [.v (.int .i64 e)])]) u) : relA β (gmV2 (q, e)) u :=
  relT2 (fun _ ⟨l, q, e⟩ => ⟨l, Sh.rd_ok (α := P2) hq q, e⟩) (fun _ q => q) h
theorem z24v_t : (rd (z24v true) : Option (R P2)) = some (en (.inf : P2)) := by kernel_rfl
theorem z24v_f : (rd (z24v false) : Option (R P2)) = some (en (.pt 0 0 : P2)) := by kernel_rfl
theorem k1_fin {n m : Nat} {xs : List Int} {s : Bool} {x y : Nat} (hx : x < pN) (hy : y < pN) {C : List (Bool × Bool) → List (Bool × Bool)} (hC : ∀ r, okConds r → okConds (C r)) {p1 p2 p3 : List Bool}
    (h1 : segOut Tryz.prog oQf Tryz.f12 800 1 [] (k1S n m xs s p1) = some (C [(!onP (toPt x y false), true)], [], dE 204, []))
    (h2 : segOut Tryz.prog oQf Tryz.f12 800 1 [] (k1S n m xs s p2) = some (C [(!onP (toPt x y false), false), (!in1 (toPt x y false), true)], [], dE 205, []))
    (h3 : segOut Tryz.prog oQf Tryz.f12 800 1 [] (k1S n m xs s p3) = some (C [(!onP (toPt x y false), false), (!in1 (toPt x y false), false)], [], dP x y, [])) :
    CanOk Tryz.prog 12 (dcA n m s) (byH xs) 1 [] (gmV (fin1 (toPt x y false))) [] := by
  unfold fin1
  cases ho : onP (toPt x y false) with
  | false =>
    rw [if_neg Bool.false_ne_true]
    exact can_val (can_run SQfok KQok Tryz.func12 (by kernel_rfl) (by kernel_rfl) h1 (by kernel_rfl) (hC _ ⟨by rw [ho]; rfl, trivial⟩)) fun _ _ q => gz_A q
  | true =>
    rw [if_pos rfl]
    cases hi : in1 (toPt x y false) with
    | false =>
      rw [if_neg Bool.false_ne_true]
      exact can_val (can_run SQfok KQok Tryz.func12 (by kernel_rfl) (by kernel_rfl) h2 (by kernel_rfl) (hC _ ⟨by rw [ho]; rfl, by rw [hi]; rfl, trivial⟩)) fun _ _ q => gz_A q
    | true =>
      rw [if_pos rfl]
      exact can_val (can_run SQfok KQok Tryz.func12 (by kernel_rfl) (by kernel_rfl) h3 (by kernel_rfl) (hC _ ⟨by rw [ho]; rfl, by rw [hi]; rfl, trivial⟩)) fun _ _ q => gp_A hx hy q
theorem k1_can {n m : Nat} {xs : List Int} (hl : n ≤ xs.length) (hm : n ≤ m) (hn : hasB .i64 n = true) (s : Bool) : CanOk Tryz.prog 12 (dcA n m s) (byH xs) 1 [] (gmV (dec1 s (win xs 0 n))) [] := by
  have hW : ∀ (b d : Bool) r, b = d → okConds r → okConds (wcC n m xs b d r) := fun b d r h hr => ⟨Nat.ble_eq_true_of_le hl, Nat.ble_eq_true_of_le hm, hn, h, hr⟩
  cases hr : rdN (kS s) s (win xs 0 n) with
  | false =>
    unfold dec1
    rw [hr, if_neg Bool.false_ne_true]
    by_cases he : rdE (kS s) s (win xs 0 n) = 0
    · rw [if_pos he]
      cases s with
      | true =>
        have t := k1s_i n m xs
        have he : rdE 1 true (win xs 0 n) = 0 := he
        rw [he] at t
        exact can_val (can_run SQfok KQok Tryz.func12 (by kernel_rfl) (by kernel_rfl) t (by kernel_rfl) (hW _ _ _ hr ⟨rfl, rfl, trivial⟩)) fun _ _ q => z12_A (q := .inf) rfl rfl rfl q
      | false =>
        have t := k1l_i n m xs
        have he : rdE 2 false (win xs 0 n) = 0 := he
        rw [he] at t
        exact can_val (can_run SQfok KQok Tryz.func12 (by kernel_rfl) (by kernel_rfl) t (by kernel_rfl) (hW _ _ _ hr ⟨rfl, rfl, trivial⟩)) fun _ _ q => z12_A (q := .inf) rfl rfl rfl q
    · rw [if_neg he]
      cases s with
      | true =>
        exact can_val (can_run SQfok KQok Tryz.func12 (by kernel_rfl) (by kernel_rfl) (k1s_e n m xs) (by kernel_rfl) (hW _ _ _ hr ⟨e0_true he, trivial⟩)) fun _ _ q => by
          have he : ¬ rdE 1 true (win xs 0 n) = 0 := he
          rw [decide_eq_false he] at q
          exact z12_A (q := .pt 0 0) rfl rfl rfl q
      | false =>
        exact can_val (can_run SQfok KQok Tryz.func12 (by kernel_rfl) (by kernel_rfl) (k1l_e n m xs) (by kernel_rfl) (hW _ _ _ hr ⟨e0_true he, trivial⟩)) fun _ _ q => by
          have he : ¬ rdE 2 false (win xs 0 n) = 0 := he
          rw [decide_eq_false he] at q
          exact z12_A (q := .pt 0 0) rfl rfl rfl q
  | true =>
    cases s with
    | true =>
      have hx := xN_lt hr 0 (by decide)
      cases hs : sqA1 (xN 1 0 (win xs 0 n)) with
      | false =>
        have ev : dec1 true (win xs 0 n) = (.pt 0 0, 204) := by
          unfold dec1
          rw [hr, if_pos rfl]
          unfold fin1
          rw [show onP (pt1 true (win xs 0 n)) = false from nsq1 hs _, if_neg Bool.false_ne_true]
        rw [ev]
        exact can_val (can_run SQfok KQok Tryz.func12 (by kernel_rfl) (by kernel_rfl) (k1s_n n m xs) (by kernel_rfl) (hW _ _ _ hr (tt_ok 1 ⟨by rw [hs]; rfl, trivial⟩))) fun _ _ q => gz_A q
      | true =>
        unfold dec1
        rw [hr, if_pos rfl]
        unfold pt1 yB
        have hs' : (!sqA1 (xN 1 0 (win xs 0 n))) = false := by rw [hs]; rfl
        by_cases hb : (!(biggerN (yR (xN 1 0 (win xs 0 n))) == flB (win xs 0 n) 32)) = true
        · simp only [if_pos hb]
          exact k1_fin hx (ng_lt _) (C := fun r => k1C n m xs false ((!(biggerN (yR (xN 1 0 (win xs 0 n))) == flB (win xs 0 n) 32), true) :: r)) (fun r hq => hW _ _ _ hr (tt_ok 1 ⟨hs', hb, hq⟩)) (k1s_t1 n m xs) (k1s_t2 n m xs) (k1s_t3 n m xs)
        · simp only [if_neg hb]
          exact k1_fin hx (yR_lt _) (C := fun r => k1C n m xs false ((!(biggerN (yR (xN 1 0 (win xs 0 n))) == flB (win xs 0 n) 32), false) :: r)) (fun r hq => hW _ _ _ hr (tt_ok 1 ⟨hs', by simpa using hb, hq⟩)) (k1s_f1 n m xs) (k1s_f2 n m xs) (k1s_f3 n m xs)
    | false =>
      unfold dec1
      rw [hr, if_pos rfl]
      exact k1_fin (xN_lt hr 0 (by decide)) (xN_lt hr 1 (by decide)) (C := k1D n m xs) (fun r hq => hW _ _ _ hr (tt_ok 2 hq)) (k1l_1 n m xs) (k1l_2 n m xs) (k1l_3 n m xs)
theorem k2_fin {n m : Nat} {xs : List Int} {s : Bool} {x y : R FP2} (hx : redB x = true) (hy : redB y = true) {C : List (Bool × Bool) → List (Bool × Bool)} (hC : ∀ r, okConds r → okConds (C r)) {p1 p2 p3 : List Bool}
    (h1 : segOut Tryz.prog oQf Tryz.f16 800 1 [] (k2S n m xs s p1) = some (C [(!on2 (mo (x, y, false) : P2), true)], [], dE2 204, []))
    (h2 : segOut Tryz.prog oQf Tryz.f16 800 1 [] (k2S n m xs s p2) = some (C [(!on2 (mo (x, y, false) : P2), false), (!in2 (mo (x, y, false) : P2), true)], [], dE2 205, []))
    (h3 : segOut Tryz.prog oQf Tryz.f16 800 1 [] (k2S n m xs s p3) = some (C [(!on2 (mo (x, y, false) : P2), false), (!in2 (mo (x, y, false) : P2), false)], [], dP2 x y, [])) :
    CanOk Tryz.prog 16 (dcA n m s) (byH xs) 1 [] (gmV2 (fin2 (mo (x, y, false) : P2))) [] := by
  unfold fin2
  cases ho : on2 (mo (x, y, false) : P2) with
  | false =>
    rw [if_neg Bool.false_ne_true]
    exact can_val (can_run SQfok KQok Tryz.func16 (by kernel_rfl) (by kernel_rfl) h1 (by kernel_rfl) (hC _ ⟨by rw [ho]; rfl, trivial⟩)) fun _ _ q => gz_A2 q
  | true =>
    rw [if_pos rfl]
    cases hi : in2 (mo (x, y, false) : P2) with
    | false =>
      rw [if_neg Bool.false_ne_true]
      exact can_val (can_run SQfok KQok Tryz.func16 (by kernel_rfl) (by kernel_rfl) h2 (by kernel_rfl) (hC _ ⟨by rw [ho]; rfl, by rw [hi]; rfl, trivial⟩)) fun _ _ q => gz_A2 q
    | true =>
      rw [if_pos rfl]
      exact can_val (can_run SQfok KQok Tryz.func16 (by kernel_rfl) (by kernel_rfl) h3 (by kernel_rfl) (hC _ ⟨by rw [ho]; rfl, by rw [hi]; rfl, trivial⟩)) fun _ _ q => gp_A2 hx hy q
theorem k2_can {n m : Nat} {xs : List Int} (hl : n ≤ xs.length) (hm : n ≤ m) (hn : hasB .i64 n = true) (s : Bool) : CanOk Tryz.prog 16 (dcA n m s) (byH xs) 1 [] (gmV2 (dec2 s (win xs 0 n))) [] := by
  have hW : ∀ (b d : Bool) r, b = d → okConds r → okConds (wcC n m xs b d r) := fun b d r h hr => ⟨Nat.ble_eq_true_of_le hl, Nat.ble_eq_true_of_le hm, hn, h, hr⟩
  cases hr : rdN (kT s) s (win xs 0 n) with
  | false =>
    unfold dec2
    rw [hr, if_neg Bool.false_ne_true]
    by_cases he : rdE (kT s) s (win xs 0 n) = 0
    · rw [if_pos he]
      cases s with
      | true =>
        have t := k2s_i n m xs
        have he : rdE 2 true (win xs 0 n) = 0 := he
        rw [he] at t
        exact can_val (can_run SQfok KQok Tryz.func16 (by kernel_rfl) (by kernel_rfl) t (by kernel_rfl) (hW _ _ _ hr ⟨rfl, rfl, trivial⟩)) fun _ _ q => z24_A (q := .inf) z24v_t q
      | false =>
        have t := k2l_i n m xs
        have he : rdE 4 false (win xs 0 n) = 0 := he
        rw [he] at t
        exact can_val (can_run SQfok KQok Tryz.func16 (by kernel_rfl) (by kernel_rfl) t (by kernel_rfl) (hW _ _ _ hr ⟨rfl, rfl, trivial⟩)) fun _ _ q => z24_A (q := .inf) z24v_t q
    · rw [if_neg he]
      cases s with
      | true =>
        exact can_val (can_run SQfok KQok Tryz.func16 (by kernel_rfl) (by kernel_rfl) (k2s_e n m xs) (by kernel_rfl) (hW _ _ _ hr ⟨e0_true he, trivial⟩)) fun _ _ q => by
          have he : ¬ rdE 2 true (win xs 0 n) = 0 := he
          rw [decide_eq_false he] at q
          exact z24_A (q := .pt 0 0) z24v_f q
      | false =>
        exact can_val (can_run SQfok KQok Tryz.func16 (by kernel_rfl) (by kernel_rfl) (k2l_e n m xs) (by kernel_rfl) (hW _ _ _ hr ⟨e0_true he, trivial⟩)) fun _ _ q => by
          have he : ¬ rdE 4 false (win xs 0 n) = 0 := he
          rw [decide_eq_false he] at q
          exact z24_A (q := .pt 0 0) z24v_f q
  | true =>
    cases s with
    | true =>
      have hx := red_pair (xN_lt hr 1 (by decide)) (xN_lt hr 0 (by decide))
      cases hs : sqA2 (x2 2 (win xs 0 n)) with
      | false =>
        have ev : dec2 true (win xs 0 n) = (.pt 0 0, 204) := by
          unfold dec2
          rw [hr, if_pos rfl]
          unfold fin2
          rw [show on2 (pt2 true (win xs 0 n)) = false from nsq2 hs _, if_neg Bool.false_ne_true]
        rw [ev]
        exact can_val (can_run SQfok KQok Tryz.func16 (by kernel_rfl) (by kernel_rfl) (k2s_n n m xs) (by kernel_rfl) (hW _ _ _ hr (tt_ok 2 ⟨by rw [hs]; rfl, trivial⟩))) fun _ _ q => gz_A2 q
      | true =>
        unfold dec2
        rw [hr, if_pos rfl]
        unfold pt2 yB2
        have hs' : (!sqA2 (x2 2 (win xs 0 n))) = false := by rw [hs]; rfl
        by_cases hb : (!(bg2 (mo (y2R (x2 2 (win xs 0 n)))) == flB (win xs 0 n) 32)) = true
        · simp only [if_pos hb]
          exact k2_fin hx (ng2_red _) (C := fun r => k2C n m xs false ((!(bg2 (mo (y2R (x2 2 (win xs 0 n)))) == flB (win xs 0 n) 32), true) :: r)) (fun r hq => hW _ _ _ hr (tt_ok 2 ⟨hs', hb, hq⟩)) (k2s_t1 n m xs) (k2s_t2 n m xs) (k2s_t3 n m xs)
        · simp only [if_neg hb]
          exact k2_fin hx (y2R_red _) (C := fun r => k2C n m xs false ((!(bg2 (mo (y2R (x2 2 (win xs 0 n)))) == flB (win xs 0 n) 32), false) :: r)) (fun r hq => hW _ _ _ hr (tt_ok 2 ⟨hs', by simpa using hb, hq⟩)) (k2s_f1 n m xs) (k2s_f2 n m xs) (k2s_f3 n m xs)
    | false =>
      unfold dec2
      rw [hr, if_pos rfl]
      exact k2_fin (red_pair (xN_lt hr 1 (by decide)) (xN_lt hr 0 (by decide))) (red_pair (xN_lt hr 3 (by decide)) (xN_lt hr 2 (by decide))) (C := k2D n m xs) (fun r hq => hW _ _ _ hr (tt_ok 4 hq)) (k2l_1 n m xs) (k2l_2 n m xs) (k2l_3 n m xs)
noncomputable def SQg : List (FuncId × ASpec) := (12, dcSp fun s L => gmV (dec1 s L)) :: (16, dcSp fun s L => gmV2 (dec2 s L)) :: SQf
theorem SQgok : SpecsOk Tryz.prog SQg := ⟨dcSp_ok Tryz.func12 (by kernel_rfl) (by kernel_rfl) (fun _ _ => by kernel_rfl) fun _ _ _ s hl hm hn => k1_can hl hm hn s, dcSp_ok Tryz.func16 (by kernel_rfl) (by kernel_rfl) (fun _ _ => by kernel_rfl) fun _ _ _ s hl hm hn => k2_can hl hm hn s, SQfok⟩
noncomputable abbrev oQg : Orc := orc SQg KQ
theorem oQgok : OrcOk Tryz.prog oQg := orc_ok SQgok KQok
end Go.Proofs.YtohjpdglbeohpaaGreat
