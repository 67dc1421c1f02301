/- sigillaw20: CodecBack1, CodecBytes1: the walks. -/
import Derived.Test.YtahkeahbfmneaaaPE
import Derived.Test.YtahkeahbfmneaaaLy
namespace Go.Proofs.Ytahkeahbfmneaaa
open Ex Num Rg
open Sh (R av rd mo en mo_en)
set_option maxRecDepth 100000

theorem dec1_zero {s : Bool} {L : List Int} (h : (dec1 s L).2 ≠ 0) : (dec1 s L).1 = .pt 0 0 := by
  unfold dec1 at h ⊢
  split
  · rename_i hr
    rw [if_pos hr] at h
    unfold fin1 at h ⊢
    split
    · rename_i ho
      rw [if_pos ho] at h
      split
      · rename_i hi
        rw [if_pos hi] at h; exact absurd rfl h
      · rfl
    · rfl
  · rename_i hr
    rw [if_neg hr] at h
    split
    · rename_i he
      rw [if_pos he] at h; exact absurd rfl h
    · rfl
theorem smB_of {a b : List Int} (h : a = b) : smB a b = true := decide_eq_true h
theorem e1L_len' (s : Bool) (p : Pt FP) : (e1L s p).length = 96 := by
  rw [e1L_ec, b1_cat]
  have : ∀ (i b : Bool) (B : List Int), (ecL s i b B).length = B.length := fun i b B => by
    cases B with
    | nil => cases s <;> cases i <;> cases b <;> rfl
    | cons f t => rw [ecL_cons]; rfl
  rw [this, cat_length]; rfl
noncomputable def W1 (s : Bool) (p : Pt FP) : List Int := win (e1L s p) 0 (48 * kS s)
noncomputable def kbC (s : Bool) (p : Pt FP) : List (Bool × Bool) := (in1 p, true) :: (!in1 p, false) :: (Nat.ble (48 * kS s) (e1L s p).length, true) :: tt 2 ((Nat.ble (48 * kS s) (e1L s p).length, true) :: tt 2 ((decide ((dec1 s (W1 s p)).2 = 0), true) :: (eqP (dec1 s (W1 s p)).1 p, true) :: tt 2 []))
section
variable (x y : Nat) (i : Bool)
theorem back1_e (s : Bool) : pureRun Try.prog oO21 Try.f4 [g1A x y i, .val false [.b s]] [true, true, true, true, true] 500 = some ([(in1 (toPt x y i), false), (!in1 (toPt x y i), true), (true, true)], boolA true) := by cases s <;> kernel_rfl
theorem back1_t : pureRun Try.prog oO21 Try.f4 [g1A x y i, .val false [.b true]] [false, false, true, true, true, true, true, true, true, true, true] 500 = some (kbC true (toPt x y i), boolA (decide ((dec1 false (W1 true (toPt x y i))).2 = 200))) := by kernel_rfl
theorem back1_f : pureRun Try.prog oO21 Try.f4 [g1A x y i, .val false [.b false]] [false, false, true, true, true, true, true, true, true, true, true] 500 = some (kbC false (toPt x y i), boolA (decide ((dec1 true (W1 false (toPt x y i))).2 = 200))) := by kernel_rfl
theorem back1_ok (s : Bool) : PureOk Try.prog 4 [g1A x y i, .val false [.b s]] (.val false [.b true]) := by
  have h1 := back1_e x y i s
  have h2 := back1_t x y i
  have h3 := back1_f x y i
  generalize toPt x y i = p at *
  cases hin : in1 p with
  | false => exact bool_true (pure_ok oO21ok mixed Try.func4 h1 ⟨hin, by rw [hin]; rfl, rfl, trivial⟩ rfl) rfl
  | true =>
    have hd := dec_enc1 hin s
    have hc : okConds (kbC s p) := ⟨hin, by rw [hin]; rfl, by rw [e1L_len']; cases s <;> rfl, tt_ok 2 ⟨by rw [e1L_len']; cases s <;> rfl, tt_ok 2 ⟨decide_eq_true (by unfold W1; rw [hd]), eqP_of (by unfold W1; rw [hd]), tt_ok 2 trivial⟩⟩⟩
    cases s with
    | true => exact bool_true (pure_ok oO21ok mixed Try.func4 h2 hc rfl) (decide_eq_true (dec_len1 p true))
    | false => exact bool_true (pure_ok oO21ok mixed Try.func4 h3 hc rfl) (decide_eq_true (dec_len1 p false))
theorem codecBack1_walk : LawWalk Try.prog 4 Try.f4 := walk_of fun H enc us W base ds ps hv hA => by
  have hp : Try.f4.params.toList = [27, 4] := by kernel_rfl
  have hp' : Try.f4.params = #[27, 4] := by kernel_rfl
  rw [hp] at hA
  rw [hp'] at hv
  obtain ⟨v1, us1, d1, ds1, p1, q1, rfl, rfl, t1, hA⟩ := args_cons hA
  obtain ⟨v2, us2, d2, ds2, p2, q2, rfl, rfl, t2, hA⟩ := args_cons hA
  obtain rfl := args0 hA rfl
  obtain ⟨x, y, i, r1⟩ := g1_arg (hv 0 _ v1 rfl rfl) t1
  obtain ⟨s, r2⟩ := bool_arg (hv 1 _ v2 rfl rfl) t2
  exact ⟨[g1A x y i, .val false [.b s]], ⟨v1, _, r1 _, ⟨v2, _, r2 _, rfl, rfl⟩, rfl⟩, back1_ok x y i s⟩
end
/- CodecBytes1 -/
noncomputable def byC (s : Bool) (n m : Nat) (xs : List Int) (q : Pt FP) (d : Bool × Bool) : List (Bool × Bool) := (Nat.ble n xs.length, true) :: (Nat.ble n m, true) :: (hasB .i64 n, true) :: d :: (in1 (toPt' q), true) :: (Nat.ble (48 * kS s) (e1L s (toPt' q)).length, true) :: (Nat.ble (0 + n) xs.length, true) :: (true, true) :: (hasB .i64 n, true) ::
  (smB (W1 s (toPt' q)) (win xs 0 n), true) :: (in1 (toPt' q), true) :: []
section
variable (n m : Nat) (xs : List Int)
noncomputable def byS (s : Bool) (p : List Bool) : ASt := entry Try.f5 (dcA n m s) (byH xs) 1 p
theorem bytes1_e (s : Bool) : segOut Try.prog oO21 Try.f5 800 1 [] (byS n m xs s [true, true, true]) = some ([(Nat.ble n xs.length, true), (Nat.ble n m, true), (hasB .i64 n, true), (!decide ((dec1 s (win xs 0 n)).2 = 0), true)], [], boolA (eqP (dec1 s (win xs 0 n)).1 (.pt 0 0)), []) := by cases s <;> kernel_rfl
theorem bytes1_t : segOut Try.prog oO21 Try.f5 800 1 [] (byS n m xs true [false, false, true, true, true, true, true, true, true, true]) = some (byC true n m xs (dec1 true (win xs 0 n)).1 (!decide ((dec1 true (win xs 0 n)).2 = 0), false), [], boolA (eqP (toPt' (dec1 true (win xs 0 n)).1) (dec1 true (win xs 0 n)).1), []) := by kernel_rfl
theorem bytes1_f : segOut Try.prog oO21 Try.f5 800 1 [] (byS n m xs false [false, false, true, true, true, true, true, true, true, true]) = some (byC false n m xs (dec1 false (win xs 0 n)).1 (!decide ((dec1 false (win xs 0 n)).2 = 0), false), [], boolA (eqP (toPt' (dec1 false (win xs 0 n)).1) (dec1 false (win xs 0 n)).1), []) := by kernel_rfl
theorem bytes1_ok {n m : Nat} {xs : List Int} (hx : ∀ d ∈ xs, 0 ≤ d ∧ d < 256) (hl : n ≤ xs.length) (hm : n ≤ m) (hn : hasB .i64 n = true) (s : Bool) : CanOk Try.prog 5 (dcA n m s) (byH xs) 1 [] (boolA true) [] := by
  have h1 := bytes1_e n m xs s
  have h2 := bytes1_t n m xs
  have h3 := bytes1_f n m xs
  have b1 := Nat.ble_eq_true_of_le hl
  have b2 := Nat.ble_eq_true_of_le hm
  by_cases he : (dec1 s (win xs 0 n)).2 = 0
  · obtain ⟨q1, q2⟩ := enc_dec1 (win_has hx) he
    have hc : okConds (byC s n m xs (dec1 s (win xs 0 n)).1 (!decide ((dec1 s (win xs 0 n)).2 = 0), false)) := by
      unfold byC
      rw [toPt'_eq]
      exact ⟨b1, b2, hn, e0_false he, q1, by rw [e1L_len']; cases s <;> rfl, by rw [Nat.zero_add]; exact b1, rfl, hn, smB_of q2, q1, trivial⟩
    cases s with
    | true => exact can_bool (can_run SO21ok KHok Try.func5 (by kernel_rfl) (by kernel_rfl) h2 (by kernel_rfl) hc) (eqP_of (toPt'_eq _))
    | false => exact can_bool (can_run SO21ok KHok Try.func5 (by kernel_rfl) (by kernel_rfl) h3 (by kernel_rfl) hc) (eqP_of (toPt'_eq _))
  · exact can_bool (can_run SO21ok KHok Try.func5 (by kernel_rfl) (by kernel_rfl) h1 (by kernel_rfl) ⟨b1, b2, hn, e0_true he, trivial⟩) (eqP_of (dec1_zero he))
end
theorem codecBytes1_walk : LawWalk Try.prog 5 Try.f5 := walk_can fun H enc us W base ds ps hv hA => by
  have hp : Try.f5.params.toList = [28, 4] := by kernel_rfl
  have hp' : Try.f5.params = #[28, 4] := by kernel_rfl
  rw [hp] at hA
  rw [hp'] at hv
  obtain ⟨v1, us1, d1, ds1, p1, q1, rfl, rfl, t1, hA⟩ := args_cons hA
  obtain ⟨v2, us2, d2, ds2, p2, q2, rfl, rfl, t2, hA⟩ := args_cons hA
  obtain rfl := args0 hA rfl
  obtain ⟨L, zs, n, m, h1, h2, h3, h4, h5, h6⟩ := bytes_arg_m (hv 0 _ v1 rfl rfl) t1 (ArgsOk.nil W)
  obtain ⟨s, r2⟩ := bool_arg (hv 1 _ v2 rfl rfl) t2
  exact ⟨_, _, dcA n m s, h6, ⟨v1, _, h5, ⟨v2, _, r2 _, rfl, rfl⟩, rfl⟩, bytes1_ok h1 h2 h3 h4 s⟩
end Go.Proofs.Ytahkeahbfmneaaa
