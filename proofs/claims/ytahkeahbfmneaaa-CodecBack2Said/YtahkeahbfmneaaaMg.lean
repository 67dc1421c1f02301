/- sigillaw20: CodecBack2, CodecBytes2: the walks. -/
import Derived.Test.YtahkeahbfmneaaaMf
import Derived.Test.YtahkeahbfmneaaaMe
import Derived.Test.YtahkeahbfmneaaaPE
namespace Go.Proofs.Ytahkeahbfmneaaa
open Ex Num Rg
open Sh (R av rd mo en mo_en)
set_option maxRecDepth 100000

noncomputable def SO22 : List (FuncId × ASpec) := (10, pureSpec yes12) :: (15, smSp) :: SJn
theorem SO22ok : SpecsOk Try.prog SO22 := ⟨pureSpec_ok Try.func10 (by kernel_rfl) (by kernel_rfl) (sp0_ok aw20_ok fun u h => h), smSp_ok, SJnok⟩
noncomputable abbrev oO22 : Orc := orc SO22 KH
theorem oO22ok : OrcOk Try.prog oO22 := orc_ok SO22ok KHok
theorem dec2_zero {s : Bool} {L : List Int} (h : (dec2 s L).2 ≠ 0) : (dec2 s L).1 = .pt 0 0 := by
  unfold dec2 at h ⊢
  split
  · rename_i hr
    rw [if_pos hr] at h
    unfold fin2 at h ⊢
    split
    · rename_i ho
      rw [if_pos ho] at h
      split
      · rename_i hi
        rw [if_pos hi] at h; exact absurd rfl h
      · rfl
    · rfl
  · rename_i hr
    rw [if_neg hr] at h
    split
    · rename_i he
      rw [if_pos he] at h; exact absurd rfl h
    · rfl
noncomputable def eqS (r t : R P2) : Bool := dq r.1.1 t.1.1 && (dq r.1.2 t.1.2 && (dq r.2.1.1 t.2.1.1 && (dq r.2.1.2 t.2.1.2 && (r.2.2 == t.2.2))))
noncomputable def eqQ (p q : P2) : Bool := eqS (en p) (en q)
theorem eqQ_of {p q : P2} (h : p = q) : eqQ p q = true := by
  subst h
  unfold eqQ eqS dq
  rw [decide_eq_true rfl, decide_eq_true rfl, decide_eq_true rfl, decide_eq_true rfl]
  cases (en p : R P2).2.2 <;> rfl
noncomputable def W2 (s : Bool) (p : P2) : List Int := win (e2L s p) 0 (48 * kT s)
noncomputable def kdC (s : Bool) (p : P2) : List (Bool × Bool) := (in2 p, true) :: (!in2 p, false) :: (Nat.ble (48 * kT s) (e2L s p).length, true) :: tt 2 ((Nat.ble (48 * kT s) (e2L s p).length, true) :: tt 2 ((decide ((dec2 s (W2 s p)).2 = 0), true) :: (eqQ (dec2 s (W2 s p)).1 p, true) :: tt 2 []))
section
variable (r : R P2)
theorem back2_e (s : Bool) : pureRun Try.prog oO22 Try.f8 [va P2 r, .val false [.b s]] [true, true, true, true, true] 500 = some ([(in2 (mo r), false), (!in2 (mo r), true), (true, true)], boolA true) := by cases s <;> kernel_rfl
theorem back2_t : pureRun Try.prog oO22 Try.f8 [va P2 r, .val false [.b true]] [false, false, true, true, true, true, true, true, true, true, true] 500 = some (kdC true (mo r), boolA (decide ((dec2 false (W2 true (mo r))).2 = 200))) := by kernel_rfl
theorem back2_f : pureRun Try.prog oO22 Try.f8 [va P2 r, .val false [.b false]] [false, false, true, true, true, true, true, true, true, true, true] 500 = some (kdC false (mo r), boolA (decide ((dec2 true (W2 false (mo r))).2 = 200))) := by kernel_rfl
theorem back2_ok (s : Bool) : PureOk Try.prog 8 [va P2 r, .val false [.b s]] (.val false [.b true]) := by
  have h1 := back2_e r s
  have h2 := back2_t r
  have h3 := back2_f r
  generalize (mo r : P2) = p at *
  cases hin : in2 p with
  | false => exact bool_true (pure_ok oO22ok mixed Try.func8 h1 ⟨hin, by rw [hin]; rfl, rfl, trivial⟩ rfl) rfl
  | true =>
    have hd := dec_enc2 hin s
    have hc : okConds (kdC s p) := ⟨hin, by rw [hin]; rfl, by rw [e2L_len]; cases s <;> rfl, tt_ok 2 ⟨by rw [e2L_len]; cases s <;> rfl, tt_ok 2 ⟨decide_eq_true (by unfold W2; rw [hd]), eqQ_of (by unfold W2; rw [hd]), tt_ok 2 trivial⟩⟩⟩
    cases s with
    | true => exact bool_true (pure_ok oO22ok mixed Try.func8 h2 hc rfl) (decide_eq_true (dec_len2 p true))
    | false => exact bool_true (pure_ok oO22ok mixed Try.func8 h3 hc rfl) (decide_eq_true (dec_len2 p false))
theorem codecBack2_walk : LawWalk Try.prog 8 Try.f8 := walk_of fun H enc us W base ds ps hv hA => by
  have hp : Try.f8.params.toList = [42, 4] := by kernel_rfl
  have hp' : Try.f8.params = #[42, 4] := by kernel_rfl
  rw [hp] at hA
  rw [hp'] at hv
  obtain ⟨v1, us1, d1, ds1, p1, q1, rfl, rfl, t1, hA⟩ := args_cons hA
  obtain ⟨v2, us2, d2, ds2, p2, q2, rfl, rfl, t2, hA⟩ := args_cons hA
  obtain rfl := args0 hA rfl
  obtain ⟨r, r1⟩ := g2_arg (hv 0 _ v1 rfl rfl) t1
  obtain ⟨s, r2⟩ := bool_arg (hv 1 _ v2 rfl rfl) t2
  exact ⟨[va P2 r, .val false [.b s]], ⟨v1, _, r1 _, ⟨v2, _, r2 _, rfl, rfl⟩, rfl⟩, back2_ok r s⟩
end
/- CodecBytes2 -/
noncomputable def bzC (s : Bool) (n m : Nat) (xs : List Int) (q : P2) (d : Bool × Bool) : List (Bool × Bool) := (Nat.ble n xs.length, true) :: (Nat.ble n m, true) :: (hasB .i64 n, true) :: d :: (in2 (pR2 q), true) :: (Nat.ble (48 * kT s) (e2L s (pR2 q)).length, true) :: (Nat.ble (0 + n) xs.length, true) :: (true, true) :: (hasB .i64 n, true) ::
  (smB (W2 s (pR2 q)) (win xs 0 n), true) :: (in2 (pR2 q), true) :: []
section
variable (n m : Nat) (xs : List Int)
noncomputable def bzS (s : Bool) (p : List Bool) : ASt := entry Try.f9 (dcA n m s) (byH xs) 1 p
theorem bytes2_e (s : Bool) : segOut Try.prog oO22 Try.f9 800 1 [] (bzS n m xs s [true, true, true]) = some ([(Nat.ble n xs.length, true), (Nat.ble n m, true), (hasB .i64 n, true), (!decide ((dec2 s (win xs 0 n)).2 = 0), true)], [], boolA (eqQ (dec2 s (win xs 0 n)).1 (.pt 0 0)), []) := by cases s <;> kernel_rfl
theorem bytes2_t : segOut Try.prog oO22 Try.f9 800 1 [] (bzS n m xs true [false, false, true, true, true, true, true, true, true, true]) = some (bzC true n m xs (dec2 true (win xs 0 n)).1 (!decide ((dec2 true (win xs 0 n)).2 = 0), false), [], boolA (eqQ (pR2 (dec2 true (win xs 0 n)).1) (dec2 true (win xs 0 n)).1), []) := by kernel_rfl
theorem bytes2_f : segOut Try.prog oO22 Try.f9 800 1 [] (bzS n m xs false [false, false, true, true, true, true, true, true, true, true]) = some (bzC false n m xs (dec2 false (win xs 0 n)).1 (!decide ((dec2 false (win xs 0 n)).2 = 0), false), [], boolA (eqQ (pR2 (dec2 false (win xs 0 n)).1) (dec2 false (win xs 0 n)).1), []) := by kernel_rfl
theorem bytes2_ok {n m : Nat} {xs : List Int} (hx : ∀ d ∈ xs, 0 ≤ d ∧ d < 256) (hl : n ≤ xs.length) (hm : n ≤ m) (hn : hasB .i64 n = true) (s : Bool) : CanOk Try.prog 9 (dcA n m s) (byH xs) 1 [] (boolA true) [] := by
  have h1 := bytes2_e n m xs s
  have h2 := bytes2_t n m xs
  have h3 := bytes2_f n m xs
  have b1 := Nat.ble_eq_true_of_le hl
  have b2 := Nat.ble_eq_true_of_le hm
  by_cases he : (dec2 s (win xs 0 n)).2 = 0
  · obtain ⟨q1, q2⟩ := enc_dec2 (win_has hx) he
    have hc : okConds (bzC s n m xs (dec2 s (win xs 0 n)).1 (!decide ((dec2 s (win xs 0 n)).2 = 0), false)) := by
      unfold bzC
      rw [pR2_eq']
      exact ⟨b1, b2, hn, e0_false he, q1, by rw [e2L_len]; cases s <;> rfl, by rw [Nat.zero_add]; exact b1, rfl, hn, smB_of q2, q1, trivial⟩
    cases s with
    | true => exact can_bool (can_run SO22ok KHok Try.func9 (by kernel_rfl) (by kernel_rfl) h2 (by kernel_rfl) hc) (eqQ_of (pR2_eq' _))
    | false => exact can_bool (can_run SO22ok KHok Try.func9 (by kernel_rfl) (by kernel_rfl) h3 (by kernel_rfl) hc) (eqQ_of (pR2_eq' _))
  · exact can_bool (can_run SO22ok KHok Try.func9 (by kernel_rfl) (by kernel_rfl) h1 (by kernel_rfl) ⟨b1, b2, hn, e0_true he, trivial⟩) (eqQ_of (dec2_zero he))
end
theorem codecBytes2_walk : LawWalk Try.prog 9 Try.f9 := walk_can fun H enc us W base ds ps hv hA => by
  have hp : Try.f9.params.toList = [28, 4] := by kernel_rfl
  have hp' : Try.f9.params = #[28, 4] := by kernel_rfl
  rw [hp] at hA
  rw [hp'] at hv
  obtain ⟨v1, us1, d1, ds1, p1, q1, rfl, rfl, t1, hA⟩ := args_cons hA
  obtain ⟨v2, us2, d2, ds2, p2, q2, rfl, rfl, t2, hA⟩ := args_cons hA
  obtain rfl := args0 hA rfl
  obtain ⟨L, zs, n, m, h1, h2, h3, h4, h5, h6⟩ := bytes_arg_m (hv 0 _ v1 rfl rfl) t1 (ArgsOk.nil W)
  obtain ⟨s, r2⟩ := bool_arg (hv 1 _ v2 rfl rfl) t2
  exact ⟨_, _, dcA n m s, h6, ⟨v1, _, h5, ⟨v2, _, r2 _, rfl, rfl⟩, rfl⟩, bytes2_ok h1 h2 h3 h4 s⟩
end Go.Proofs.Ytahkeahbfmneaaa
