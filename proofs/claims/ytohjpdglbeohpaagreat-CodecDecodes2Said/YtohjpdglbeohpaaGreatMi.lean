/- sigillaw20: CodecDecodes1, CodecDecodes2: the walks. -/
import Derived.Test.YtohjpdglbeohpaaGreatPG
import Derived.Test.YtohjpdglbeohpaaGreatPF
import Derived.Test.YtohjpdglbeohpaaGreatPE
namespace Go.Proofs.YtohjpdglbeohpaaGreat
open Ex Num Rg
open Sh (R av rd mo en mo_en)
set_option maxRecDepth 100000
set_option maxHeartbeats 4000000

noncomputable def SO24 : List (FuncId × ASpec) := (7, pureSpec yes12) :: SQg
theorem SO24ok : SpecsOk Tryz.prog SO24 := ⟨pureSpec_ok Tryz.func7 (by kernel_rfl) (by kernel_rfl) (sp0_ok aw20_ok fun u h => h), SQgok⟩
noncomputable abbrev oO24 : Orc := orc SO24 KQ
theorem oO24ok : OrcOk Tryz.prog oO24 := orc_ok SO24ok KQok
def xdC (n m : Nat) (xs : List Int) (r : List (Bool × Bool)) : List (Bool × Bool) := (Nat.ble n xs.length, true) :: (Nat.ble n m, true) :: (hasB .i64 n, true) :: (Nat.ble n xs.length, true) :: (Nat.ble n m, true) :: (hasB .i64 n, true) :: r
noncomputable def eqS' (r t : R P2) : Bool := dq r.1.1 t.1.1 && (dq r.1.2 t.1.2 && (dq r.2.1.1 t.2.1.1 && (dq r.2.1.2 t.2.1.2 && (r.2.2 == t.2.2))))
noncomputable def eqQ' (p q : P2) : Bool := eqS' (en p) (en q)
theorem eqQ_rfl' (p : P2) : eqQ' p p = true := by
  unfold eqQ' eqS' dq
  rw [decide_eq_true rfl, decide_eq_true rfl, decide_eq_true rfl, decide_eq_true rfl]
  cases (en p : R P2).2.2 <;> rfl
section
variable (n m : Nat) (xs : List Int)
theorem xd1_run (s : Bool) : segOut Tryz.prog oO24 Tryz.f4 800 1 [] (entry Tryz.f4 (dcA n m s) (byH xs) 1 [true, true, true, true]) = some (xdC n m xs [(eqP (dec1 s (win xs 0 n)).1 (dec1 s (win xs 0 n)).1, true)], [], boolA (decide ((dec1 s (win xs 0 n)).2 = (dec1 s (win xs 0 n)).2)), []) := by cases s <;> kernel_rfl
theorem xd2_run (s : Bool) : segOut Tryz.prog oO24 Tryz.f6 800 1 [] (entry Tryz.f6 (dcA n m s) (byH xs) 1 [true, true, true, true]) = some (xdC n m xs [(eqQ' (dec2 s (win xs 0 n)).1 (dec2 s (win xs 0 n)).1, true)], [], boolA (decide ((dec2 s (win xs 0 n)).2 = (dec2 s (win xs 0 n)).2)), []) := by cases s <;> kernel_rfl
end
theorem xd1_ok {n m : Nat} {xs : List Int} (hl : n ≤ xs.length) (hm : n ≤ m) (hn : hasB .i64 n = true) (s : Bool) : CanOk Tryz.prog 4 (dcA n m s) (byH xs) 1 [] (boolA true) [] :=
  can_bool (can_run SO24ok KQok Tryz.func4 (by kernel_rfl) (by kernel_rfl) (xd1_run n m xs s) (by kernel_rfl) ⟨Nat.ble_eq_true_of_le hl, Nat.ble_eq_true_of_le hm, hn, Nat.ble_eq_true_of_le hl, Nat.ble_eq_true_of_le hm, hn, eqP_rfl _, trivial⟩) (decide_eq_true rfl)
theorem xd2_ok {n m : Nat} {xs : List Int} (hl : n ≤ xs.length) (hm : n ≤ m) (hn : hasB .i64 n = true) (s : Bool) : CanOk Tryz.prog 6 (dcA n m s) (byH xs) 1 [] (boolA true) [] :=
  can_bool (can_run SO24ok KQok Tryz.func6 (by kernel_rfl) (by kernel_rfl) (xd2_run n m xs s) (by kernel_rfl) ⟨Nat.ble_eq_true_of_le hl, Nat.ble_eq_true_of_le hm, hn, Nat.ble_eq_true_of_le hl, Nat.ble_eq_true_of_le hm, hn, eqQ_rfl' _, trivial⟩) (decide_eq_true rfl)
theorem codecDecodes1_walk : LawWalk Tryz.prog 4 Tryz.f4 := walk_can fun H enc us W base ds ps hv hA => by
  have hp : Tryz.f4.params.toList = [28, 4] := by kernel_rfl
  have hp' : Tryz.f4.params = #[28, 4] := by kernel_rfl
  rw [hp] at hA
  rw [hp'] at hv
  obtain ⟨v1, us1, d1, ds1, p1, q1, rfl, rfl, t1, hA⟩ := args_cons hA
  obtain ⟨v2, us2, d2, ds2, p2, q2, rfl, rfl, t2, hA⟩ := args_cons hA
  obtain rfl := args0 hA rfl
  obtain ⟨L, zs, n, m, h1, h2, h3, h4, h5, h6⟩ := bytes_arg_m (hv 0 _ v1 rfl rfl) t1 (ArgsOk.nil W)
  obtain ⟨s, r2⟩ := bool_arg (hv 1 _ v2 rfl rfl) t2
  exact ⟨_, _, dcA n m s, h6, ⟨v1, _, h5, ⟨v2, _, r2 _, rfl, rfl⟩, rfl⟩, xd1_ok h2 h3 h4 s⟩
theorem codecDecodes2_walk : LawWalk Tryz.prog 6 Tryz.f6 := walk_can fun H enc us W base ds ps hv hA => by
  have hp : Tryz.f6.params.toList = [28, 4] := by kernel_rfl
  have hp' : Tryz.f6.params = #[28, 4] := by kernel_rfl
  rw [hp] at hA
  rw [hp'] at hv
  obtain ⟨v1, us1, d1, ds1, p1, q1, rfl, rfl, t1, hA⟩ := args_cons hA
  obtain ⟨v2, us2, d2, ds2, p2, q2, rfl, rfl, t2, hA⟩ := args_cons hA
  obtain rfl := args0 hA rfl
  obtain ⟨L, zs, n, m, h1, h2, h3, h4, h5, h6⟩ := bytes_arg_m (hv 0 _ v1 rfl rfl) t1 (ArgsOk.nil W)
  obtain ⟨s, r2⟩ := bool_arg (hv 1 _ v2 rfl rfl) t2
  exact ⟨_, _, dcA n m s, h6, ⟨v1, _, h5, ⟨v2, _, r2 _, rfl, rfl⟩, rfl⟩, xd2_ok h2 h3 h4 s⟩
end Go.Proofs.YtohjpdglbeohpaaGreat
