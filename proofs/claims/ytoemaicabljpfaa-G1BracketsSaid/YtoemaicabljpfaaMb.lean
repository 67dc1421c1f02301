/- sigillaw12: G1Brackets: the walk. -/
import Derived.Test.YtoemaicabljpfaaMa
import Derived.Test.YtoemaicabljpfaaLv
namespace Go.Proofs.Ytoemaicabljpfaa
open Ex Num Rg
set_option maxRecDepth 100000

noncomputable def pA (k : Nat) (t : Bool) : Pt FP := poN (k : Int).toNat t
theorem pA_eq (k : Nat) (t : Bool) : pA k t = poN k t := by unfold pA; rw [Int.toNat_natCast]
theorem g1Brackets_run (a b c : Nat) : pureRun Try.prog (orc SP12 KG) Try.f20 [uA a, uA b, uA c] [true, true] 500 =
  some (tt 13 [(eqP (add (toPt' (add (toPt' (pA a false)) (toPt' (pA b false)))) (toPt' (pA c true))) (add (toPt' (pA a false)) (toPt' (add (toPt' (pA b false)) (toPt' (pA c true))))), true),
    (eqP (add (toPt' (pA a false)) (toPt' (pA b false))) (mulP (natL (win (feL a b) 0 2)) (toPt' G1B)), true)], boolA (decide (mulE (toPt' G1B) = 0))) := by kernel_rfl
theorem on_poN (k : Nat) (t : Bool) : Rg.On C1.b (poN k t) := by
  have h := on_smul C1 ((onP_iff G1B).1 on_G1B) k
  unfold poN
  cases t with
  | true => rw [if_pos rfl]; exact on_negP C1 h
  | false => rw [if_neg Bool.false_ne_true]; exact h
theorem poN_f (k : Nat) : poN k false = smul k G1B := if_neg Bool.false_ne_true
theorem g1Brackets_walk : LawWalk Try.prog 20 Try.f20 := walk_of fun H enc us W base ds ps hv hA => by
  have hp : Try.f20.params.toList = [22, 22, 22] := by kernel_rfl
  have hp' : Try.f20.params = #[22, 22, 22] := by kernel_rfl
  rw [hp] at hA
  rw [hp'] at hv
  obtain ⟨v1, us1, d1, ds1, p1, q1, rfl, rfl, t1, hA⟩ := args_cons hA
  obtain ⟨v2, us2, d2, ds2, p2, q2, rfl, rfl, t2, hA⟩ := args_cons hA
  obtain ⟨v3, us3, d3, ds3, p3, q3, rfl, rfl, t3, hA⟩ := args_cons hA
  obtain rfl := args0 hA rfl
  obtain ⟨a, ha, r1⟩ := u64_arg (hv 0 _ v1 rfl rfl) t1
  obtain ⟨b, hb, r2⟩ := u64_arg (hv 1 _ v2 rfl rfl) t2
  obtain ⟨c, hc, r3⟩ := u64_arg (hv 2 _ v3 rfl rfl) t3
  refine ⟨[uA a, uA b, uA c], ⟨v1, _, r1 _, ⟨v2, _, r2 _, ⟨v3, _, r3 _, rfl, rfl⟩, rfl⟩, rfl⟩, ?_⟩
  have hrun := g1Brackets_run a b c
  simp only [toPt'_eq, pA_eq] at hrun
  refine bool_true (pure_ok (orc_ok SP12ok KGok) mixed Try.func20 hrun (tt_ok 13 ⟨eqP_of ?_, eqP_of ?_, trivial⟩) rfl) ?_
  · exact add_assoc' C1 (on_poN a false) (on_poN b false) (on_poN c true)
  · unfold mulP
    rw [if_pos on_G1B, feL_eq ha hb, poN_f, poN_f]
    exact (smul_add C1 ((onP_iff G1B).1 on_G1B) a b).symm
  · unfold mulE; rw [if_pos on_G1B]; exact decide_eq_true rfl
end Go.Proofs.Ytoemaicabljpfaa
