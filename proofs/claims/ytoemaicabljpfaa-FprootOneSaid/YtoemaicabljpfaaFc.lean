/- The contract of fp.Reduce. -/
import Derived.Test.YtoemaicabljpfaaFb
namespace Go.Proofs.Ytoemaicabljpfaa
open Ex
set_option maxRecDepth 100000
def todoOf (x : Option (List (Bool × Bool) × List Nat × ASt)) : List Item := match x with | some (_, _, y) => y.todo | none => []
def zero6 : List Ch := [.n .u64 0, .n .u64 0, .n .u64 0, .n .u64 0, .n .u64 0, .n .u64 0]
noncomputable def redTodo : List Item := todoOf (aSeg Try.prog (orc S2 K0) (some 0) 100 0 (some ([1, 2], [0, 1], 2)) (entry Try.f29 [.val true [.num 6 0]] [] 0 []))
noncomputable def redS (x : Nat) (path : List Bool) : ASt := ⟨redTodo, ⟨[.any, .val false [.p 0 0], .val false [.p 1 0], .any, .any, .any, .any, .any, .any, .any, .any],
  [(0, some ⟨24, [.num 6 x], false⟩), (1, some ⟨24, zero6, false⟩)], 2, path⟩⟩
theorem red_entry (x : Nat) : aSeg Try.prog (orc S2 K0) (some 0) 100 0 (some ([1, 2], [0, 1], 2)) (entry Try.f29 [.val true [.num 6 x]] [] 0 []) = some ([], [], redS x []) := by kernel_rfl
theorem red_step (x : Nat) : aSeg Try.prog (orc S2 K0) (some 0) 100 0 (some ([1, 2], [0, 1], 2)) (redS x [false]) = some ([(decide (lessN x 0 = x), false)], [], redS (lessN x 0) []) := by kernel_rfl
theorem red_exit (x : Nat) : segRet Try.prog (orc S2 K0) Try.f29 100 0 (redS x [true]) = some ([(decide (lessN x 0 = x), true)], [], .val true [.num 6 x]) := by kernel_rfl
theorem red_wf (x : Nat) (p : List Bool) : wfSt 11 (redS x p).s := wfB_ok (by kernel_rfl)
theorem lessN_lt {x : Nat} (h : x < pN) : lessN x 0 = x := if_pos ⟨h, rfl⟩
theorem lessN_ge {x : Nat} (h : pN ≤ x) (hx : x < RR) : lessN x 0 = x - pN := by
  unfold lessN
  rw [if_neg (by omega)]
  have : pN ≤ RR := by decide
  rw [show x + (RR - pN) = (x - pN) + RR by omega, Nat.add_mod_right, Nat.mod_eq_of_lt (by omega)]
theorem pN_pos : 0 < pN := by decide
theorem red_safe (w0 : World) (v : Nat) : ∀ (x : Nat), x < RR → x % pN = v → ASafe Try.prog 29 noEnv w0 (PureOut w0 (.val true [.num 6 v])) 11 [] (redS x []) := by
  intro x
  induction x using Nat.strongRecOn with
  | _ x ih =>
    intro hx hv
    rcases Nat.lt_or_ge x pN with hlt | hge
    · rw [Nat.mod_eq_of_lt hlt] at hv
      subst hv
      exact path_safe [true] (ret_safe (orc_ok S2ok K0ok) mixed Try.func29 (red_exit x) ⟨by simp [lessN_lt hlt], trivial⟩ (red_wf x _) (fun _ _ => rfl) rfl)
    · have hp := pN_pos
      refine path_safe [false] (seg_safe (orc_ok S2ok K0ok) mixed (red_step x) ⟨by simp [lessN_ge hge hx]; omega, trivial⟩ (red_wf x _) (fun _ _ => rfl) (fun _ h => by cases h) fun _ => ?_)
      rw [lessN_ge hge hx]
      exact ih (x - pN) (by omega) (by omega) (by rw [← hv, ← Nat.mod_eq_sub_mod hge])
def redSp : List AV → Option AV
  | [.val true a] => match asNum 6 a with
    | some x => some (.val true [.num 6 (x % pN)])
    | none => none
  | _ => none
theorem red_ok : ∀ args v, redSp args = some v → PureOk Try.prog 29 args v := by
  intro args v h us w ha
  unfold redSp at h
  split at h
  case h_2 => cases h
  rename_i a
  split at h
  case h_2 => cases h
  rename_i x hx
  injection h with h; subst h
  obtain ⟨u1, us1, r1, ha, rfl⟩ := ha
  simp only [relAs] at ha
  subst ha
  obtain ⟨q0, q1, hlt⟩ := normN hx r1
  rw [← RR_eq] at hlt
  exact pure_entry (args := [.val true [.num 6 x]]) (path := []) Try.func29 (by kernel_rfl) (by kernel_rfl) (fun w0 => seg_safe (orc_ok S2ok K0ok) mixed (red_entry x) trivial (wfB_ok (by kernel_rfl)) (fun _ _ => rfl) (fun _ h => by cases h) fun _ => red_safe w0 _ x hlt rfl) _ w ⟨u1, _, q0, rfl, rfl⟩
def S3 : List (FuncId × ASpec) := (29, pureSpec redSp) :: S2
theorem S3ok : SpecsOk Try.prog S3 := ⟨pureSpec_ok Try.func29 (by kernel_rfl) (by kernel_rfl) red_ok, S2ok⟩
end Go.Proofs.Ytoemaicabljpfaa
