/- limb.carried with limb.Add's step: its contract. -/
import Derived.Test.YtoemaicabljpfaaFm
namespace Go.Proofs.Ytoemaicabljpfaa
open Ex
set_option maxRecDepth 100000

def outL (S L i : Nat) : List Int := (List.range i).map (wordN S) ++ List.replicate (L - i) 0
theorem outL_length {S L i : Nat} (h : i ≤ L) : (outL S L i).length = L := by simp [outL]; omega
theorem outL_set {S L i : Nat} (h : i < L) : (outL S L i).set i (wordN S i) = outL S L (i + 1) := by
  unfold outL
  rw [List.set_append_right _ _ (by simp), List.length_map, List.length_range, Nat.sub_self, show L - i = (L - (i + 1)) + 1 by omega, List.replicate_succ, List.set_cons_zero, List.range_succ, List.map_append, List.append_assoc]
  rfl
theorem outL_zero (S L : Nat) : outL S L 0 = List.replicate L 0 := by simp [outL]
theorem atV_word {xs : List Int} {off n : Nat} (h : ∀ d ∈ xs, 0 ≤ d ∧ d < 18446744073709551616) (i : Nat) : atV xs off n i = ((natL (win xs off n) / 2 ^ (64 * i) % 18446744073709551616 : Nat) : Int) := by
  have := natL_word (win xs off n) i (win_has h)
  have hb := getD_bd (win_has (off := off) (n := n) h) i
  unfold atV
  rw [Int.toNat_natCast]
  have e : (2 : Nat) ^ 64 = 18446744073709551616 := rfl
  rw [e] at this
  omega
theorem add_word (A B i : Nat) : sumW ((A / 2 ^ (64 * i) % 18446744073709551616 : Nat) : Int) ((B / 2 ^ (64 * i) % 18446744073709551616 : Nat) : Int) (cyN A B i) = wordN (A + B) i ∧
    carW ((A / 2 ^ (64 * i) % 18446744073709551616 : Nat) : Int) ((B / 2 ^ (64 * i) % 18446744073709551616 : Nat) : Int) (cyN A B i) = cyN A B (i + 1) := by
  have h := cyN_step A B i
  unfold sumW carW wordN
  have e : (2 : Nat) ^ 64 = 18446744073709551616 := rfl
  rw [e]
  constructor <;> omega
theorem maxN_eq (n n' : Nat) : maxN n n' = max n n' := by unfold maxN maxI; split <;> omega
section
variable {same : Bool} {ty off n m ty' off' n' m' : Nat} {xs xs' : List Int} {o o' : Bool} (hx : ∀ d ∈ xs, 0 ≤ d ∧ d < 18446744073709551616) (hy : ∀ d ∈ secB same xs xs', 0 ≤ d ∧ d < 18446744073709551616) (hl : off + n ≤ xs.length) (hl' : off' + n' ≤ (secB same xs xs').length)
  (hn : hasB .i64 n = true) (hn' : hasB .i64 n' = true) {β0 : Env} {w0 : World} (hb : ∀ b, 2 ≤ b → β0 b = none)
def addS (xs : List Int) (off n : Nat) (ys : List Int) (off' n' : Nat) : Nat := natL (win xs off n) + natL (win ys off' n')
def addC (xs : List Int) (off n : Nat) (ys : List Int) (off' n' : Nat) (i : Nat) : Nat := cyN (natL (win xs off n)) (natL (win ys off' n')) i
include hx hy hl hl' hn hn' hb
theorem car_safe : ∀ r i, i + r = max n n' →
    ASafe Try.prog 84 β0 w0 (Outs β0 w0 [] (.tup [(false, [.sl 2 0 (max n n') (max n n')]), (false, [.v (.int .u64 (addC xs off n (secB same xs xs') off' n' (max n n')))])]) (carH (outL (addS xs off n (secB same xs xs') off' n') (max n n') (max n n')))) Try.f84.ntmps []
      (carS same ty off n m ty' off' n' m' xs xs' o o' (max n n') (outL (addS xs off n (secB same xs xs') off' n') (max n n') i) (.v (.int .u64 (addC xs off n (secB same xs xs') off' n' i))) i []) := by
  have bn : n ≤ 9223372036854775807 := by simp only [hasB, Bool.and_eq_true, decide_eq_true_eq] at hn; omega
  have bn' : n' ≤ 9223372036854775807 := by simp only [hasB, Bool.and_eq_true, decide_eq_true_eq] at hn'; omega
  intro r
  induction r with
  | zero =>
    intro i hi
    obtain rfl : i = max n n' := by omega
    refine path_safe [false] (out_safe (orc_ok S16ok K0ok) mixed Try.func84 (car_exit ..) ⟨by simp, trivial⟩ (wfB_ok (by cases same <;> kernel_rfl)) hb (fun _ h => by cases h))
  | succ r ih =>
    intro i hi
    have ea := atV_word (off := off) (n := n) hx i
    have eb := atV_word (off := off') (n := n') hy i
    obtain ⟨w1, w2⟩ := add_word (natL (win xs off n)) (natL (win (secB same xs xs') off' n')) i
    have hc1 := cyN_le (natL (win xs off n)) (natL (win (secB same xs xs') off' n')) i
    have hL : (outL (addS xs off n (secB same xs xs') off' n') (max n n') i).length = max n n' := outL_length (by omega)
    refine path_safe [true] (seg_safe (orc_ok S16ok K0ok) mixed (car_step ..) ?_ (wfB_ok (by cases same <;> kernel_rfl)) hb (fun _ h => by cases h) fun _ => ?_)
    · refine ⟨by simp; omega, Nat.ble_eq_true_of_le hl, hn, by simp, Nat.ble_eq_true_of_le hl', hn', by simp, ?_, by simp; omega, ?_, trivial⟩
      · unfold is01 addC; simp only [decide_eq_true_eq]; omega
      · rw [hL]; simp; omega
    · rw [ea, eb]
      unfold addC
      rw [w1, w2, wI_eq (z := (i : Int) + 1) (by omega), show 0 + (i : Int).toNat * 1 = i by omega]
      show ASafe _ _ _ _ _ _ _ (carS _ _ _ _ _ _ _ _ _ _ _ _ _ _ ((outL (natL (win xs off n) + natL (win (secB same xs xs') off' n')) (max n n') i).set i _) _ _ _)
      rw [outL_set (by omega)]
      have := ih (i + 1) (by omega)
      exact this
end
theorem car_can {same : Bool} {ty off n m ty' off' n' m' : Nat} {xs xs' : List Int} {o o' : Bool} (hx : ∀ d ∈ xs, 0 ≤ d ∧ d < 18446744073709551616) (hy : ∀ d ∈ secB same xs xs', 0 ≤ d ∧ d < 18446744073709551616) (hl : off + n ≤ xs.length) (hl' : off' + n' ≤ (secB same xs xs').length)
    (hn : hasB .i64 n = true) (hn' : hasB .i64 n' = true) (hbig : n ≤ 35184372088832 ∧ n' ≤ 35184372088832) :
    CanOk Try.prog 84 (carA same off n m off' n' m') (seqHB same ty xs o ty' xs' o') 2 [] (.tup [(false, [.sl 2 0 (max n n') (max n n')]), (false, [.v (.int .u64 (addC xs off n (secB same xs xs') off' n' (max n n')))])]) (carH (outL (addS xs off n (secB same xs xs') off' n') (max n n') (max n n'))) := by
  refine can_entry (path := []) Try.func84 (by kernel_rfl) (by kernel_rfl) fun β0 w0 hb => ?_
  have hmI : maxI (n : Int) n' = ((max n n' : Nat) : Int) := by unfold maxI; split <;> omega
  refine seg_safe (orc_ok S16ok K0ok) mixed (car_entry same ty off n m ty' off' n' m' xs xs' o o') ⟨hn, hn', ?_, ?_, trivial⟩ (wfB_ok (by cases same <;> kernel_rfl)) hb (fun _ h => by cases h) fun _ => ?_
  · rw [hmI]; simp only [decide_eq_true_eq]; omega
  · rw [maxN_eq]; simp only [hasB, Bool.and_eq_true, decide_eq_true_eq]; omega
  · refine nv_safe ?_
    have h := car_safe (ty := ty) (m := m) (ty' := ty') (m' := m') (o := o) (o' := o') (w0 := w0) hx hy hl hl' hn hn' hb (max n n') 0 (by omega)
    rw [outL_zero] at h
    have e0 : addC xs off n (secB same xs xs') off' n' 0 = 0 := by unfold addC cyN; simp [Nat.mod_one]
    rw [e0] at h
    have e1 : List.map nvA (car0 same off n m off' n' m') = carT same off n m off' n' m' (max n n') (.v (.int .u64 ((0 : Nat) : Int))) ((0 : Nat) : Int) := by
      unfold car0 carT
      rw [maxN_eq]
      rfl
    rw [e1, maxN_eq]
    exact h
end Go.Proofs.Ytoemaicabljpfaa
