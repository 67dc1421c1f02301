/- The contract of limb.Cmp. -/
import Derived.Test.YtoemaicabljpfaaFh
namespace Go.Proofs.Ytoemaicabljpfaa
open Ex
set_option maxRecDepth 100000

def seqH2 (ty : Nat) (xs : List Int) (o : Bool) (ty' : Nat) (ys : List Int) (o' : Bool) : Heap := [(0, some ⟨ty, [.seq .u64 xs], o⟩), (1, some ⟨ty', [.seq .u64 ys], o'⟩)]
def sl2 (off n m off' n' m' : Nat) : List AV := [.val false [.sl 0 off n m], .val false [.sl 1 off' n' m']]
noncomputable def cmpTodo : List Item := todoOf (aSeg Try.prog (orc S10 K0) (some 0) 100 2 none (entry Try.f36 (sl2 0 0 0 0 0 0) (seqH2 0 [] false 0 [] false) 2 []))
noncomputable def cmpT (off n m off' n' m' : Nat) (i : Int) : List AV := .val false [.sl 0 off n m] :: .val false [.sl 1 off' n' m'] :: .any :: .any :: .val false [.n .i64 0] :: .val false [.v (.int .i64 i)] :: List.replicate (Try.f36.ntmps - 6) .any
section
variable (ty off n m ty' off' n' m' : Nat) (xs ys : List Int) (o o' : Bool)
noncomputable def cmpS (i : Int) (p : List Bool) : ASt := ⟨cmpTodo, ⟨cmpT off n m off' n' m' i, seqH2 ty xs o ty' ys o', 2, p⟩⟩
def maxI (a b : Int) : Int := if b > a then b else a
theorem cmp_entry : aSeg Try.prog (orc S10 K0) (some 0) 100 2 (some ([0, 1, 4, 5], [0, 1], 2)) (entry Try.f36 (sl2 off n m off' n' m') (seqH2 ty xs o ty' ys o') 2 []) =
  some ([(hasB .i64 n, true), (hasB .i64 n', true)], [], cmpS ty off n m ty' off' n' m' xs ys o o' (wI (maxI n n' - 1)) []) := by kernel_rfl
def cmpC (i : Int) (r : List (Bool × Bool)) : List (Bool × Bool) := (decide (0 ≤ i), true) :: (Nat.ble (off + n) xs.length, true) :: (hasB .i64 n, true) :: (decide (0 ≤ i), true) :: (Nat.ble (off' + n') ys.length, true) :: (hasB .i64 n', true) :: (decide (0 ≤ i), true) :: r
theorem cmp_same (i : Int) : aSeg Try.prog (orc S10 K0) (some 0) 100 2 (some ([0, 1, 4, 5], [0, 1], 2)) (cmpS ty off n m ty' off' n' m' xs ys o o' i [true, true]) =
  some (cmpC off n off' n' xs ys i [(decide (atV xs off n i = atV ys off' n' i), true)], [], cmpS ty off n m ty' off' n' m' xs ys o o' (wI (i - 1)) []) := by kernel_rfl
theorem cmp_lt (i : Int) : segOut Try.prog (orc S10 K0) Try.f36 100 2 [] (cmpS ty off n m ty' off' n' m' xs ys o o' i [true, false, true]) =
  some (cmpC off n off' n' xs ys i [(decide (atV xs off n i = atV ys off' n' i), false), (decide (atV xs off n i < atV ys off' n' i), true)], [], .val false [.n .i64 (-1)], []) := by kernel_rfl
theorem cmp_gt (i : Int) : segOut Try.prog (orc S10 K0) Try.f36 100 2 [] (cmpS ty off n m ty' off' n' m' xs ys o o' i [true, false, false]) =
  some (cmpC off n off' n' xs ys i [(decide (atV xs off n i = atV ys off' n' i), false), (decide (atV xs off n i < atV ys off' n' i), false)], [], .val false [.n .i64 1], []) := by kernel_rfl
theorem cmp_end (i : Int) : segOut Try.prog (orc S10 K0) Try.f36 100 2 [] (cmpS ty off n m ty' off' n' m' xs ys o o' i [false]) =
  some ([(decide (0 ≤ i), false)], [], .val false [.n .i64 0], []) := by kernel_rfl
theorem cmp_wf (i : Int) (p : List Bool) : wfSt Try.f36.ntmps (cmpS ty off n m ty' off' n' m' xs ys o o' i p).s := wfB_ok (by kernel_rfl)
end
theorem asafe_val {P : Program} {f : FuncId} {β0 : Env} {w0 : World} {W W' : List Nat} {v v' : AV} {H : Heap} {n : Nat} {x : ASt} (h : ASafe P f β0 w0 (Outs β0 w0 W v H) n W' x) (hv : ∀ β u, relA β v u → relA β v' u) : ASafe P f β0 w0 (Outs β0 w0 W v' H) n W' x := by
  intro β a w hi hf b cs q1 q2
  obtain ⟨e', w', fr, ⟨u, β', q5, q6⟩, q4⟩ := h β a w hi hf b cs q1 q2
  exact ⟨e', w', fr, ⟨u, β', q5, { q6 with val := hv _ _ q6.val }⟩, q4⟩
theorem ltdiv {x y Q : Nat} (h : x / Q < y / Q) : x < y := Nat.lt_of_not_le fun hle => absurd (Nat.div_le_div_right (c := Q) hle) (by omega)
def cmpI (x y : Nat) : Int := if x < y then -1 else if y < x then 1 else 0
theorem natL_split {ws : List Int} (h : ∀ d ∈ ws, 0 ≤ d ∧ d < 18446744073709551616) (c : Nat) : natL ws / 2 ^ (64 * c) = (ws.getD c 0).toNat + 18446744073709551616 * (natL ws / 2 ^ (64 * (c + 1))) := by
  rw [← natL_word ws c h, show 64 * (c + 1) = 64 * c + 64 by omega, Nat.pow_add, ← Nat.div_div_eq_div_mul]
  omega
theorem getD_bd {ws : List Int} (h : ∀ d ∈ ws, 0 ≤ d ∧ d < 18446744073709551616) (c : Nat) : 0 ≤ ws.getD c 0 ∧ ws.getD c 0 < 18446744073709551616 := by
  rw [List.getD_eq_getElem?_getD]
  cases h' : ws[c]? with
  | none => simp
  | some d => exact h d (List.mem_of_getElem? h')
theorem nval {β : Env} {k : IntKind} {i j : Int} {u : Value} (e : i = j) (h : relA β (.val false [.n k i]) u) : relA β (.val false [.v (.int k j)]) u := by subst e; exact nv_val h
section
variable {ty off n m ty' off' n' m' : Nat} {xs ys : List Int} {o o' : Bool} (hx : ∀ d ∈ xs, 0 ≤ d ∧ d < 18446744073709551616) (hy : ∀ d ∈ ys, 0 ≤ d ∧ d < 18446744073709551616) (hl : off + n ≤ xs.length) (hl' : off' + n' ≤ ys.length)
  (hn : hasB .i64 n = true) (hn' : hasB .i64 n' = true) {β0 : Env} {w0 : World} (hb : ∀ b, 2 ≤ b → β0 b = none)
include hx hy hl hl' hn hn' hb
theorem cmp_safe : ∀ c, c ≤ max n n' → natL (win xs off n) / 2 ^ (64 * c) = natL (win ys off' n') / 2 ^ (64 * c) →
    ASafe Try.prog 36 β0 w0 (Outs β0 w0 [] (.val false [.v (.int .i64 (cmpI (natL (win xs off n)) (natL (win ys off' n'))))]) []) Try.f36.ntmps [] (cmpS ty off n m ty' off' n' m' xs ys o o' ((c : Int) - 1) []) := by
  intro c
  induction c with
  | zero =>
    intro _ heq
    rw [Nat.mul_zero, Nat.pow_zero, Nat.div_one, Nat.div_one] at heq
    have h := out_safe (w0 := w0) (W := []) (n := Try.f36.ntmps) (orc_ok S10ok K0ok) mixed Try.func36 (cmp_end ty off n m ty' off' n' m' xs ys o o' (((0 : Nat) : Int) - 1)) ⟨rfl, trivial⟩ (cmp_wf ..) hb (fun _ h => by cases h)
    exact path_safe [false] (asafe_val h fun _ _ => nval (by unfold cmpI; rw [heq]; simp))
  | succ c ih =>
    intro hc heq
    have hi : ((c + 1 : Nat) : Int) - 1 = (c : Int) := by omega
    rw [hi]
    have bn : n ≤ 9223372036854775807 := by simp only [hasB, Bool.and_eq_true, decide_eq_true_eq] at hn; omega
    have bn' : n' ≤ 9223372036854775807 := by simp only [hasB, Bool.and_eq_true, decide_eq_true_eq] at hn'; omega
    have sx := natL_split (win_has (off := off) (n := n) hx) c
    have sy := natL_split (win_has (off := off') (n := n') hy) c
    have bx := getD_bd (win_has (off := off) (n := n) hx) c
    have byy := getD_bd (win_has (off := off') (n := n') hy) c
    have ex : atV xs off n c = (win xs off n).getD c 0 := by unfold atV; rw [Int.toNat_natCast]
    have ey : atV ys off' n' c = (win ys off' n').getD c 0 := by unfold atV; rw [Int.toNat_natCast]
    have hC : ∀ r, okConds r → okConds (cmpC off n off' n' xs ys c r) := fun r hr => ⟨by simp, Nat.ble_eq_true_of_le hl, hn, by simp, Nat.ble_eq_true_of_le hl', hn', by simp, hr⟩
    by_cases he : atV xs off n c = atV ys off' n' c
    · refine path_safe [true, true] (seg_safe (orc_ok S10ok K0ok) mixed (cmp_same ..) (hC _ ⟨by simp [he], trivial⟩) (cmp_wf ..) hb (fun _ h => by cases h) fun _ => ?_)
      rw [wI_eq (z := (c : Int) - 1) (by omega)]
      exact ih (by omega) (by rw [sx, sy, heq, ← ex, ← ey, he])
    · by_cases hlt : atV xs off n c < atV ys off' n' c
      · have h := out_safe (w0 := w0) (W := []) (n := Try.f36.ntmps) (orc_ok S10ok K0ok) mixed Try.func36 (cmp_lt ty off n m ty' off' n' m' xs ys o o' c) (hC _ ⟨by simp [he], by simp [hlt], trivial⟩) (cmp_wf ..) hb (fun _ h => by cases h)
        refine path_safe [true, false, true] (asafe_val h fun _ _ => nval ?_)
        have : natL (win xs off n) < natL (win ys off' n') := ltdiv (Q := 2 ^ (64 * c)) (by rw [sx, sy, heq]; omega)
        unfold cmpI; rw [if_pos this]
      · have h := out_safe (w0 := w0) (W := []) (n := Try.f36.ntmps) (orc_ok S10ok K0ok) mixed Try.func36 (cmp_gt ty off n m ty' off' n' m' xs ys o o' c) (hC _ ⟨by simp [he], by simp [hlt], trivial⟩) (cmp_wf ..) hb (fun _ h => by cases h)
        refine path_safe [true, false, false] (asafe_val h fun _ _ => nval ?_)
        have : natL (win ys off' n') < natL (win xs off n) := ltdiv (Q := 2 ^ (64 * c)) (by rw [sx, sy, heq]; omega)
        unfold cmpI; rw [if_neg (by omega), if_pos this]
end
theorem cmp_can {ty off n m ty' off' n' m' : Nat} {xs ys : List Int} {o o' : Bool} (hx : ∀ d ∈ xs, 0 ≤ d ∧ d < 18446744073709551616) (hy : ∀ d ∈ ys, 0 ≤ d ∧ d < 18446744073709551616) (hl : off + n ≤ xs.length) (hl' : off' + n' ≤ ys.length)
    (hn : hasB .i64 n = true) (hn' : hasB .i64 n' = true) : CanOk Try.prog 36 (sl2 off n m off' n' m') (seqH2 ty xs o ty' ys o') 2 [] (.val false [.v (.int .i64 (cmpI (natL (win xs off n)) (natL (win ys off' n'))))]) [] := by
  refine can_entry (path := []) Try.func36 (by kernel_rfl) (by kernel_rfl) fun β0 w0 hb => ?_
  refine seg_safe (orc_ok S10ok K0ok) mixed (cmp_entry ty off n m ty' off' n' m' xs ys o o') ⟨hn, hn', trivial⟩ (wfB_ok (by kernel_rfl)) hb (fun _ h => by cases h) fun _ => ?_
  have bn : n ≤ 9223372036854775807 := by simp only [hasB, Bool.and_eq_true, decide_eq_true_eq] at hn; omega
  have bn' : n' ≤ 9223372036854775807 := by simp only [hasB, Bool.and_eq_true, decide_eq_true_eq] at hn'; omega
  have e : wI (maxI n n' - 1) = ((max n n' : Nat) : Int) - 1 := by
    have : maxI n n' = ((max n n' : Nat) : Int) := by unfold maxI; split <;> omega
    rw [this, wI_eq (by omega)]
  rw [e]
  refine cmp_safe hx hy hl hl' hn hn' hb _ (Nat.le_refl _) ?_
  have big : ∀ (zs : List Int) (of k : Nat), (∀ d ∈ zs, 0 ≤ d ∧ d < 18446744073709551616) → k ≤ max n n' → natL (win zs of k) / 2 ^ (64 * max n n') = 0 := by
    intro zs of k hz hk
    refine Nat.div_eq_of_lt (Nat.lt_of_lt_of_le (natL_lt _ (win_has hz)) (Nat.pow_le_pow_right (by decide) ?_))
    have : (win zs of k).length ≤ k := by unfold win; rw [List.length_take]; omega
    omega
  rw [big xs off n hx (by omega), big ys off' n' hy (by omega)]
theorem good_seq2 {β : Env} {H : Heap} {w : World} {k t : Nat} {ty ty' : Nat} {cs ds : List Ch} {o o' : Bool} {xs ys : List Int} (hg : Good β H w) (hk : hget H k = some ⟨ty, cs, o⟩) (ht : hget H t = some ⟨ty', ds, o'⟩) (hxs : toSeq .u64 cs = some xs) (hys : toSeq .u64 ds = some ys) (hne : Nat.beq k t = false) :
    (∀ d ∈ xs, 0 ≤ d ∧ d < 18446744073709551616) ∧ (∀ d ∈ ys, 0 ≤ d ∧ d < 18446744073709551616) ∧ Good (inEnv β [k, t] 2) (seqH2 ty xs o ty' ys o') w ∧ (∀ j, j < 2 → ∃ X, β (nth [k, t] j) = some X) := by
  obtain ⟨l, g1⟩ := hget_rel hg hk
  obtain ⟨_, g2⟩ := toSeq_rel hxs g1
  obtain ⟨l', g1'⟩ := hget_rel hg ht
  obtain ⟨_, g2'⟩ := toSeq_rel hys g1'
  refine ⟨fun d hd => u64_bounds (g2 d hd), fun d hd => u64_bounds (g2' d hd), good2 (c := [.seq .u64 xs]) (e := [.seq .u64 ys]) hg hk ht (fun e => by subst e; rw [nbeq.2 rfl] at hne; cases hne) (fun l h => ?_) (fun l h => ?_), fun j hj => ?_⟩
  · obtain ⟨q1, q2⟩ := toSeq_rel hxs h
    exact ⟨_, [], ⟨q1, q2⟩, rfl, by simp⟩
  · obtain ⟨q1, q2⟩ := toSeq_rel hys h
    exact ⟨_, [], ⟨q1, q2⟩, rfl, by simp⟩
  · match j, hj with
    | 0, _ => exact relB_def (hg.heap _ _ hk)
    | 1, _ => exact relB_def (hg.heap _ _ ht)
def cmpSpec : ASpec := fun args H fr path =>
  match args with
  | [.val false [.sl k off n _], .val false [.sl t off' n' _]] => match hget H k, hget H t, Nat.beq k t with
    | some ⟨_, cs, _⟩, some ⟨_, ds, _⟩, false => match toSeq .u64 cs, toSeq .u64 ds with
      | some xs, some ys => some (trR [k, t] 2 fr 0 [] (.val false [.v (.int .i64 (cmpI (natL (win xs off n)) (natL (win ys off' n'))))]) [] [(Nat.ble (off + n) xs.length, true), (Nat.ble (off' + n') ys.length, true), (hasB .i64 n, true), (hasB .i64 n', true)] path)
      | _, _ => none
    | _, _, _ => none
  | _ => none
theorem cmpSpec_ok : SpecOk Try.prog 36 cmpSpec := by
  refine can_spec Try.func36 (by kernel_rfl) (by kernel_rfl) fun args H fr path r h => ?_
  unfold cmpSpec at h
  split at h
  case h_2 => cases h
  rename_i k off n m t off' n' m'
  split at h
  case h_2 => cases h
  rename_i ty cs o ty' ds o' hk ht hne
  split at h
  case h_2 => cases h
  rename_i xs ys hxs hys
  injection h with h
  refine ⟨[k, t], sl2 off n m off' n' m', seqH2 ty xs o ty' ys o', 2, 0, [], _, [], _, path, h.symm, fun β us w ha hg hc => ?_⟩
  obtain ⟨u1, us1, r1, ⟨u2, us2, r2, ha, rfl⟩, rfl⟩ := ha
  obtain ⟨g1, g1', g2, g3⟩ := good_seq2 hg hk ht hxs hys hne
  exact ⟨cmp_can g1 g1' (Nat.le_of_ble_eq_true hc.1) (Nat.le_of_ble_eq_true hc.2.1) hc.2.2.1 hc.2.2.2.1, by kernel_rfl, ⟨u1, _, r1, ⟨u2, us2, r2, ha, rfl⟩, rfl⟩, g2, g3⟩
noncomputable def S11 : List (FuncId × ASpec) := (36, cmpSpec) :: S10
theorem S11ok : SpecsOk Try.prog S11 := ⟨cmpSpec_ok, S10ok⟩
end Go.Proofs.Ytoemaicabljpfaa
