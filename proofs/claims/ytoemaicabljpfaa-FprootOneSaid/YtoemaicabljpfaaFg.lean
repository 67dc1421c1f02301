/- The contract of fp.Pow. -/
import Derived.Test.YtoemaicabljpfaaFf
namespace Go.Proofs.Ytoemaicabljpfaa
open Ex
set_option maxRecDepth 100000

def wI (z : Int) : Int := IntKind.i64.wrap z
theorem wI_eq {z : Int} (h : -9223372036854775808 ≤ z ∧ z ≤ 9223372036854775807) : wI z = z := by unfold wI; rw [IntKind.wrap_i64]; omega
def bitI (v s : Int) : Int := bits .and .u64 (Int.fdiv v (2 ^ min s.toNat 64)) 1
theorem bitI_eq (v s : Nat) (hv : v < 18446744073709551616) (hs : s < 64) : bitI v s = ((v / 2 ^ s % 2 : Nat) : Int) := by
  unfold bitI
  rw [Int.toNat_natCast, Nat.min_eq_left (by omega), Int.fdiv_eq_ediv_of_nonneg _ (by exact_mod_cast Nat.zero_le (2 ^ s))]
  have e : ((v : Int) / 2 ^ s) = ((v / 2 ^ s : Nat) : Int) := by
    rw [Int.natCast_ediv, Int.natCast_pow]; rfl
  rw [e]
  have hlt : v / 2 ^ s < 18446744073709551616 := Nat.lt_of_le_of_lt (Nat.div_le_self _ _) hv
  have h := (bits_nat .u64 64 (by decide) (fun n h0 h1 => by rw [IntKind.wrap_u64]; omega) (v / 2 ^ s) 1 (by omega) (by decide)).1
  refine Eq.trans h ?_
  rw [Nat.and_one_is_mod]
def natL : List Int → Nat
  | [] => 0
  | d :: r => d.toNat + 18446744073709551616 * natL r
theorem natL_word : ∀ (ws : List Int) (j : Nat), (∀ d ∈ ws, 0 ≤ d ∧ d < 18446744073709551616) → natL ws / 2 ^ (64 * j) % 2 ^ 64 = (ws.getD j 0).toNat
  | [], j, _ => by simp [natL]
  | d :: r, 0, h => by
    have := h d (by simp)
    simp only [natL, Nat.mul_zero, Nat.pow_zero, Nat.div_one, List.getD_cons_zero]
    omega
  | d :: r, j + 1, h => by
    have hd := h d (by simp)
    have ih := natL_word r j fun d h' => h d (by simp [h'])
    rw [show 64 * (j + 1) = 64 + 64 * j by omega, Nat.pow_add, ← Nat.div_div_eq_div_mul]
    have : natL (d :: r) / 2 ^ 64 = natL r := by simp only [natL]; omega
    rw [this, ih]; rfl
theorem natL_lt : ∀ (ws : List Int), (∀ d ∈ ws, 0 ≤ d ∧ d < 18446744073709551616) → natL ws < 2 ^ (64 * ws.length)
  | [], _ => by simp [natL]
  | d :: r, h => by
    have hd := h d (by simp)
    have ih := natL_lt r fun d h' => h d (by simp [h'])
    rw [List.length_cons, show 64 * (r.length + 1) = 64 + 64 * r.length by omega, Nat.pow_add]
    simp only [natL]
    generalize 2 ^ (64 * r.length) = Q at *
    omega
theorem natL_bit (ws : List Int) (i : Nat) (h : ∀ d ∈ ws, 0 ≤ d ∧ d < 18446744073709551616) : (ws.getD (i / 64) 0).toNat / 2 ^ (i % 64) % 2 = natL ws / 2 ^ i % 2 := by
  rw [← natL_word ws (i / 64) h]
  have e : 2 ^ 64 = 2 ^ (i % 64) * 2 ^ (64 - i % 64) := by rw [← Nat.pow_add]; congr 1; omega
  rw [e, Nat.mod_mul_right_div_self, Nat.div_div_eq_div_mul, ← Nat.pow_add, show 64 * (i / 64) + i % 64 = i by omega]
  refine Nat.mod_mod_of_dvd _ ?_
  have : 64 - i % 64 = (63 - i % 64) + 1 := by omega
  rw [this, Nat.pow_succ]
  exact Nat.dvd_mul_left _ _

/- in Montgomery's numbers -/
def toM (y : Nat) : Nat := y * RR % pN
theorem toM_lt (y : Nat) : toM y < pN := Nat.mod_lt _ pN_pos
theorem RI_one : ∀ y, y * (RR * RI) % pN = y % pN := fun y => by rw [Nat.mul_mod, RI_eq, Nat.mul_one, Nat.mod_mod]
theorem monN_toM (a b : Nat) : monN (toM a) (toM b) = toM (a * b) := by
  rw [monN_eq (Nat.lt_trans (toM_lt a) (by decide)) (toM_lt b)]
  unfold toM
  rw [Nat.mul_assoc, Nat.mod_mul_mod, Nat.mul_left_comm, Nat.mod_mul_mod, ← Nat.mul_assoc, show b * RR * (a * RR) * RI = a * b * RR * (RR * RI) by simp only [Nat.mul_comm, Nat.mul_left_comm], RI_one]
theorem sqN_M : sqN * RI % pN = RR % pN := by kernel_rfl
theorem monN_sq {x : Nat} (hx : x < RR) : monN x sqN = toM x := by
  rw [monN_eq hx sqN_lt, Nat.mul_assoc, Nat.mul_mod, sqN_M, ← Nat.mul_mod]; rfl
theorem monN_one (y : Nat) : monN (toM y) 1 = y % pN := by
  rw [monN_eq (Nat.lt_trans (toM_lt y) (by decide)) (by decide), Nat.mul_one]
  unfold toM
  rw [Nat.mod_mul_mod, Nat.mul_assoc, RI_one]
theorem toM_mod (y : Nat) : toM (y % pN) = toM y := by unfold toM; rw [Nat.mod_mul_mod]

/- the walk -/
def powF : FuncId := 48
noncomputable def powTodo : List Item := todoOf (aSeg Try.prog (orc S8 K0) (some 0) 100 1 (some ([1, 4, 5, 6, 7], [0, 2, 3, 4], 5)) (entry Try.f48 [num6 0, .val false [.sl 0 0 0 0]] [(0, some ⟨0, [.seq .u64 []], false⟩)] 1 []))
noncomputable def powT (off n m : Nat) (i : Int) : List AV := .any :: .val false [.sl 0 off n m] :: .any :: .any :: .val false [.p 2 0] :: .val false [.p 3 0] :: .val false [.p 4 0] :: .val false [.v (.int .i64 i)] :: List.replicate (Try.f48.ntmps - 8) .any
noncomputable def powS (ty off n m : Nat) (xs : List Int) (o : Bool) (b acc : Nat) (i : Int) (path : List Bool) : ASt := ⟨powTodo, ⟨powT off n m i,
  [(0, some ⟨ty, [.seq .u64 xs], o⟩), (2, some ⟨24, zero6, false⟩), (3, some ⟨24, [.num 6 b], false⟩), (4, some ⟨24, [.num 6 acc], false⟩)], 5, path⟩⟩
def powA (x off n m : Nat) : List AV := [num6 x, .val false [.sl 0 off n m]]
def seqH (ty : Nat) (xs : List Int) (o : Bool) : Heap := [(0, some ⟨ty, [.seq .u64 xs], o⟩)]
theorem pow_entry (x ty off n m : Nat) (xs : List Int) (o : Bool) : aSeg Try.prog (orc S8 K0) (some 0) 100 1 (some ([1, 4, 5, 6, 7], [0, 2, 3, 4], 5)) (entry Try.f48 (powA x off n m) (seqH ty xs o) 1 []) =
  some ([(hasB .i64 n, true)], [], powS ty off n m xs o (monN (x % pN) sqN) (monN 1 sqN) (wI (wI (64 * (n : Int)) - 1)) []) := by kernel_rfl
def powW (xs : List Int) (off : Nat) (i : Int) : Int := xs.getD (off + (wI (Int.tdiv i 64)).toNat * 1) 0
def powC (off n : Nat) (xs : List Int) (i : Int) (bit : Bool) : List (Bool × Bool) := [(decide (0 ≤ i), true), (true, true), (decide (0 ≤ wI (Int.tdiv i 64) ∧ wI (Int.tdiv i 64) < n), true),
  (decide (off + (wI (Int.tdiv i 64)).toNat * 1 < xs.length), true), (decide (0 ≤ i ∧ (0 : Int) < 64), true), (decide (0 ≤ Int.tmod i 64 ∧ 0 ≤ powW xs off i), true), (decide (bitI (powW xs off i) (Int.tmod i 64) = 1), bit)]
theorem pow_one (ty off n m b acc : Nat) (xs : List Int) (o : Bool) (i : Int) : aSeg Try.prog (orc S8 K0) (some 0) 100 1 (some ([1, 4, 5, 6, 7], [0, 2, 3, 4], 5)) (powS ty off n m xs o b acc i [true, true]) =
  some (powC off n xs i true, [], powS ty off n m xs o b (monN (monN acc acc) b) (wI (i - 1)) []) := by kernel_rfl
theorem pow_zero (ty off n m b acc : Nat) (xs : List Int) (o : Bool) (i : Int) : aSeg Try.prog (orc S8 K0) (some 0) 100 1 (some ([1, 4, 5, 6, 7], [0, 2, 3, 4], 5)) (powS ty off n m xs o b acc i [true, false]) =
  some (powC off n xs i false, [], powS ty off n m xs o b (monN acc acc) (wI (i - 1)) []) := by kernel_rfl
theorem pow_exit (ty off n m b acc : Nat) (xs : List Int) (o : Bool) (i : Int) : segOut Try.prog (orc S8 K0) Try.f48 100 1 [] (powS ty off n m xs o b acc i [false]) =
  some ([(decide (0 ≤ i), false)], [], num6 (monN acc 1), []) := by kernel_rfl
theorem pow_wf (ty off n m b acc : Nat) (xs : List Int) (o : Bool) (i : Int) (p : List Bool) : wfSt Try.f48.ntmps (powS ty off n m xs o b acc i p).s := wfB_ok (by kernel_rfl)

noncomputable def powN (x E : Nat) : Nat := x ^ E % pN
def accN (x E c : Nat) : Nat := toM (x ^ (E / 2 ^ c))
theorem bit_word {xs : List Int} {off n : Nat} {j : Nat} (hj : j < n) : ((xs.drop off).take n).getD j 0 = xs.getD (off + j) 0 := by
  rw [List.getD_eq_getElem?_getD, List.getD_eq_getElem?_getD, List.getElem?_take_of_lt hj, List.getElem?_drop]
section
variable {ty off n m : Nat} {xs : List Int} {o : Bool} (hall : ∀ d ∈ xs, 0 ≤ d ∧ d < 18446744073709551616) (hlen : off + n ≤ xs.length) (hn : n ≤ 1125899906842624) {x : Nat} {β0 : Env} {w0 : World} (hb : ∀ b, 1 ≤ b → β0 b = none)
include hall hlen hn hb
theorem pow_safe : ∀ c, c ≤ 64 * n → ASafe Try.prog 48 β0 w0 (Outs β0 w0 [] (num6 (powN x (natL ((xs.drop off).take n)))) []) Try.f48.ntmps [] (powS ty off n m xs o (toM x) (accN x (natL ((xs.drop off).take n)) c) ((c : Int) - 1) []) := by
  intro c
  induction c with
  | zero =>
    intro _
    have h : ASafe Try.prog 48 β0 w0 (Outs β0 w0 [] (num6 (monN (accN x (natL ((xs.drop off).take n)) 0) 1)) []) Try.f48.ntmps [] (powS ty off n m xs o (toM x) (accN x (natL ((xs.drop off).take n)) 0) (((0 : Nat) : Int) - 1) [false]) :=
      out_safe (orc_ok S8ok K0ok) mixed Try.func48 (pow_exit ..) ⟨rfl, trivial⟩ (pow_wf ..) hb (fun _ h => by cases h)
    rw [show monN (accN x (natL ((xs.drop off).take n)) 0) 1 = powN x (natL ((xs.drop off).take n)) from by unfold accN powN; rw [Nat.pow_zero, Nat.div_one, monN_one]] at h
    exact path_safe [false] h
  | succ c ih =>
    intro hc
    have hi : ((c + 1 : Nat) : Int) - 1 = (c : Int) := by omega
    rw [hi]
    have hlt : ∀ d ∈ (xs.drop off).take n, 0 ≤ d ∧ d < 18446744073709551616 := fun d hd => hall d (List.mem_of_mem_drop (List.mem_of_mem_take hd))
    have hq : Int.tdiv (c : Int) 64 = ((c / 64 : Nat) : Int) := by rw [Int.tdiv_eq_ediv_of_nonneg (by omega)]; rfl
    have hr : Int.tmod (c : Int) 64 = ((c % 64 : Nat) : Int) := by rw [Int.tmod_eq_emod_of_nonneg (by omega)]; rfl
    have hw : wI (Int.tdiv (c : Int) 64) = ((c / 64 : Nat) : Int) := by rw [hq]; exact wI_eq (by omega)
    have hj : c / 64 < n := by omega
    have hv : powW xs off c = ((xs.drop off).take n).getD (c / 64) 0 := by
      unfold powW
      rw [hw, Int.toNat_natCast, Nat.mul_one, bit_word hj]
    have hvb : 0 ≤ powW xs off c ∧ powW xs off c < 18446744073709551616 := by
      rw [hv, List.getD_eq_getElem?_getD]
      cases h : ((xs.drop off).take n)[c / 64]? with
      | none => simp
      | some d => exact hlt d (List.mem_of_getElem? h)
    have hbit : bitI (powW xs off c) (Int.tmod c 64) = ((natL ((xs.drop off).take n) / 2 ^ c % 2 : Nat) : Int) := by
      obtain ⟨V, hV⟩ := Int.eq_ofNat_of_zero_le hvb.1
      rw [hr, ← natL_bit _ c hlt, ← hv, hV, Int.toNat_natCast]
      exact bitI_eq V _ (by omega) (by omega)
    have hnext : wI ((c : Int) - 1) = (c : Int) - 1 := wI_eq (by omega)
    have hconds : ∀ bit, decide (bitI (powW xs off c) (Int.tmod c 64) = 1) = bit → okConds (powC off n xs c bit) := by
      intro bit hbt
      refine ⟨by simp, rfl, ?_, ?_, ?_, ?_, hbt, trivial⟩
      · rw [hw]; simp; omega
      · rw [hw]; simp; omega
      · simp
      · simp only [decide_eq_true_eq]; rw [hr]; exact ⟨by omega, hvb.1⟩
    have hdiv : natL ((xs.drop off).take n) / 2 ^ c = 2 * (natL ((xs.drop off).take n) / 2 ^ (c + 1)) + natL ((xs.drop off).take n) / 2 ^ c % 2 := by
      rw [Nat.pow_succ, ← Nat.div_div_eq_div_mul]; omega
    have ihc := ih (by omega)
    rcases Nat.mod_two_eq_zero_or_one (natL ((xs.drop off).take n) / 2 ^ c) with h0 | h1
    · refine path_safe [true, false] (seg_safe (orc_ok S8ok K0ok) mixed (pow_zero ..) (hconds false (by rw [hbit, h0]; rfl)) (pow_wf ..) hb (fun _ h => by cases h) fun _ => ?_)
      rw [hnext]
      have : monN (accN x (natL ((xs.drop off).take n)) (c + 1)) (accN x (natL ((xs.drop off).take n)) (c + 1)) = accN x (natL ((xs.drop off).take n)) c := by
        unfold accN
        rw [monN_toM, ← Nat.pow_add]
        congr 2; omega
      rw [this]
      exact ihc
    · refine path_safe [true, true] (seg_safe (orc_ok S8ok K0ok) mixed (pow_one ..) (hconds true (by rw [hbit, h1]; rfl)) (pow_wf ..) hb (fun _ h => by cases h) fun _ => ?_)
      rw [hnext]
      have : monN (monN (accN x (natL ((xs.drop off).take n)) (c + 1)) (accN x (natL ((xs.drop off).take n)) (c + 1))) (toM x) = accN x (natL ((xs.drop off).take n)) c := by
        unfold accN
        rw [monN_toM, ← Nat.pow_add, monN_toM, ← Nat.pow_succ]
        congr 2; omega
      rw [this]
      exact ihc
end
theorem pow_can {ty off n m : Nat} {xs : List Int} {o : Bool} (hall : ∀ d ∈ xs, 0 ≤ d ∧ d < 18446744073709551616) (hlen : off + n ≤ xs.length) (hn : n ≤ 1125899906842624) (x : Nat) :
    CanOk Try.prog 48 (powA x off n m) (seqH ty xs o) 1 [] (num6 (powN x (natL ((xs.drop off).take n)))) [] := by
  refine can_entry (path := []) Try.func48 (by kernel_rfl) (by kernel_rfl) fun β0 w0 hb => ?_
  refine seg_safe (orc_ok S8ok K0ok) mixed (pow_entry x ty off n m xs o) ⟨?_, trivial⟩ (wfB_ok (by kernel_rfl)) hb (fun _ h => by cases h) fun _ => ?_
  · simp only [hasB, Bool.and_eq_true, decide_eq_true_eq]; omega
  · have h := pow_safe hall hlen hn (x := x) (ty := ty) (m := m) (o := o) (w0 := w0) hb (64 * n) (Nat.le_refl _)
    have e1 : monN (x % pN) sqN = toM x := by rw [monN_sq (lt_RR_mod x), toM_mod]
    have e2 : monN 1 sqN = accN x (natL ((xs.drop off).take n)) (64 * n) := by
      rw [monN_sq (by decide)]
      unfold accN
      have hl : natL ((xs.drop off).take n) < 2 ^ (64 * n) := by
        have := natL_lt ((xs.drop off).take n) fun d hd => hall d (List.mem_of_mem_drop (List.mem_of_mem_take hd))
        rwa [List.length_take, List.length_drop, Nat.min_eq_left (by omega)] at this
      rw [Nat.div_eq_of_lt hl, Nat.pow_zero]
    have e3 : wI (wI (64 * (n : Int)) - 1) = ((64 * n : Nat) : Int) - 1 := by
      rw [wI_eq (z := 64 * (n : Int)) (by omega), wI_eq (by omega)]; omega
    rw [e1, e2, e3]
    exact h
noncomputable def powSpec : ASpec := fun args H fr path =>
  match args with
  | [.val true a, .val false [.sl k off n _]] => match asNum 6 a, hget H k with
    | some x, some ⟨_, cs, _⟩ => match toSeq .u64 cs with
      | some xs => some (trR [k] 1 fr 0 [] (num6 (powN x (natL ((xs.drop off).take n)))) [] [(Nat.ble (off + n) xs.length, true), (Nat.ble n 1125899906842624, true)] path)
      | none => none
    | _, _ => none
  | _ => none
theorem powSpec_ok : SpecOk Try.prog 48 powSpec := by
  refine can_spec Try.func48 (by kernel_rfl) (by kernel_rfl) fun args H fr path r h => ?_
  unfold powSpec at h
  split at h
  case h_2 => cases h
  rename_i a k off n m
  split at h
  case h_2 => cases h
  rename_i x ty cs o hx hk
  split at h
  case h_2 => cases h
  rename_i xs hxs
  injection h with h
  refine ⟨[k], powA x off n m, seqH ty xs o, 1, 0, [], num6 (powN x (natL ((xs.drop off).take n))), [], _, path, h.symm, fun β us w ha hg hc => ?_⟩
  obtain ⟨u1, us1, r1, ⟨u2, us2, r2, ha, rfl⟩, rfl⟩ := ha
  obtain ⟨l, g1⟩ := hget_rel hg hk
  obtain ⟨_, g2⟩ := toSeq_rel hxs g1
  refine ⟨pow_can (fun d hd => u64_bounds (g2 d hd)) (Nat.le_of_ble_eq_true hc.1) (Nat.le_of_ble_eq_true hc.2.1) x, by kernel_rfl, ⟨u1, _, ?_, ⟨u2, us2, ?_, ha, rfl⟩, rfl⟩, good1 (c := [.seq .u64 xs]) hg hk (fun l h => ?_), fun j hj => ?_⟩
  · obtain ⟨l, q, rfl⟩ := r1; exact ⟨l, num_any hx q, rfl⟩
  · exact r2
  · obtain ⟨q1, q2⟩ := toSeq_rel hxs h
    exact ⟨_, [], ⟨q1, q2⟩, rfl, by simp⟩
  · match j, hj with
    | 0, _ => exact relB_def (hg.heap _ _ hk)
noncomputable def S9 : List (FuncId × ASpec) := (48, powSpec) :: S8
theorem S9ok : SpecsOk Try.prog S9 := ⟨powSpec_ok, S8ok⟩
end Go.Proofs.Ytoemaicabljpfaa
