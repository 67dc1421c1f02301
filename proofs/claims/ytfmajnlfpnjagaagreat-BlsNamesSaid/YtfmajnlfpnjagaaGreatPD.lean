/- Part 4 of the proof: Gk, Gl, Gm, Gn, Go, Gp, Gq, Gr, Gs, Gt, Gv, Ka, Kb, Kc, Kd, Ra. -/
import Derived.Test.YtfmajnlfpnjagaaGreatPC
import Derived.Test.YtfmajnlfpnjagaaGreatPB
import Derived.ChangeSlices
import Derived.KernelRfl
/- limb.Words: the contract. -/
namespace Go.Proofs.YtfmajnlfpnjagaaGreat
open Ex Num
set_option maxRecDepth 100000
set_option maxHeartbeats 4000000

theorem natB_append : ∀ (a b : List Int), natB (a ++ b) = natB a * 256 ^ b.length + natB b
  | [], b => by simp [natB]
  | d :: r, b => by
    simp only [List.cons_append, natB, List.length_append]
    rw [natB_append r b, Nat.pow_add, Nat.add_mul, Nat.mul_assoc, Nat.add_assoc]
theorem natB_take {ws : List Int} {i : Nat} (h : i < ws.length) : natB (ws.take (i + 1)) = natB (ws.take i) * 256 + (ws.getD i 0).toNat := by
  rw [List.take_succ_eq_append_getElem h, natB_append]
  simp [natB, List.getD_eq_getElem?_getD, h]
theorem natB_lt : ∀ (ws : List Int), (∀ d ∈ ws, 0 ≤ d ∧ d < 256) → natB ws < 256 ^ ws.length
  | [], _ => by simp [natB]
  | d :: r, h => by
    have hd := h d (by simp)
    have ih := natB_lt r fun d h' => h d (by simp [h'])
    simp only [natB, List.length_cons, Nat.pow_succ]
    have : d.toNat + 1 ≤ 256 := by omega
    have h2 := Nat.mul_le_mul_right (256 ^ r.length) this
    rw [Nat.add_mul, Nat.one_mul] at h2
    omega
/-- One byte more, at its place among the words. -/
theorem word_same {M x k i : Nat} (hx : x < 256) (hi : i ≠ k / 8) : (M * 256 ^ (k + 1) + x * 256 ^ k) / 2 ^ (64 * i) % 2 ^ 64 = M * 256 ^ (k + 1) / 2 ^ (64 * i) % 2 ^ 64 := by
  rw [p256, p256]
  rcases Nat.lt_or_gt_of_ne hi with h | h
  · have e : x * 2 ^ (8 * k) = 2 ^ (64 * i) * (2 ^ 64 * (x * 2 ^ (8 * k - 64 * i - 64))) := by
      rw [Nat.mul_left_comm (2 ^ 64), Nat.mul_left_comm (2 ^ (64 * i)), ← Nat.pow_add, ← Nat.pow_add]; congr 2; omega
    rw [e, Nat.add_mul_div_left _ _ (Nat.pow_pos (by decide)), Nat.add_mul_mod_self_left]
  · have e1 : 2 ^ (64 * i) = 2 ^ (8 * k) * 2 ^ (64 * i - 8 * k) := by rw [← Nat.pow_add]; congr 1; omega
    have e2 : M * 2 ^ (8 * (k + 1)) + x * 2 ^ (8 * k) = 2 ^ (8 * k) * (M * 256 + x) := by
      rw [show 8 * (k + 1) = 8 * k + 8 by omega, Nat.pow_add, Nat.mul_add, Nat.mul_comm x]; congr 1; rw [Nat.mul_left_comm]
    have e3 : M * 2 ^ (8 * (k + 1)) = 2 ^ (8 * k) * (M * 256) := by rw [show 8 * (k + 1) = 8 * k + 8 by omega, Nat.pow_add, Nat.mul_left_comm]
    have e4 : 2 ^ (64 * i - 8 * k) = 256 * 2 ^ (64 * i - 8 * k - 8) := by
      rw [show (256 : Nat) = 2 ^ 8 by rfl, ← Nat.pow_add]; congr 1; omega
    rw [e2, e3, e1, Nat.mul_div_mul_left _ _ (Nat.pow_pos (by decide)), Nat.mul_div_mul_left _ _ (Nat.pow_pos (by decide)), e4, ← Nat.div_div_eq_div_mul, ← Nat.div_div_eq_div_mul]
    congr 2; omega
theorem word_more {M x k : Nat} (hx : x < 256) : ∃ h B, (M * 256 ^ (k + 1)) / 2 ^ (64 * (k / 8)) % 2 ^ 64 = h * 2 ^ (8 * (k % 8) + 8) ∧ x * 2 ^ (8 * (k % 8)) = B ∧ B < 2 ^ (8 * (k % 8) + 8) ∧ h * 2 ^ (8 * (k % 8) + 8) < 2 ^ 64 ∧
    (M * 256 ^ (k + 1) + x * 256 ^ k) / 2 ^ (64 * (k / 8)) % 2 ^ 64 = h * 2 ^ (8 * (k % 8) + 8) + B := by
  rw [p256, p256]
  have e0 : 2 ^ (8 * k) = 2 ^ (64 * (k / 8)) * 2 ^ (8 * (k % 8)) := by rw [← Nat.pow_add]; congr 1; omega
  have e1 : 2 ^ (8 * (k + 1)) = 2 ^ (64 * (k / 8)) * 2 ^ (8 * (k % 8) + 8) := by rw [← Nat.pow_add]; congr 1; omega
  have e2 : (2 : Nat) ^ 64 = 2 ^ (8 * (k % 8) + 8) * 2 ^ (56 - 8 * (k % 8)) := by rw [← Nat.pow_add]; congr 1; omega
  have e3 : 2 ^ (8 * (k % 8) + 8) = 2 ^ (8 * (k % 8)) * 256 := by rw [Nat.pow_add]
  have hp : 0 < 2 ^ (64 * (k / 8)) := Nat.pow_pos (by decide)
  have q1 : M * 2 ^ (8 * (k + 1)) / 2 ^ (64 * (k / 8)) = M * 2 ^ (8 * (k % 8) + 8) := by
    rw [e1, Nat.mul_left_comm, Nat.mul_div_cancel_left _ hp]
  have q2 : (M * 2 ^ (8 * (k + 1)) + x * 2 ^ (8 * k)) / 2 ^ (64 * (k / 8)) = M * 2 ^ (8 * (k % 8) + 8) + x * 2 ^ (8 * (k % 8)) := by
    rw [e1, e0, Nat.mul_left_comm M, Nat.mul_left_comm x, ← Nat.mul_add, Nat.mul_div_cancel_left _ hp]
  rw [q1, q2]
  have hB : x * 2 ^ (8 * (k % 8)) < 2 ^ (8 * (k % 8) + 8) := by
    rw [e3, Nat.mul_comm]; exact Nat.mul_lt_mul_of_pos_left hx (Nat.pow_pos (by decide))
  have m1 : M * 2 ^ (8 * (k % 8) + 8) % 2 ^ 64 = M % 2 ^ (56 - 8 * (k % 8)) * 2 ^ (8 * (k % 8) + 8) := by
    rw [e2, Nat.mul_comm M, Nat.mul_mod_mul_left, Nat.mul_comm]
  have hlt : M % 2 ^ (56 - 8 * (k % 8)) * 2 ^ (8 * (k % 8) + 8) + 2 ^ (8 * (k % 8) + 8) ≤ 2 ^ 64 := by
    have := Nat.mod_lt M (show 0 < 2 ^ (56 - 8 * (k % 8)) from Nat.pow_pos (by decide))
    have h2 := Nat.mul_le_mul_right (2 ^ (8 * (k % 8) + 8)) (show M % 2 ^ (56 - 8 * (k % 8)) + 1 ≤ 2 ^ (56 - 8 * (k % 8)) from this)
    rw [Nat.add_mul, Nat.one_mul, Nat.mul_comm (2 ^ (56 - 8 * (k % 8))), ← e2] at h2
    exact h2
  have hp2 : 0 < 2 ^ (8 * (k % 8) + 8) := Nat.pow_pos (by decide)
  refine ⟨M % 2 ^ (56 - 8 * (k % 8)), _, m1, rfl, hB, by omega, ?_⟩
  rw [Nat.add_mod, m1]
  have : x * 2 ^ (8 * (k % 8)) % 2 ^ 64 = x * 2 ^ (8 * (k % 8)) := Nat.mod_eq_of_lt (by omega)
  rw [this, Nat.mod_eq_of_lt (by omega)]

/- the walk -/
def wrdL (n : Nat) : Nat := (wI (Int.tdiv (wI ((n : Int) + 7)) 8)).toNat
noncomputable def wrdTodo : List Item := todoOf (aSeg Tryz.prog (orc S26 K0) (some 0) 100 1 none (entry Tryz.f69 [slA 0 0 0 0] (byH []) 1 []))
noncomputable def wrdS (off n c : Nat) (xs : List Int) (L : Nat) (ys : List Int) (i : AV) (p : List Bool) : ASt := ⟨wrdTodo, ⟨mkT Tryz.f69.ntmps [(0, slA 0 off n c), (3, slA 1 0 L L), (11, slA 1 0 L L), (12, slA 0 off n c), (13, iA n), (14, i)],
  [(0, some (roB [.seq .u8 xs])), (1, some ⟨33, [.seq .u64 ys], false⟩)], 2, p⟩⟩
abbrev wrdK : Option (List Nat × List Nat × Nat) := some ([0, 3, 11, 12, 13, 14], [0, 1], 2)
theorem wrd_entry (off n c : Nat) (xs : List Int) : aSeg Tryz.prog (orc S26 K0) (some 0) 100 1 wrdK (entry Tryz.f69 [slA 0 off n c] (byH xs) 1 []) =
  some ([(hasB .i64 n, true), (true, true), (mkC (wI (Int.tdiv (wI ((n : Int) + 7)) 8)) 8, true), (hasB .i64 n, true)], [], wrdS off n c xs (wrdL n) (List.replicate (wrdL n) 0) (.val false [.n .i64 0]) []) := by kernel_rfl
def wrdJ (n i : Int) : Int := wI (Int.tdiv (octK8 n i) 8)
def wrdV (xs : List Int) (off : Nat) (n : Int) (ys : List Int) (i : Int) : Int :=
  bits .or .u64 (ys.getD (0 + (wrdJ n i).toNat * 1) 0) (IntKind.u64.wrap (wrapc false .u64 (xs.getD (off + i.toNat * 1) 0) * 2 ^ min (wI (8 * Int.tmod (octK8 n i) 8)).toNat 64))
def wrdC (off n : Nat) (xs : List Int) (L : Nat) (ys : List Int) (i : Int) : List (Bool × Bool) := [(decide (i < n), true), (decide (0 ≤ i ∧ i < n), true), (decide (off + i.toNat * 1 < xs.length), true), (hasB .i64 n, true), (true, true),
  (decide (0 ≤ wrdJ n i ∧ wrdJ n i < L), true), (decide (0 + (wrdJ n i).toNat * 1 < ys.length), true), (decide (0 ≤ octK8 n i ∧ (0 : Int) < 8), true), (decide (0 ≤ wI (8 * Int.tmod (octK8 n i) 8)), true), (decide (0 ≤ wrdJ n i ∧ wrdJ n i < L), true), (decide (0 + (wrdJ n i).toNat * 1 < ys.length), true)]
theorem wrd_step (off n c : Nat) (xs : List Int) (L : Nat) (ys : List Int) (i : Int) : aSeg Tryz.prog (orc S26 K0) (some 0) 100 1 wrdK (wrdS off n c xs L ys (iA i) [true]) =
  some (wrdC off n xs L ys i, [], wrdS off n c xs L (ys.set (0 + (wrdJ n i).toNat * 1) (wrdV xs off n ys i)) (iA (wI (i + 1))) []) := by kernel_rfl
def wrdH (ys : List Int) : Heap := [(1, some ⟨33, [.seq .u64 ys], false⟩)]
theorem wrd_exit (off n c : Nat) (xs : List Int) (L : Nat) (ys : List Int) (i : Int) : segOut Tryz.prog (orc S26 K0) Tryz.f69 100 1 [1] (wrdS off n c xs L ys (iA i) [false]) =
  some ([(decide (i < n), false)], [], slA 1 0 L L, wrdH ys) := by kernel_rfl
def wordL (N L : Nat) : List Int := (List.range L).map (wordN N)
theorem wordL_set {N N' L j : Nat} {w : Int} (hj : wordN N' j = w) (ho : ∀ i, i ≠ j → wordN N' i = wordN N i) : (wordL N L).set j w = wordL N' L := by
  unfold wordL
  refine List.ext_getElem (by simp) fun i h1 h2 => ?_
  rw [List.getElem_set]
  split
  · rename_i e; subst e; simp [hj]
  · rename_i e; simp [ho i (fun h => e h.symm)]
theorem wordL_getD {N L j : Nat} (h : j < L) : (wordL N L).getD j 0 = wordN N j := by simp [wordL, List.getD_eq_getElem?_getD, h]
theorem wordL_zero (L : Nat) : wordL 0 L = List.replicate L 0 := by
  unfold wordL
  refine List.ext_getElem (by simp) fun i h1 h2 => ?_
  simp [wordN]
theorem wordL_natL {N L : Nat} (h : N < 2 ^ (64 * L)) : natL (wordL N L) = N := by
  have := natL_outL (S := N) (L := L) h
  unfold outL win at this
  rw [Nat.sub_self, List.replicate_zero, List.append_nil, List.drop_zero, List.take_of_length_le (by simp)] at this
  exact this
theorem wrdL_eq {n : Nat} (hn : n ≤ 35184372088832) : wrdL n = (n + 7) / 8 ∧ wI (Int.tdiv (wI ((n : Int) + 7)) 8) = (((n + 7) / 8 : Nat) : Int) := by
  have e : wI ((n : Int) + 7) = ((n + 7 : Nat) : Int) := by rw [wI_eq (by omega)]; omega
  have e2 : wI (Int.tdiv (wI ((n : Int) + 7)) 8) = (((n + 7) / 8 : Nat) : Int) := by rw [e, tdiv8]; exact wI_eq (by omega)
  exact ⟨by unfold wrdL; rw [e2]; omega, e2⟩
def wrdN (N L : Nat) : Heap := [(1, some ⟨33, [.num L N], false⟩)]
theorem seq_words {N L : Nat} (h : N < 2 ^ (64 * L)) (β : Env) (l : List Value) (hr : relL β [.seq .u64 (wordL N L)] l) : relL β [.num L N] l := by
  obtain ⟨l1, l2, ⟨h1, _⟩, h2, h3⟩ := hr
  simp only [relL] at h2
  subst h2; subst h1; subst h3
  refine ⟨_, [], ⟨h, rfl⟩, rfl, ?_⟩
  simp [wordL, words, Function.comp]
theorem asafe_outs {P : Program} {f : FuncId} {β0 : Env} {w0 : World} {R R' : Ending → World → Prop} {W' : List Nat} {n : Nat} {x : ASt} (h : ASafe P f β0 w0 R n W' x) (hv : ∀ e w, R e w → R' e w) : ASafe P f β0 w0 R' n W' x := by
  intro β a w hi hf b cs q1 q2
  obtain ⟨e', w', fr, q5, q4⟩ := h β a w hi hf b cs q1 q2
  exact ⟨e', w', fr, hv _ _ q5, q4⟩
theorem wrd_can {off n c : Nat} {xs : List Int} (hx : ∀ d ∈ xs, 0 ≤ d ∧ d < 256) (hl : off + n ≤ xs.length) (hn : n ≤ 35184372088832) :
    CanOk Tryz.prog 69 [slA 0 off n c] (byH xs) 1 [] (slA 1 0 ((n + 7) / 8) ((n + 7) / 8)) (wrdN (natB (win xs off n)) ((n + 7) / 8)) := by
  have hfin : natB (win xs off n) < 2 ^ (64 * ((n + 7) / 8)) := by
    have h1 := natB_lt (win xs off n) (win_has hx)
    have h2 : (win xs off n).length = n := by unfold win; rw [List.length_take, List.length_drop]; omega
    rw [h2, p256] at h1
    exact Nat.lt_of_lt_of_le h1 (Nat.pow_le_pow_right (by decide) (by omega))
  refine can_entry (path := []) Tryz.func69 (by kernel_rfl) (by kernel_rfl) fun β0 w0 hb => ?_
  obtain ⟨l1, l2⟩ := wrdL_eq hn
  have hw : hasB .i64 (n : Int) = true := by simp only [hasB, Bool.and_eq_true, decide_eq_true_eq]; omega
  refine seg_safe (orc_ok S26ok K0ok) mixed (wrd_entry off n c xs) ⟨hw, rfl, ?_, hw, trivial⟩ (wfB_ok (by kernel_rfl)) hb (fun _ h => by cases h) fun _ => ?_
  · rw [l2]; unfold mkC; simp only [decide_eq_true_eq]; omega
  · rw [l1]
    refine nv_safe ?_
    have hlen : (win xs off n).length = n := by unfold win; rw [List.length_take, List.length_drop]; omega
    have hbd : ∀ d ∈ win xs off n, 0 ≤ d ∧ d < 256 := win_has hx
    have loop : ∀ r i, i + r = n → ASafe Tryz.prog 69 β0 w0 (Outs β0 w0 [] (slA 1 0 ((n + 7) / 8) ((n + 7) / 8)) (wrdH (wordL (natB (win xs off n)) ((n + 7) / 8)))) Tryz.f69.ntmps []
        (wrdS off n c xs ((n + 7) / 8) (wordL (natB ((win xs off n).take i) * 256 ^ (n - i)) ((n + 7) / 8)) (iA i) []) := by
      intro r
      induction r with
      | zero =>
        intro i hi
        obtain rfl : i = n := by omega
        rw [Nat.sub_self, Nat.pow_zero, Nat.mul_one, List.take_of_length_le (by omega)]
        exact path_safe [false] (out_safe (orc_ok S26ok K0ok) mixed Tryz.func69 (wrd_exit ..) ⟨by simp, trivial⟩ (wfB_ok (by kernel_rfl)) hb (fun _ h => by cases h))
      | succ r ih =>
        intro i hi
        have ek : octK8 (n : Int) i = ((n - 1 - i : Nat) : Int) := wI_k hn (by omega)
        have ej : wrdJ (n : Int) i = (((n - 1 - i) / 8 : Nat) : Int) := by unfold wrdJ; rw [ek, tdiv8]; exact wI_eq (by omega)
        have em : wI (8 * Int.tmod ((n - 1 - i : Nat) : Int) 8) = ((8 * ((n - 1 - i) % 8) : Nat) : Int) := by rw [tmod8, wI_eq (by omega)]; omega
        have hjL : (n - 1 - i) / 8 < (n + 7) / 8 := by omega
        have hlenw : ∀ N, (wordL N ((n + 7) / 8)).length = (n + 7) / 8 := fun N => by simp [wordL]
        have hwx : xs.getD (off + i) 0 = (win xs off n).getD i 0 := (bit_word (by omega)).symm
        have hxb : 0 ≤ (win xs off n).getD i 0 ∧ (win xs off n).getD i 0 < 256 := by
          rw [List.getD_eq_getElem?_getD]
          cases h' : (win xs off n)[i]? with
          | none => simp
          | some d => exact hbd d (List.mem_of_getElem? h')
        refine path_safe [true] (seg_safe (orc_ok S26ok K0ok) mixed (wrd_step ..) ?_ (wfB_ok (by kernel_rfl)) hb (fun _ h => by cases h) fun _ => ?_)
        · unfold wrdC
          rw [ej, ek, em, hlenw]
          refine ⟨by simp; omega, by simp; omega, by simp; omega, hw, rfl, by simp only [decide_eq_true_eq]; omega, by simp only [decide_eq_true_eq]; omega, by simp only [decide_eq_true_eq]; omega, by simp only [decide_eq_true_eq]; omega, by simp only [decide_eq_true_eq]; omega, by simp only [decide_eq_true_eq]; omega, trivial⟩
        · have hset : ((wordL (natB ((win xs off n).take i) * 256 ^ (n - i)) ((n + 7) / 8)).set (0 + (wrdJ n i).toNat * 1) (wrdV xs off n (wordL (natB ((win xs off n).take i) * 256 ^ (n - i)) ((n + 7) / 8)) i)) =
              wordL (natB ((win xs off n).take (i + 1)) * 256 ^ (n - (i + 1))) ((n + 7) / 8) := by
            have ei : 0 + (((n - 1 - i) / 8 : Nat) : Int).toNat * 1 = (n - 1 - i) / 8 := by omega
            have eo : off + (i : Int).toNat * 1 = off + i := by omega
            unfold wrdV
            rw [ej, ek, em, ei, eo, hwx, wordL_getD hjL]
            obtain ⟨X, hX⟩ := Int.eq_ofNat_of_zero_le hxb.1
            have hX2 : X < 256 := by omega
            rw [hX, wrapc_eq, IntKind.wrap_u64, IntKind.wrap_u64, Int.toNat_natCast, Nat.min_eq_left (by omega)]
            have en : n - i = (n - 1 - i) + 1 := by omega
            have en' : n - (i + 1) = n - 1 - i := by omega
            have et : natB ((win xs off n).take (i + 1)) * 256 ^ (n - (i + 1)) = natB ((win xs off n).take i) * 256 ^ (n - 1 - i + 1) + X * 256 ^ (n - 1 - i) := by
              rw [natB_take (by omega), hX, Int.toNat_natCast, en', Nat.add_mul, Nat.mul_assoc, ← Nat.pow_succ']
            rw [et, en]
            obtain ⟨hh, B, w1, w2, w3, w4, w5⟩ := word_more (M := natB ((win xs off n).take i)) (k := n - 1 - i) hX2
            refine wordL_set ?_ fun j hj => ?_
            · have hle : 8 * ((n - 1 - i) % 8) + 8 ≤ 64 := by omega
              have hB64 : X * 2 ^ (8 * ((n - 1 - i) % 8)) < 2 ^ 64 := by
                rw [w2]; exact Nat.lt_of_lt_of_le w3 (Nat.pow_le_pow_right (by decide) hle)
              have ex : ((X : Int) % 18446744073709551616 * 2 ^ (8 * ((n - 1 - i) % 8))) % 18446744073709551616 = (B : Int) := by
                have a1 : ((X : Int) % 18446744073709551616) = (X : Int) := by omega
                have a2 : ((X : Int) * 2 ^ (8 * ((n - 1 - i) % 8))) = ((X * 2 ^ (8 * ((n - 1 - i) % 8)) : Nat) : Int) := by rw [Int.natCast_mul, Int.natCast_pow]; rfl
                rw [a1, a2, w2]
                rw [w2] at hB64
                have : B < 18446744073709551616 := hB64
                omega
              rw [ex]
              have eo := or_add (h := hh) (s := 8 * ((n - 1 - i) % 8) + 8) (B := B) w4 w3 hle
              unfold wordN
              rw [w5, w1]
              exact eo.symm
            · unfold wordN
              rw [word_same hX2 hj]
          rw [hset, wI_eq (z := (i : Int) + 1) (by omega)]
          exact ih (i + 1) (by omega)
    have := loop n 0 (by omega)
    rw [List.take_zero, show natB [] = 0 from rfl, Nat.zero_mul, wordL_zero] at this
    exact asafe_outs this fun e w h => outs_block1 (seq_words hfin) h
def wrdSpec : ASpec := fun args H fr path =>
  match args with
  | [.val false [.sl k off n _]] => match hget H k with
    | some ⟨_, cs, _⟩ => match toSeq .u8 cs with
      | some xs => some (trR [k] 1 fr 1 [] (slA 1 0 ((n + 7) / 8) ((n + 7) / 8)) (wrdN (natB (win xs off n)) ((n + 7) / 8)) [(Nat.ble (off + n) xs.length, true), (Nat.ble n 35184372088832, true)] path)
      | none => none
    | _ => none
  | _ => none
theorem u8_bounds {a : Int} (h : has .u8 a) : 0 ≤ a ∧ a < 256 := by
  have := (has_iff _ _).1 h
  simp only [hasB, Bool.and_eq_true, decide_eq_true_eq] at this
  omega
theorem good_by {β : Env} {H : Heap} {w : World} {k : Nat} {ty : Nat} {cs : List Ch} {o : Bool} {xs : List Int} (hg : Ex.Good β H w) (hk : hget H k = some ⟨ty, cs, o⟩) (hxs : toSeq .u8 cs = some xs) :
    (∀ d ∈ xs, 0 ≤ d ∧ d < 256) ∧ Ex.Good (inEnv β [k] 1) (byH xs) w ∧ (∀ j, j < 1 → ∃ X, β (nth [k] j) = some X) := by
  obtain ⟨l, g1⟩ := hget_rel hg hk
  obtain ⟨_, g2⟩ := toSeq_rel hxs g1
  refine ⟨fun d hd => u8_bounds (g2 d hd), good1 (c := [.seq .u8 xs]) hg hk (fun l h => ?_), fun j hj => ?_⟩
  · obtain ⟨q1, q2⟩ := toSeq_rel hxs h
    exact ⟨_, [], ⟨q1, q2⟩, rfl, by simp⟩
  · match j, hj with
    | 0, _ => exact relB_def (hg.heap _ _ hk)
theorem wrdSpec_ok : SpecOk Tryz.prog 69 wrdSpec := by
  refine can_spec Tryz.func69 (by kernel_rfl) (by kernel_rfl) fun args H fr path r h => ?_
  unfold wrdSpec at h
  split at h
  case h_2 => cases h
  rename_i k off n c
  split at h
  case h_2 => cases h
  rename_i ty cs o hk
  split at h
  case h_2 => cases h
  rename_i xs hxs
  injection h with h
  refine ⟨[k], [slA 0 off n c], byH xs, 1, 1, [], _, _, _, path, h.symm, fun β us w ha hg hc => ?_⟩
  obtain ⟨u1, us1, r1, ha, rfl⟩ := ha
  obtain ⟨g1, g2, g3⟩ := good_by hg hk hxs
  exact ⟨wrd_can g1 (Nat.le_of_ble_eq_true hc.1) (Nat.le_of_ble_eq_true hc.2.1), by kernel_rfl, ⟨u1, _, r1, ha, rfl⟩, g2, g3⟩
noncomputable def S27 : List (FuncId × ASpec) := (69, wrdSpec) :: S26
theorem S27ok : SpecsOk Tryz.prog S27 := ⟨wrdSpec_ok, S26ok⟩
end Go.Proofs.YtfmajnlfpnjagaaGreat
/- fp.Bytes, fp.FromBytes: the contracts. -/
namespace Go.Proofs.YtfmajnlfpnjagaaGreat
open Ex Num
set_option maxRecDepth 100000
set_option maxHeartbeats 4000000

def bytesA (x : Nat) : AV := .val true [.seq .u8 (octL x 48)]
theorem bytes_run (a : Nat) : pureRun Tryz.prog (orc S27 K0) Tryz.f184 [num6 a] [] 300 =
  some (allT 4, bytesA (natL (win (ws6 (a % pN)) 0 6))) := by kernel_rfl
theorem bytes_ok (a : Nat) : PureOk Tryz.prog 184 [num6 a] (bytesA (a % pN)) := by
  have h := pure_ok (orc_ok S27ok K0ok) mixed Tryz.func184 (bytes_run a) ⟨rfl, rfl, rfl, rfl, trivial⟩ rfl
  rw [natL_ws6 (lt_RR_mod a)] at h
  exact h

/-- What is read of n bytes whose number is N. -/
def fbV (n N : Nat) : Nat := if n = 48 ∧ N < pN then N else 0
def fbE (n N : Nat) : Int := if n = 48 then (if N < pN then 0 else 41) else 40
def fbA (n N : Nat) : AV := .tup [(true, [.num 6 (fbV n N)]), (false, [.v (.int .i64 (fbE n N))])]
def fb0 (e : Int) : AV := .tup [(true, zero6), (false, [.n .i64 e])]
theorem fb_len (off n m : Nat) (xs : List Int) : segOut Tryz.prog (orc S27 K0) Tryz.f144 300 1 [] (entry Tryz.f144 [slA 0 off n m] (byH xs) 1 [true]) =
  some ([(hasB .i64 n, true), (!decide ((n : Int) = 48), true)], [], fb0 40, []) := by kernel_rfl
theorem fb_range (off m : Nat) (xs : List Int) : segOut Tryz.prog (orc S27 K0) Tryz.f144 300 1 [] (entry Tryz.f144 [slA 0 off 48 m] (byH xs) 1 [false, true]) =
  some ([(true, true), (false, false), (Nat.ble (off + 48) xs.length, true), (true, true), (true, true), (!decide (natB (win xs off 48) % pN = natB (win xs off 48)), true)], [], fb0 41, []) := by kernel_rfl
theorem fb_num (off m : Nat) (xs : List Int) : segOut Tryz.prog (orc S27 K0) Tryz.f144 300 1 [] (entry Tryz.f144 [slA 0 off 48 m] (byH xs) 1 [false, false]) =
  some ([(true, true), (false, false), (Nat.ble (off + 48) xs.length, true), (true, true), (true, true), (!decide (natB (win xs off 48) % pN = natB (win xs off 48)), false)], [], .tup [(true, [.num 6 (natB (win xs off 48))]), (false, [.n .i64 0])], []) := by kernel_rfl
theorem relT2 {β β' : Env} {g g' : Bool} {a a' b b' : List Ch} {u : Value} (h1 : ∀ v, relG β g a v → relG β' g a' v) (h2 : ∀ v, relG β g' b v → relG β' g' b' v) (h : relA β (.tup [(g, a), (g', b)]) u) : relA β' (.tup [(g, a'), (g', b')]) u := by
  obtain ⟨us, ⟨u1, l1, q1, ⟨u2, l2, q2, q3, q4⟩, q5⟩, q6⟩ := h
  exact ⟨us, ⟨u1, l1, h1 _ q1, ⟨u2, l2, h2 _ q2, q3, q4⟩, q5⟩, q6⟩
theorem zero_num {β : Env} {v : Value} (h : relG β true zero6 v) : relG β true [.num 6 0] v := by
  obtain ⟨l, q, rfl⟩ := h
  exact ⟨l, num_any (k := 6) (x := 0) (by kernel_rfl) q, rfl⟩
theorem gval {β : Env} {k : IntKind} {i j : Int} {v : Value} (e : i = j) (h : relG β false [.n k i] v) : relG β false [.v (.int k j)] v := nval e h
theorem fb_can {off n m : Nat} {xs : List Int} (hl : off + n ≤ xs.length) (hn : hasB .i64 n = true) :
    CanOk Tryz.prog 144 [slA 0 off n m] (byH xs) 1 [] (fbA n (natB (win xs off n))) [] := by
  have hmod : ∀ N : Nat, decide (N % pN = N) = decide (N < pN) := fun N => by
    by_cases h : N < pN
    · rw [decide_eq_true h, decide_eq_true (Nat.mod_eq_of_lt h)]
    · rw [decide_eq_false h, decide_eq_false fun e => h (by rw [← e]; exact modp_lt N)]
  by_cases h : n = 48
  · subst h
    by_cases hN : natB (win xs off 48) < pN
    · refine can_val (can_entry (path := [false, false]) Tryz.func144 (by kernel_rfl) (by kernel_rfl) fun β0 w0 hb =>
        out_safe (orc_ok S27ok K0ok) mixed Tryz.func144 (fb_num off m xs) ⟨rfl, rfl, Nat.ble_eq_true_of_le hl, rfl, rfl, by rw [hmod, decide_eq_true hN]; rfl, trivial⟩ (wfB_ok (by kernel_rfl)) hb (fun _ h => by cases h)) fun β u hu => ?_
      unfold fbA fbV fbE
      rw [if_pos ⟨rfl, hN⟩, if_pos rfl, if_pos hN]
      exact relT2 (fun _ q => q) (fun _ q => gval rfl q) hu
    · refine can_val (can_entry (path := [false, true]) Tryz.func144 (by kernel_rfl) (by kernel_rfl) fun β0 w0 hb =>
        out_safe (orc_ok S27ok K0ok) mixed Tryz.func144 (fb_range off m xs) ⟨rfl, rfl, Nat.ble_eq_true_of_le hl, rfl, rfl, by rw [hmod, decide_eq_false hN]; rfl, trivial⟩ (wfB_ok (by kernel_rfl)) hb (fun _ h => by cases h)) fun β u hu => ?_
      unfold fbA fbV fbE
      rw [if_neg (fun q => hN q.2), if_pos rfl, if_neg hN]
      exact relT2 (fun _ q => zero_num q) (fun _ q => gval rfl q) hu
  · refine can_val (can_entry (path := [true]) Tryz.func144 (by kernel_rfl) (by kernel_rfl) fun β0 w0 hb =>
      out_safe (orc_ok S27ok K0ok) mixed Tryz.func144 (fb_len off n m xs) ⟨hn, by simp; omega, trivial⟩ (wfB_ok (by kernel_rfl)) hb (fun _ h => by cases h)) fun β u hu => ?_
    unfold fbA fbV fbE
    rw [if_neg (fun q => h q.1), if_neg h]
    exact relT2 (fun _ q => zero_num q) (fun _ q => gval rfl q) hu
/-- Contracts of functions that read one list of bytes. -/
def bySpec (g : Nat → List Int → AV) : ASpec := fun args H fr path =>
  match args with
  | [.val false [.sl k off n _]] => match hget H k with
    | some ⟨_, cs, _⟩ => match toSeq .u8 cs with
      | some xs => some (trR [k] 1 fr 0 [] (g n (win xs off n)) [] [(Nat.ble (off + n) xs.length, true), (hasB .i64 n, true)] path)
      | none => none
    | _ => none
  | _ => none
theorem bySpec_ok {f : FuncId} {fn : Func} {g : Nat → List Int → AV} (hfn : Tryz.prog.funcs[f]? = some fn) (hb : fn.body.isSome = true) (hname : (fn.name == "runtime.NumGoroutine") = false) (hk : ∀ n l, canB 1 0 [] (g n l) [] = true)
    (h : ∀ (off n m : Nat) (xs : List Int), (∀ d ∈ xs, 0 ≤ d ∧ d < 256) → off + n ≤ xs.length → hasB .i64 n = true → CanOk Tryz.prog f [slA 0 off n m] (byH xs) 1 [] (g n (win xs off n)) []) : SpecOk Tryz.prog f (bySpec g) := by
  refine can_spec hfn hb hname fun args H fr path r hs => ?_
  unfold bySpec at hs
  split at hs
  case h_2 => cases hs
  rename_i k off n c
  split at hs
  case h_2 => cases hs
  rename_i ty cs o hk'
  split at hs
  case h_2 => cases hs
  rename_i xs hxs
  injection hs with hs
  refine ⟨[k], [slA 0 off n c], byH xs, 1, 0, [], _, _, _, path, hs.symm, fun β us w ha hg hc => ?_⟩
  obtain ⟨u1, us1, r1, ha, rfl⟩ := ha
  obtain ⟨g1, g2, g3⟩ := good_by hg hk' hxs
  exact ⟨h off n c xs g1 (Nat.le_of_ble_eq_true hc.1) hc.2.1, hk _ _, ⟨u1, _, r1, ha, rfl⟩, g2, g3⟩
noncomputable def S28 : List (FuncId × ASpec) := (184, pureSpec (sp1 fun x => bytesA (x % pN))) :: (144, bySpec fun n l => fbA n (natB l)) :: S27
theorem S28ok : SpecsOk Tryz.prog S28 := ⟨pureSpec_ok Tryz.func184 (by kernel_rfl) (by kernel_rfl) (sp1_ok fun x _ => bytes_ok x), bySpec_ok Tryz.func144 (by kernel_rfl) (by kernel_rfl) (fun _ _ => rfl) (fun _ _ _ _ _ hl hn => fb_can hl hn), S27ok⟩
end Go.Proofs.YtfmajnlfpnjagaaGreat
/- sigilref04: P, minus, less: the contracts. -/
namespace Go.Proofs.YtfmajnlfpnjagaaGreat
open Ex Num
set_option maxRecDepth 100000
set_option maxHeartbeats 4000000

/- differences of many words -/
theorem sumL_append : ∀ (a b : List Int), sumL (a ++ b) = sumL a + ((2 ^ (64 * a.length) : Nat) : Int) * sumL b
  | [], b => by simp [sumL]
  | d :: a, b => by
    simp only [List.cons_append, sumL, List.length_cons]
    rw [sumL_append a b, show 64 * (a.length + 1) = 64 + 64 * a.length by omega, Nat.pow_add, Int.natCast_mul, Int.mul_add, Int.mul_assoc, ← Int.add_assoc]
    rfl
theorem mod_word (x k : Nat) : ((x % 2 ^ (64 * (k + 1)) : Nat) : Int) = ((x % 2 ^ (64 * k) : Nat) : Int) + ((2 ^ (64 * k) : Nat) : Int) * wordN x k := by
  rw [show 64 * (k + 1) = 64 * k + 64 by omega, Nat.pow_add, Nat.mod_mul, Int.natCast_add, Int.natCast_mul]; rfl
theorem pow_word (k : Nat) : ((2 ^ (64 * (k + 1)) : Nat) : Int) = ((2 ^ (64 * k) : Nat) : Int) * 18446744073709551616 := by
  rw [show 64 * (k + 1) = 64 * k + 64 by omega, Nat.pow_add, Int.natCast_mul]; rfl
theorem dif_chain (x y : Nat) : ∀ k, sumL ((List.range k).map (difD x y)) = ((x % 2 ^ (64 * k) : Nat) : Int) - ((y % 2 ^ (64 * k) : Nat) : Int) + ((2 ^ (64 * k) : Nat) : Int) * bch x y k
  | 0 => by simp [sumL, bch, Nat.mod_one]
  | k + 1 => by
    rw [List.range_succ, List.map_append, sumL_append, dif_chain x y k, mod_word, mod_word, pow_word]
    simp only [List.map_cons, List.map_nil, sumL, List.length_map, List.length_range, Int.mul_zero, Int.add_zero]
    rw [difD_eq x y k]
    generalize ((2 ^ (64 * k) : Nat) : Int) = Q
    simp only [Int.mul_add, Int.mul_sub, Int.mul_assoc]
    omega
theorem sum_chain (x y : Nat) : ∀ k, sumL ((List.range k).map (sumD x y)) = ((x % 2 ^ (64 * k) : Nat) : Int) + ((y % 2 ^ (64 * k) : Nat) : Int) - ((2 ^ (64 * k) : Nat) : Int) * cch x y k
  | 0 => by simp [sumL, cch, Nat.mod_one]
  | k + 1 => by
    rw [List.range_succ, List.map_append, sumL_append, sum_chain x y k, mod_word, mod_word, pow_word]
    simp only [List.map_cons, List.map_nil, sumL, List.length_map, List.length_range, Int.mul_zero, Int.add_zero]
    have := sumD_eq x y k
    have e : sumD x y k = wordN x k + wordN y k + cch x y k - 18446744073709551616 * cch x y (k + 1) := by omega
    rw [e]
    generalize ((2 ^ (64 * k) : Nat) : Int) = Q
    simp only [Int.mul_add, Int.mul_sub, Int.mul_assoc]
    omega
theorem dif_num {x y k : Nat} (hx : x < 2 ^ (64 * k)) (hy : y < 2 ^ (64 * k)) : (((x + (2 ^ (64 * k) - y)) % 2 ^ (64 * k) : Nat) : Int) = sumL ((List.range k).map (difD x y)) := by
  have h := dif_chain x y k
  rw [Nat.mod_eq_of_lt hx, Nat.mod_eq_of_lt hy] at h
  have hb := bch_bd x y k
  have hs : ∀ (ds : List Int), (∀ d ∈ ds, 0 ≤ d ∧ d < 18446744073709551616) → 0 ≤ sumL ds ∧ sumL ds < ((2 ^ (64 * ds.length) : Nat) : Int) := by
    intro ds
    induction ds with
    | nil => intro _; simp [sumL]
    | cons d r ih =>
      intro hd
      have h1 := hd d (by simp)
      have h2 := ih fun d h => hd d (by simp [h])
      rw [List.length_cons, pow_word]
      simp only [sumL]
      omega
  have hr := hs ((List.range k).map (difD x y)) (by intro d hd; obtain ⟨i, _, rfl⟩ := List.mem_map.1 hd; exact difD_bd x y i)
  rw [List.length_map, List.length_range, h] at hr
  rw [h]
  generalize 2 ^ (64 * k) = Q at *
  have h01 : bch x y k = 0 ∨ bch x y k = 1 := by omega
  rcases h01 with e | e
  · rw [e, Int.mul_zero, Int.add_zero] at hr ⊢
    have e1 : x + (Q - y) = (x - y) + Q := by omega
    rw [e1, Nat.add_mod_right, Nat.mod_eq_of_lt (by omega)]; omega
  · rw [e, Int.mul_one] at hr ⊢
    rw [Nat.mod_eq_of_lt (by omega)]; omega
theorem dif_numR {x y k R : Nat} (hR : R = 2 ^ (64 * k)) (hx : x < R) (hy : y < R) : (((x + (R - y)) % R : Nat) : Int) = sumL ((List.range k).map (difD x y)) := by subst hR; exact dif_num hx hy
theorem num_ok {f : FuncId} {args : List AV} {ds : List Int} {y : Nat} (h : PureOk Tryz.prog f args (.val true (wsCh ds))) (e : (y : Int) = sumL ds) : PureOk Tryz.prog f args (.val true [.num ds.length y]) := by
  refine pure_val h fun u hu => ?_
  obtain ⟨l, q, rfl⟩ := hu
  exact ⟨l, num_of_ws e q, rfl⟩

theorem rP_run : pureRun Tryz.prog (orc S0 K0) Tryz.f203 [] [] 100 = some ([], .val true Pw) := by kernel_rfl
theorem rP_ok : PureOk Tryz.prog 203 [] (.val true Pw) := pure_ok (orc_ok S0ok K0ok) mixed Tryz.func203 rP_run trivial rfl
def bcC (x y : Nat) : Nat → List (Bool × Bool)
  | 0 => []
  | k + 1 => bcC x y k ++ [(is01 (bch x y k), true)]
theorem bcC_ok (x y : Nat) : ∀ k, okConds (bcC x y k)
  | 0 => trivial
  | k + 1 => by
    have app : ∀ (a b : List (Bool × Bool)), okConds a → okConds b → okConds (a ++ b) := by
      intro a
      induction a with
      | nil => intro b _ h; exact h
      | cons c a ih => intro b h1 h2; exact ⟨h1.1, ih b h1.2 h2⟩
    exact app _ _ (bcC_ok x y k) ⟨is01_of (bch_bd _ _ _), trivial⟩
theorem rminus_run (x y : Nat) : pureRun Tryz.prog (orc S1 K0) Tryz.f244 [num6 x, num6 y] [] 300 = some (bcC x y 6, .val true (wsCh ((List.range 6).map (difD x y)))) := by kernel_rfl
theorem rminus_ok {x y : Nat} (hx : x < RR) (hy : y < RR) : PureOk Tryz.prog 244 [num6 x, num6 y] (num6 ((x + (RR - y)) % RR)) := by
  have h := pure_ok (orc_ok S1ok K0ok) mixed Tryz.func244 (rminus_run x y) (bcC_ok x y 6) rfl
  exact num_ok h (dif_numR (k := 6) RR_eq hx hy)

/- less -/
def pW (i : Nat) : Int := PL.getD i 0
def lsC (q : Int) : Nat → Int
  | 0 => 0
  | i + 1 => mW (mulHi (pW i) q + carW (mulLo (pW i) q) (lsC q i) 0)
def lsS (q : Int) (i : Nat) : Int := match Nat.blt i 6 with | true => sumW (mulLo (pW i) q) (lsC q i) 0 | false => sumW 0 (lsC q 6) 0
def lsB (t : Nat) (q : Int) : Nat → Int
  | 0 => 0
  | i + 1 => borW (wordN t i) (lsS q i) (lsB t q i)
def lsD (t : Nat) (q : Int) (i : Nat) : Int := difW (wordN t i) (lsS q i) (lsB t q i)
def lsK (t : Nat) (q : Int) : Nat → List (Bool × Bool)
  | 0 => []
  | k + 1 => lsK t q k ++ [(true, true), (is01 (lsB t q k), true)]
noncomputable def SP : List (FuncId × ASpec) := (203, pureSpec P_sp) :: S28
theorem SPok : SpecsOk Tryz.prog SP := ⟨pureSpec_ok Tryz.func203 (by kernel_rfl) (by kernel_rfl) (fun args v h => by
  unfold P_sp at h
  split at h
  · injection h with h; subst h; exact rP_ok
  · cases h), S28ok⟩
theorem rless_run (t : Nat) (q : Int) : pureRun Tryz.prog (orc SP K0) Tryz.f255 [.val true [.num 7 t], .val false [.v (.int .u64 q)]] [] 600 = some (lsK t q 7, .val true (wsCh ((List.range 7).map (lsD t q)))) := by kernel_rfl
theorem ls_word {a q c : Int} (ha : 0 ≤ a ∧ a < 18446744073709551616) (hq : 0 ≤ q ∧ q < 18446744073709551616) (hc : 0 ≤ c ∧ c < 18446744073709551616) :
    a * q + c = sumW (mulLo a q) c 0 + 18446744073709551616 * mW (mulHi a q + carW (mulLo a q) c 0) ∧ (0 ≤ sumW (mulLo a q) c 0 ∧ sumW (mulLo a q) c 0 < 18446744073709551616) ∧ (0 ≤ mW (mulHi a q + carW (mulLo a q) c 0) ∧ mW (mulHi a q + carW (mulLo a q) c 0) < 18446744073709551616) := by
  have h := mul_bd ha hq
  simp only [mW_eq]
  unfold sumW carW mulLo mulHi
  generalize a * q = z at *
  omega
theorem pW_bd (i : Nat) : 0 ≤ pW i ∧ pW i < 18446744073709551616 := getD_bd (ws := PL) (by decide) i
theorem lsC_bd {q : Int} (hq : 0 ≤ q ∧ q < 18446744073709551616) : ∀ i, 0 ≤ lsC q i ∧ lsC q i < 18446744073709551616
  | 0 => by simp [lsC]
  | i + 1 => (ls_word (pW_bd i) hq (lsC_bd hq i)).2.2
theorem ls_num {q : Nat} (hq : q < 18446744073709551616) : ((pN * q : Nat) : Int) = sumL ((List.range 7).map (lsS q)) ∧ ∀ i, i < 7 → lsS (q : Int) i = wordN (pN * q) i := by
  have hq' : 0 ≤ (q : Int) ∧ (q : Int) < 18446744073709551616 := by omega
  have key : ((pN * q : Nat) : Int) = sumL ((List.range 7).map (lsS q)) := by
    have e0 : pW 0 * q + lsC q 0 = lsS q 0 + 18446744073709551616 * lsC q 1 := (ls_word (pW_bd 0) hq' (lsC_bd hq' 0)).1
    have e1 : pW 1 * q + lsC q 1 = lsS q 1 + 18446744073709551616 * lsC q 2 := (ls_word (pW_bd 1) hq' (lsC_bd hq' 1)).1
    have e2 : pW 2 * q + lsC q 2 = lsS q 2 + 18446744073709551616 * lsC q 3 := (ls_word (pW_bd 2) hq' (lsC_bd hq' 2)).1
    have e3 : pW 3 * q + lsC q 3 = lsS q 3 + 18446744073709551616 * lsC q 4 := (ls_word (pW_bd 3) hq' (lsC_bd hq' 3)).1
    have e4 : pW 4 * q + lsC q 4 = lsS q 4 + 18446744073709551616 * lsC q 5 := (ls_word (pW_bd 4) hq' (lsC_bd hq' 4)).1
    have e5 : pW 5 * q + lsC q 5 = lsS q 5 + 18446744073709551616 * lsC q 6 := (ls_word (pW_bd 5) hq' (lsC_bd hq' 5)).1
    have z : lsC q 0 = 0 := rfl
    have c6 := lsC_bd hq' 6
    have e6 : lsS q 6 = lsC q 6 := by show sumW 0 (lsC q 6) 0 = _; unfold sumW; omega
    have w0 : pW 0 = 0xb9feffffffffaaab := rfl
    have w1 : pW 1 = 0x1eabfffeb153ffff := rfl
    have w2 : pW 2 = 0x6730d2a0f6b0f624 := rfl
    have w3 : pW 3 = 0x64774b84f38512bf := rfl
    have w4 : pW 4 = 0x4b1ba7b6434bacd7 := rfl
    have w5 : pW 5 = 0x1a0111ea397fe69a := rfl
    rw [w0] at e0
    rw [w1] at e1
    rw [w2] at e2
    rw [w3] at e3
    rw [w4] at e4
    rw [w5] at e5
    show _ = lsS q 0 + 18446744073709551616 * (lsS q 1 + 18446744073709551616 * (lsS q 2 + 18446744073709551616 * (lsS q 3 + 18446744073709551616 * (lsS q 4 + 18446744073709551616 * (lsS q 5 + 18446744073709551616 * (lsS q 6 + 18446744073709551616 * 0))))))
    rw [Int.natCast_mul]
    unfold pN
    omega
  refine ⟨key, fun i hi => ?_⟩
  have hb : ∀ d ∈ (List.range 7).map (lsS (q : Int)), 0 ≤ d ∧ d < 18446744073709551616 := by
    intro d hd
    obtain ⟨j, _, rfl⟩ := List.mem_map.1 hd
    unfold lsS
    split
    · exact (ls_word (pW_bd j) hq' (lsC_bd hq' j)).2.1
    · unfold sumW; omega
  obtain ⟨h1, _⟩ := sumL_of _ _ hb key
  have h2 := congrArg (fun l => l.getD i 0) h1
  simp only [List.length_map, List.length_range] at h2
  simpa [List.getD_eq_getElem?_getD, hi] using h2
theorem lsB_eq {t q : Nat} (hq : q < 18446744073709551616) : ∀ i, i ≤ 7 → lsB t q i = bch t (pN * q) i
  | 0, _ => rfl
  | i + 1, h => by simp only [lsB, bch]; rw [lsB_eq hq i (by omega), (ls_num hq).2 i (by omega)]
theorem rless_gen {t q R : Nat} (hR : R = 2 ^ (64 * 7)) (hp : pN * 18446744073709551616 < R) (ht : t < R) (hq : q < 18446744073709551616) : PureOk Tryz.prog 255 [.val true [.num 7 t], .val false [.v (.int .u64 q)]] (.val true [.num 7 ((t + (R - pN * q)) % R)]) := by
  have hc : ∀ k, k ≤ 7 → okConds (lsK t q k) := by
    intro k
    induction k with
    | zero => intro _; trivial
    | succ k ih =>
      intro hk
      have app : ∀ (a b : List (Bool × Bool)), okConds a → okConds b → okConds (a ++ b) := by
        intro a
        induction a with
        | nil => intro b _ h; exact h
        | cons c a ih => intro b h1 h2; exact ⟨h1.1, ih b h1.2 h2⟩
      exact app _ _ (ih (by omega)) ⟨rfl, by rw [lsB_eq hq k (by omega)]; exact is01_of (bch_bd _ _ _), trivial⟩
  have h := pure_ok (orc_ok SPok K0ok) mixed Tryz.func255 (rless_run t q) (hc 7 (Nat.le_refl _)) rfl
  have e : (List.range 7).map (lsD t q) = (List.range 7).map (difD t (pN * q)) := by
    refine List.map_congr_left fun i hi => ?_
    have hi' : i < 7 := List.mem_range.1 hi
    unfold lsD difD
    rw [lsB_eq hq i (by omega), (ls_num hq).2 i hi']
  rw [e] at h
  have hpq : pN * q < R := Nat.lt_of_le_of_lt (Nat.mul_le_mul_left _ (by omega)) hp
  exact num_ok h (dif_numR (k := 7) hR ht hpq)
def R7 : Nat := 726838724295606890549323807888004534353641360687318060281490199180639288113397923326191050713763565560762521606266177933534601628614656
theorem R7_eq : R7 = 2 ^ (64 * 7) := by kernel_rfl
theorem lt7 : Nat.blt (pN * 18446744073709551616) R7 = true := by kernel_rfl
theorem rless_ok {t q : Nat} (ht : t < R7) (hq : q < 18446744073709551616) : PureOk Tryz.prog 255 [.val true [.num 7 t], .val false [.v (.int .u64 q)]] (.val true [.num 7 ((t + (R7 - pN * q)) % R7)]) :=
  rless_gen R7_eq (nblt.1 lt7) ht hq
end Go.Proofs.YtfmajnlfpnjagaaGreat
/- sigilref04: Below, Reduce: the contracts. -/
namespace Go.Proofs.YtfmajnlfpnjagaaGreat
open Ex Num
set_option maxRecDepth 100000
set_option maxHeartbeats 4000000

def blC (x : Nat) : Nat → List (Bool × Bool)
  | 0 => []
  | k + 1 => blC x k ++ [(!decide (wordN x (5 - k) = pW (5 - k)), false)]
def fls : Nat → List Bool
  | 0 => []
  | k + 1 => false :: fls k
theorem below_run (x k : Nat) (h : k < 6) : pureRun Tryz.prog (orc SP K0) Tryz.f253 [num6 x] (fls k ++ [true]) 300 =
    some (blC x k ++ [(!decide (wordN x (5 - k) = pW (5 - k)), true)], boolA (decide (wordN x (5 - k) < pW (5 - k)))) := by
  obtain rfl | rfl | rfl | rfl | rfl | rfl : k = 0 ∨ k = 1 ∨ k = 2 ∨ k = 3 ∨ k = 4 ∨ k = 5 := by omega
  all_goals kernel_rfl
theorem below_eq (x : Nat) : pureRun Tryz.prog (orc SP K0) Tryz.f253 [num6 x] (fls 6) 300 = some (blC x 6, .val false [.b false]) := by kernel_rfl
theorem ok_app {a b : List (Bool × Bool)} (h1 : okConds a) (h2 : okConds b) : okConds (a ++ b) := by
  induction a with
  | nil => exact h2
  | cons c a ih => exact ⟨h1.1, ih h1.2⟩
theorem blC_ok {x k : Nat} (h : ∀ j, j < k → wordN x (5 - j) = pW (5 - j)) : okConds (blC x k) := by
  induction k with
  | zero => trivial
  | succ k ih => exact ok_app (ih fun j hj => h j (by omega)) ⟨by simp [h k (by omega)], trivial⟩
theorem pW_word (i : Nat) (h : i < 6) : pW i = wordN pN i := by
  obtain rfl | rfl | rfl | rfl | rfl | rfl : i = 0 ∨ i = 1 ∨ i = 2 ∨ i = 3 ∨ i = 4 ∨ i = 5 := by omega
  all_goals kernel_rfl
theorem top_words {x y : Nat} (hx : x < RR) (hy : y < RR) : ∀ k, k ≤ 6 → (∀ j, j < k → wordN x (5 - j) = wordN y (5 - j)) → x / 2 ^ (64 * (6 - k)) = y / 2 ^ (64 * (6 - k))
  | 0, _, _ => by
    rw [RR_eq] at hx hy
    have gen : ∀ K z : Nat, z < 2 ^ (64 * K) → z / 2 ^ (64 * (K - 0)) = 0 := fun K z hz => by rw [Nat.sub_zero]; exact Nat.div_eq_of_lt hz
    exact (gen 6 x hx).trans (gen 6 y hy).symm
  | k + 1, hk, h => by
    have ih := top_words hx hy k (by omega) fun j hj => h j (by omega)
    have hw := h k (by omega)
    have e : ∀ z : Nat, z / 2 ^ (64 * (6 - (k + 1))) = z / 2 ^ (64 * (6 - k)) * 2 ^ 64 + z / 2 ^ (64 * (5 - k)) % 2 ^ 64 := by
      intro z
      rw [show 64 * (6 - k) = 64 * (5 - k) + 64 by omega, Nat.pow_add, ← Nat.div_div_eq_div_mul, show 6 - (k + 1) = 5 - k by omega]
      have := Nat.div_add_mod (z / 2 ^ (64 * (5 - k))) (2 ^ 64)
      rw [Nat.mul_comm] at this
      exact this.symm
    unfold wordN at hw
    rw [e x, e y, ih]
    omega
theorem words_lt {x y k : Nat} (hx : x < RR) (hy : y < RR) (hk : k < 6) (h : ∀ j, j < k → wordN x (5 - j) = wordN y (5 - j)) (hne : wordN x (5 - k) ≠ wordN y (5 - k)) : decide (wordN x (5 - k) < wordN y (5 - k)) = decide (x < y) := by
  have ht := top_words hx hy k (by omega) h
  have es : ∀ z : Nat, z / 2 ^ (64 * (5 - k)) = z / 2 ^ (64 * (6 - k)) * 2 ^ 64 + z / 2 ^ (64 * (5 - k)) % 2 ^ 64 := by
    intro z
    rw [show 64 * (6 - k) = 64 * (5 - k) + 64 by omega, Nat.pow_add, ← Nat.div_div_eq_div_mul]
    have := Nat.div_add_mod (z / 2 ^ (64 * (5 - k))) (2 ^ 64)
    rw [Nat.mul_comm] at this
    exact this.symm
  have e1 := es x
  have e2 := es y
  rw [ht] at e1
  unfold wordN at hne ⊢
  by_cases hl : ((x / 2 ^ (64 * (5 - k)) % 2 ^ 64 : Nat) : Int) < ((y / 2 ^ (64 * (5 - k)) % 2 ^ 64 : Nat) : Int)
  · rw [decide_eq_true hl, decide_eq_true (ltdiv (Q := 2 ^ (64 * (5 - k))) (by omega))]
  · have : y < x := ltdiv (Q := 2 ^ (64 * (5 - k))) (by omega)
    rw [decide_eq_false hl, decide_eq_false (by omega)]
theorem words_eq {x y : Nat} (hx : x < RR) (hy : y < RR) (h : ∀ j, j < 6 → wordN x (5 - j) = wordN y (5 - j)) : x = y := by
  have ht := top_words hx hy 6 (Nat.le_refl _) h
  rwa [Nat.sub_self, Nat.mul_zero, Nat.pow_zero, Nat.div_one, Nat.div_one] at ht
theorem pN_lt_RR : pN < RR := by decide
theorem bool_val {P : Program} {f : FuncId} {args : List AV} {a b : Bool} (h : PureOk P f args (boolA a)) (e : a = b) : PureOk P f args (boolA b) := by rw [← e]; exact h
theorem below_at {x k : Nat} (hx : x < RR) (hk : k < 6) (h : ∀ j, j < k → wordN x (5 - j) = pW (5 - j)) (hne : wordN x (5 - k) ≠ pW (5 - k)) : PureOk Tryz.prog 253 [num6 x] (boolA (decide (x < pN))) := by
  have hrun := pure_ok (orc_ok SPok K0ok) mixed Tryz.func253 (below_run x k hk) (ok_app (blC_ok h) ⟨by rw [decide_eq_false hne]; rfl, trivial⟩) rfl
  refine bool_val hrun ?_
  have e : ∀ j, j < 6 → pW (5 - j) = wordN pN (5 - j) := fun j _ => pW_word _ (by omega)
  rw [e k hk] at hne ⊢
  exact words_lt hx pN_lt_RR hk (fun j hj => (h j hj).trans (e j (by omega))) hne
theorem below_end {x : Nat} (hx : x < RR) (h : ∀ j, j < 6 → wordN x (5 - j) = pW (5 - j)) : PureOk Tryz.prog 253 [num6 x] (boolA (decide (x < pN))) := by
  have e : ∀ j, j < 6 → pW (5 - j) = wordN pN (5 - j) := fun j _ => pW_word _ (by omega)
  have hq : decide (x < pN) = false := by
    have := words_eq hx pN_lt_RR fun j hj => (h j hj).trans (e j hj)
    exact decide_eq_false (by rw [this]; exact Nat.lt_irrefl _)
  rw [hq]
  refine pure_val (pure_ok (orc_ok SPok K0ok) mixed Tryz.func253 (below_eq x) (blC_ok h) rfl) fun u hu => ?_
  obtain ⟨l1, l2, h1, h3, h4⟩ := hu
  exact ⟨l1, l2, ⟨h1, rfl, trivial⟩, h3, h4⟩
theorem below_ok {x : Nat} (hx : x < RR) : PureOk Tryz.prog 253 [num6 x] (boolA (decide (x < pN))) := by
  have key : ∀ r k, k + r = 6 → (∀ j, j < k → wordN x (5 - j) = pW (5 - j)) → PureOk Tryz.prog 253 [num6 x] (boolA (decide (x < pN))) := by
    intro r
    induction r with
    | zero =>
      intro k hk h
      exact below_end hx fun j hj => h j (by omega)
    | succ r ih =>
      intro k hk h
      by_cases hw : wordN x (5 - k) = pW (5 - k)
      · exact ih (k + 1) (by omega) fun j hj => by
          rcases Nat.lt_or_ge j k with h1 | h1
          · exact h j h1
          · rw [show j = k by omega]; exact hw
      · exact below_at hx (by omega) h hw
  exact key 6 0 (by omega) fun j hj => by omega
noncomputable def SQ : List (FuncId × ASpec) := (244, pureSpec (sp2 fun x y => num6 ((x + (RR - y)) % RR))) :: (253, pureSpec (sp1 fun x => boolA (decide (x < pN)))) :: SP
theorem SQok : SpecsOk Tryz.prog SQ := ⟨pureSpec_ok Tryz.func244 (by kernel_rfl) (by kernel_rfl) (sp2_ok fun _ _ hx hy => rminus_ok hx hy), pureSpec_ok Tryz.func253 (by kernel_rfl) (by kernel_rfl) (sp1_ok fun _ hx => below_ok hx), SPok⟩
/- Reduce -/
noncomputable def rrTodo : List Item := todoOf (aSeg Tryz.prog (orc SQ K0) (some 0) 100 0 none (entry Tryz.f202 [num6 0] [] 0 []))
noncomputable def rrS (x : Nat) (p : List Bool) : ASt := ⟨rrTodo, ⟨mkT Tryz.f202.ntmps [(1, .val false [.p 0 0]), (2, .val false [.p 1 0])], [(0, some ⟨40, [.num 6 x], false⟩), (1, some ⟨40, zero6, false⟩)], 2, p⟩⟩
abbrev rrK : Option (List Nat × List Nat × Nat) := some ([1, 2], [0, 1], 2)
theorem rr_entry (x : Nat) : aSeg Tryz.prog (orc SQ K0) (some 0) 100 0 rrK (entry Tryz.f202 [num6 x] [] 0 []) = some ([], [], rrS x []) := by kernel_rfl
theorem rr_step (x : Nat) : aSeg Tryz.prog (orc SQ K0) (some 0) 100 0 rrK (rrS x [true]) = some ([(!decide (x < pN), true)], [], rrS ((x + (RR - pN)) % RR) []) := by kernel_rfl
theorem rr_exit (x : Nat) : segRet Tryz.prog (orc SQ K0) Tryz.f202 100 0 (rrS x [false]) = some ([(!decide (x < pN), false)], [], num6 x) := by kernel_rfl
theorem rr_safe (w0 : World) (v : Nat) : ∀ (x : Nat), x < RR → x % pN = v → ASafe Tryz.prog 202 noEnv w0 (PureOut w0 (num6 v)) Tryz.f202.ntmps [] (rrS x []) := by
  intro x
  induction x using Nat.strongRecOn with
  | _ x ih =>
    intro hx hv
    rcases Nat.lt_or_ge x pN with hlt | hge
    · rw [Nat.mod_eq_of_lt hlt] at hv
      subst hv
      exact path_safe [false] (ret_safe (orc_ok SQok K0ok) mixed Tryz.func202 (rr_exit x) ⟨by simp [hlt], trivial⟩ (wfB_ok (by kernel_rfl)) (fun _ _ => rfl) rfl)
    · have hp := pN_pos
      have hpR : pN ≤ RR := by decide
      refine path_safe [true] (seg_safe (orc_ok SQok K0ok) mixed (rr_step x) ⟨by simp; omega, trivial⟩ (wfB_ok (by kernel_rfl)) (fun _ _ => rfl) (fun _ h => by cases h) fun _ => ?_)
      have e : (x + (RR - pN)) % RR = x - pN := by rw [show x + (RR - pN) = (x - pN) + RR by omega, Nat.add_mod_right, Nat.mod_eq_of_lt (by omega)]
      rw [e]
      exact ih (x - pN) (by omega) (by omega) (by rw [← hv, ← Nat.mod_eq_sub_mod hge])
theorem rr_ok {x : Nat} (hx : x < RR) : PureOk Tryz.prog 202 [num6 x] (num6 (x % pN)) :=
  pure_entry (path := []) Tryz.func202 (by kernel_rfl) (by kernel_rfl) fun w0 => seg_safe (orc_ok SQok K0ok) mixed (rr_entry x) trivial (wfB_ok (by kernel_rfl)) (fun _ _ => rfl) (fun _ h => by cases h) fun _ => rr_safe w0 _ x hx rfl
def lessRs (t q : Nat) : Nat := (t + (R7 - pN * q)) % R7
def lessRsp : List AV → Option AV
  | [.val true a, B] => match asNum 7 a, asI (some B) with
    | some x, some (_, .u64, h) => some (.val true [.num 7 (lessRs x h.toNat)])
    | _, _ => none
  | _ => none
theorem lessRsp_ok : ∀ args v, lessRsp args = some v → PureOk Tryz.prog 255 args v := by
  intro args v h us w ha
  unfold lessRsp at h
  split at h
  case h_2 => cases h
  rename_i a B
  split at h
  case h_2 => cases h
  rename_i x c h0 hx hy
  injection h with h; subst h
  obtain ⟨u1, us1, r1, ⟨u2, us2, r2, ha, rfl⟩, rfl⟩ := ha
  obtain ⟨q0, q1, hlt⟩ := normN hx r1
  obtain ⟨q2, h2⟩ := normI hy r2
  have bh := u64_bounds h2
  obtain ⟨q, rfl⟩ := Int.eq_ofNat_of_zero_le bh.1
  have hq : q < 18446744073709551616 := by
    clear hlt
    omega
  exact rless_ok (R7_eq ▸ hlt) hq _ w ⟨u1, _, q0, ⟨u2, _, q2, ha, rfl⟩, rfl⟩
noncomputable def SR : List (FuncId × ASpec) := (202, pureSpec (sp1 fun x => num6 (x % pN))) :: (255, pureSpec lessRsp) :: SQ
theorem SRok : SpecsOk Tryz.prog SR := ⟨pureSpec_ok Tryz.func202 (by kernel_rfl) (by kernel_rfl) (sp1_ok fun _ hx => rr_ok hx), pureSpec_ok Tryz.func255 (by kernel_rfl) (by kernel_rfl) lessRsp_ok, SQok⟩
end Go.Proofs.YtfmajnlfpnjagaaGreat
/- sigilref04.next: the contract. -/
namespace Go.Proofs.YtfmajnlfpnjagaaGreat
open Ex Num
set_option maxRecDepth 100000
set_option maxHeartbeats 4000000

abbrev nxK : Option (List Nat × List Nat × Nat) := some ([4, 6], [1, 3], 4)
noncomputable def nxTodo : List Item := todoOf (aSeg Tryz.prog (orc SR K0) (some 0) 100 0 none (entry Tryz.f206 [num6 0, uV 0] [] 0 []))
noncomputable def nxS (T : Nat) (p : List Bool) : ASt := ⟨nxTodo, ⟨mkT Tryz.f206.ntmps [(4, .val false [.p 1 0]), (6, .val false [.p 3 0])], [(1, some ⟨40, zero6, false⟩), (3, some ⟨210, [.num 7 T], false⟩)], 4, p⟩⟩
def nxQ (a4 a5 : Int) : Nat := Int.toNat (((a5.toNat * W64 + a4.toNat) / Int.toNat (mW (1873798617647539866 + 1)) : Nat) : Int)
theorem nxQ_eq (a4 a5 : Int) : nxQ a4 a5 = (a5.toNat * W64 + a4.toNat) / 1873798617647539867 := by
  unfold nxQ
  rw [Int.toNat_natCast]
  rfl
theorem nx_entry (a0 a1 a2 a3 a4 a5 w : Int) : aSeg Tryz.prog (orc SR K0) (some 0) 100 0 nxK (entry Tryz.f206 [.val true (w6 a0 a1 a2 a3 a4 a5), uV w] [] 0 []) =
  some ([(decide (a5 < 1873798617647539867), true)], [], nxS (lessRs (natL [w, a0, a1, a2, a3, a4, a5]) (nxQ a4 a5)) []) := by kernel_rfl
theorem nx_step (T : Nat) : aSeg Tryz.prog (orc SR K0) (some 0) 100 0 nxK (nxS T [true]) = some ([(decide (0 < wordN T 6), true)], [], nxS (lessRs T 1) []) := by kernel_rfl
theorem nx_exit (T : Nat) : segRet Tryz.prog (orc SR K0) Tryz.f206 100 0 (nxS T [false]) = some ([(decide (0 < wordN T 6), false)], [], num6 (natL ((List.range 6).map (wordN T)) % pN)) := by kernel_rfl
theorem lessRs_eq {T q : Nat} (hT : T < R7) (h : pN * q ≤ T) : lessRs T q = T - pN * q := by
  unfold lessRs
  generalize R7 = Q at *
  rw [show T + (Q - pN * q) = (T - pN * q) + Q by omega, Nat.add_mod_right, Nat.mod_eq_of_lt (by omega)]
theorem natL_words {x k : Nat} (h : x < 2 ^ (64 * k)) : natL ((List.range k).map (wordN x)) = x := wordL_natL h
theorem p7 : R7 = RR * 18446744073709551616 := by kernel_rfl
theorem p5 : 2 ^ (64 * 5) * 18446744073709551616 = RR := by kernel_rfl
theorem p5' : RR = 2 ^ (64 * 5) * 2 ^ 64 := by kernel_rfl
theorem nx_safe (w0 : World) (v : Nat) : ∀ (T : Nat), T < R7 → T % pN = v → ASafe Tryz.prog 206 noEnv w0 (PureOut w0 (num6 v)) Tryz.f206.ntmps [] (nxS T []) := by
  intro T
  induction T using Nat.strongRecOn with
  | _ T ih =>
    intro hT hv
    have hw : wordN T 6 = ((T / RR : Nat) : Int) := by
      unfold wordN
      rw [← RR_eq, Nat.mod_eq_of_lt]
      refine Nat.div_lt_of_lt_mul ?_
      rw [p7] at hT; exact hT
    by_cases h : 0 < T / RR
    · have hp := pN_pos
      have hpR := pN_lt_RR
      have hR : 0 < RR := by decide
      have hge : RR ≤ T := by
        rcases Nat.lt_or_ge T RR with h1 | h1
        · rw [Nat.div_eq_of_lt h1] at h; omega
        · exact h1
      refine path_safe [true] (seg_safe (orc_ok SRok K0ok) mixed (nx_step T) ⟨by rw [hw]; simp only [decide_eq_true_eq]; omega, trivial⟩ (wfB_ok (by kernel_rfl)) (fun _ _ => rfl) (fun _ h => by cases h) fun _ => ?_)
      rw [lessRs_eq hT (by omega), Nat.mul_one]
      exact ih (T - pN) (by omega) (by omega) (by rw [← hv, ← Nat.mod_eq_sub_mod (by omega)])
    · have hlt : T < RR := by
        rcases Nat.lt_or_ge T RR with h1 | h1
        · exact h1
        · exact absurd (Nat.div_pos h1 (by decide)) h
      have := ret_safe (w0 := w0) (β0 := noEnv) (n := Tryz.f206.ntmps) (orc_ok SRok K0ok) mixed Tryz.func206 (nx_exit T) ⟨by rw [hw]; simp only [decide_eq_false_iff_not]; omega, trivial⟩ (wfB_ok (by kernel_rfl)) (fun _ _ => rfl) rfl
      rw [natL_words (by rw [← RR_eq]; exact hlt), hv] at this
      exact path_safe [false] this
theorem p_top : Nat.blt pN (2 ^ (64 * 5) * 1873798617647539867) = true := by kernel_rfl
theorem pow_step (k j : Nat) (h : j = k + 1) : 2 ^ (64 * j) = 2 ^ (64 * k) * 18446744073709551616 := by
  subst h
  rw [show 64 * (k + 1) = 64 * k + 64 by omega, Nat.pow_add]
theorem join_words (x k j : Nat) (h : j = k + 1) : x / 2 ^ (64 * j) * W64 + (wordN x k).toNat = x / 2 ^ (64 * k) := by
  rw [pow_step k j h, ← Nat.div_div_eq_div_mul]
  have := Nat.div_add_mod (x / 2 ^ (64 * k)) 18446744073709551616
  unfold wordN W64
  rw [Int.toNat_natCast]
  omega
theorem p_le (P : Nat) (h : Nat.blt pN (P * 1873798617647539867) = true) : pN ≤ 1873798617647539867 * P := by rw [Nat.mul_comm]; exact Nat.le_of_lt (nblt.1 h)
theorem nq_le {p q A P Q x w : Nat} (hp : p ≤ 1873798617647539867 * P) (h1 : q * 1873798617647539867 ≤ A) (h2 : A * Q ≤ x) (e : P = Q * 18446744073709551616) : p * q ≤ w + 18446744073709551616 * x := by
  calc p * q ≤ (1873798617647539867 * P) * q := Nat.mul_le_mul_right _ hp
    _ = (q * 1873798617647539867) * P := by rw [Nat.mul_comm, Nat.mul_assoc]
    _ ≤ A * P := Nat.mul_le_mul_right _ h1
    _ = (A * Q) * 18446744073709551616 := by rw [e, Nat.mul_assoc]
    _ ≤ x * 18446744073709551616 := Nat.mul_le_mul_right _ h2
    _ ≤ w + 18446744073709551616 * x := by rw [Nat.mul_comm]; exact Nat.le_add_left _ _
theorem next_ok {x w : Nat} (hx : x < pN) (hw : w < 18446744073709551616) : PureOk Tryz.prog 206 [num6 x, uV w] (num6 ((w + 18446744073709551616 * x) % pN)) := by
  have hpR := pN_lt_RR
  have h5 : wordN x 5 = ((x / 2 ^ (64 * 5) : Nat) : Int) := by
    unfold wordN
    rw [Nat.mod_eq_of_lt]
    have h : x < 2 ^ (64 * 5) * 2 ^ 64 := by rw [← p5']; exact Nat.lt_trans hx pN_lt_RR
    exact Nat.div_lt_of_lt_mul h
  have hlt5 : x / 2 ^ (64 * 5) < 1873798617647539867 := by
    refine Nat.div_lt_of_lt_mul (Nat.lt_trans hx ?_)
    exact nblt.1 p_top
  have h4 : (wordN x 5).toNat * W64 + (wordN x 4).toNat = x / 2 ^ (64 * 4) := by
    rw [h5, Int.toNat_natCast]
    exact join_words x 4 5 rfl
  have hT : natL [(w : Int), wordN x 0, wordN x 1, wordN x 2, wordN x 3, wordN x 4, wordN x 5] = w + 18446744073709551616 * x := by
    have := natL_words (x := x) (k := 6) (by rw [← RR_eq]; omega)
    show (w : Int).toNat + 18446744073709551616 * natL [wordN x 0, wordN x 1, wordN x 2, wordN x 3, wordN x 4, wordN x 5] = _
    rw [Int.toNat_natCast]
    exact congrArg (fun z => w + 18446744073709551616 * z) this
  have hT7 : w + 18446744073709551616 * x < R7 := by rw [p7]; omega
  have hq : pN * nxQ (wordN x 4) (wordN x 5) ≤ w + 18446744073709551616 * x := by
    refine nq_le (p_le (2 ^ (64 * 5)) p_top) ?_ (Nat.div_mul_le_self x (2 ^ (64 * 4))) (pow_step 4 5 rfl)
    rw [nxQ_eq, h4]; exact Nat.div_mul_le_self _ _
  intro us w1 ⟨u1, us1, r1, r2, r3⟩
  refine pure_entry (args := [.val true (w6 (wordN x 0) (wordN x 1) (wordN x 2) (wordN x 3) (wordN x 4) (wordN x 5)), uV w]) (path := []) Tryz.func206 (by kernel_rfl) (by kernel_rfl) (fun w0 => ?_) us w1 ⟨u1, us1, ?_, r2, r3⟩
  case refine_2 =>
    have := (normN (k := 6) (a := [.num 6 x]) asInum r1).2.1
    rwa [wordsCh6] at this
  refine seg_safe (orc_ok SRok K0ok) mixed (nx_entry (wordN x 0) (wordN x 1) (wordN x 2) (wordN x 3) (wordN x 4) (wordN x 5) w) ⟨by rw [h5]; simp only [decide_eq_true_eq]; omega, trivial⟩ (wfB_ok (by kernel_rfl)) (fun _ _ => rfl) (fun _ h => by cases h) fun _ => ?_
  rw [hT, lessRs_eq hT7 hq]
  refine nx_safe w0 _ _ (by omega) ?_
  exact Nat.sub_mul_mod hq
def nextSp : List AV → Option (List (Bool × Bool) × AV)
  | [.val true a, B] => match asNum 6 a, asI (some B) with
    | some x, some (_, .u64, w) => some ([(decide (x < pN), true)], num6 ((w.toNat + 18446744073709551616 * x) % pN))
    | _, _ => none
  | _ => none
theorem nextSp_ok : ∀ args c v, nextSp args = some (c, v) → okConds c → PureOk Tryz.prog 206 args v := by
  intro args cs v h hc us w ha
  unfold nextSp at h
  split at h
  case h_2 => cases h
  rename_i a B
  split at h
  case h_2 => cases h
  rename_i x c h0 hx hy
  injection h with h; injection h with h1 h2; subst h1; subst h2
  obtain ⟨u1, us1, r1, ⟨u2, us2, r2, ha, rfl⟩, rfl⟩ := ha
  obtain ⟨q0, q1, hlt⟩ := normN hx r1
  obtain ⟨q2, h2⟩ := normI hy r2
  have bh := u64_bounds h2
  obtain ⟨q, rfl⟩ := Int.eq_ofNat_of_zero_le bh.1
  exact next_ok (of_decide_eq_true hc.1) (by omega) _ w ⟨u1, _, q0, ⟨u2, _, q2, ha, rfl⟩, rfl⟩
noncomputable def ST : List (FuncId × ASpec) := (206, condSpec nextSp) :: SR
theorem STok : SpecsOk Tryz.prog ST := ⟨condSpec_ok Tryz.func206 (by kernel_rfl) (by kernel_rfl) nextSp_ok, SRok⟩
end Go.Proofs.YtfmajnlfpnjagaaGreat
/- sigilref04: Add, Neg, Sub, Mul: the contracts. -/
namespace Go.Proofs.YtfmajnlfpnjagaaGreat
open Ex Num
set_option maxRecDepth 100000
set_option maxHeartbeats 4000000

/- memory told otherwise -/
def HImp : Heap → Heap → Prop
  | [], [] => True
  | (k, some b) :: r, (k', some b') :: r' => k = k' ∧ b'.ty = b.ty ∧ b'.opn = b.opn ∧ (∀ β l, relL β b.cs l → relL β b'.cs l) ∧ HImp r r'
  | _, _ => False
theorem himp_get : ∀ {H H' : Heap} {j : Nat} {d : Blk}, HImp H H' → hget H' j = some d → ∃ b, hget H j = some b ∧ d.ty = b.ty ∧ d.opn = b.opn ∧ ∀ β l, relL β b.cs l → relL β d.cs l
  | [], [], _, _, _, h => by cases h
  | (k, some b) :: r, (k', some b') :: r', j, d, ⟨e, h1, h2, h3, h4⟩, h => by
    subst e
    simp only [hget] at h ⊢
    split at h
    · rename_i hk; injection h with h; subst h; exact ⟨b, rfl, h1, h2, h3⟩
    · rename_i hk; exact himp_get h4 h
  | [], _ :: _, _, _, h, _ => by cases h
  | (_, none) :: _, _, _, _, h, _ => by cases h
  | (_, some _) :: _, [], _, _, h, _ => by cases h
  | (_, some _) :: _, (_, none) :: _, _, _, h, _ => by cases h
theorem himp_safe {P : Program} {f : FuncId} {β0 : Env} {w0 : World} {R : Ending → World → Prop} {n : Nat} {W : List Nat} {todo : List Item} {T : List AV} {H H' : Heap} {fr : Nat} {p : List Bool} (hi : HImp H H') (h : ASafe P f β0 w0 R n W ⟨todo, ⟨T, H', fr, p⟩⟩) : ASafe P f β0 w0 R n W ⟨todo, ⟨T, H, fr, p⟩⟩ := by
  intro β a w hv hf
  refine h β a w { hv with good := ⟨fun b blk hb => ?_, fun b b' B n n' h1 h2 h3 h4 => ?_, hv.good.lt⟩ } hf
  · obtain ⟨x, hx, h1, h2, h3⟩ := himp_get hi hb
    exact relB_in (hv.good.heap b x hx) rfl (.inr ⟨h1, h2⟩) (h3 β)
  · refine hv.good.inj b b' B n n' ?_ ?_ h3 h4
    · obtain ⟨d, hd, hr⟩ := rwK_some h1
      obtain ⟨x, hx, q1, _⟩ := himp_get hi hd
      exact rwK_mk hx (by rw [← q1]; exact hr)
    · obtain ⟨d, hd⟩ := Option.isSome_iff_exists.1 h2
      obtain ⟨x, hx, _⟩ := himp_get hi hd
      rw [hx]; rfl
theorem same_cells (β : Env) (c : List Ch) (l : List Value) (h : relL β c l) : relL β c l := h
theorem ws_num {ds : List Int} {y : Nat} (e : (y : Int) = sumL ds) (β : Env) (l : List Value) (h : relL β (wsCh ds) l) : relL β [.num ds.length y] l := num_of_ws e h

/- Add, Neg, Sub -/
def ccC (x y : Nat) : Nat → List (Bool × Bool)
  | 0 => []
  | k + 1 => ccC x y k ++ [(is01 (cch x y k), true)]
theorem ccC_ok (x y : Nat) : ∀ k, okConds (ccC x y k)
  | 0 => trivial
  | k + 1 => ok_app (ccC_ok x y k) ⟨is01_of (cch_bd _ _ _), trivial⟩
theorem radd_run (x y : Nat) : pureRun Tryz.prog (orc ST K0) Tryz.f173 [num6 x, num6 y] [] 500 = some (ccC (x % pN) (y % pN) 6, num6 (sumN (x % pN) (y % pN) % pN)) := by kernel_rfl
theorem radd_ok (x y : Nat) : PureOk Tryz.prog 173 [num6 x, num6 y] (num6 (addN x y)) := by
  have h := pure_ok (orc_ok STok K0ok) mixed Tryz.func173 (radd_run x y) (ccC_ok _ _ _) rfl
  obtain ⟨h1, h2⟩ := sumN_eq (lt_RR_mod x) (lt_RR_mod y)
  have h3 := modp_lt x
  have h4 := modp_lt y
  have h5 := pN_RR
  have hc : (cch (x % pN) (y % pN) 6).toNat = 0 := by
    have := cch_bd (x % pN) (y % pN) 6
    have h01 : (cch (x % pN) (y % pN) 6).toNat = 0 ∨ (cch (x % pN) (y % pN) 6).toNat = 1 := by omega
    rcases h01 with e | e
    · exact e
    · rw [e] at h1; omega
  rw [hc] at h1
  have : sumN (x % pN) (y % pN) = x % pN + y % pN := by omega
  rw [this] at h
  exact h
theorem rneg_run (x : Nat) : pureRun Tryz.prog (orc ST K0) Tryz.f174 [num6 x] [] 500 = some ([], num6 (((natL PL + (RR - x % pN)) % RR) % pN)) := by kernel_rfl
theorem natL_PL' : natL PL = pN := by kernel_rfl
theorem rneg_ok (x : Nat) : PureOk Tryz.prog 174 [num6 x] (num6 (negN x)) := by
  have h := pure_ok (orc_ok STok K0ok) mixed Tryz.func174 (rneg_run x) trivial rfl
  have h3 := modp_lt x
  have h5 := pN_RR
  have : (natL PL + (RR - x % pN)) % RR = pN - x % pN := by
    rw [natL_PL', show pN + (RR - x % pN) = (pN - x % pN) + RR by omega, Nat.add_mod_right, Nat.mod_eq_of_lt (by omega)]
  rw [this] at h
  exact h
noncomputable def SU : List (FuncId × ASpec) := (173, pureSpec (sp2 fun x y => num6 (addN x y))) :: (174, pureSpec (sp1 fun x => num6 (negN x))) :: ST
theorem SUok : SpecsOk Tryz.prog SU := ⟨pureSpec_ok Tryz.func173 (by kernel_rfl) (by kernel_rfl) (sp2_ok fun x y _ _ => radd_ok x y), pureSpec_ok Tryz.func174 (by kernel_rfl) (by kernel_rfl) (sp1_ok fun x _ => rneg_ok x), STok⟩
theorem rsub_run (x y : Nat) : pureRun Tryz.prog (orc SU K0) Tryz.f181 [num6 x, num6 y] [] 300 = some ([], num6 (subN x y)) := by kernel_rfl
theorem rsub_ok (x y : Nat) : PureOk Tryz.prog 181 [num6 x, num6 y] (num6 (subN x y)) := pure_ok (orc_ok SUok K0ok) mixed Tryz.func181 (rsub_run x y) trivial rfl

/- Mul: a row -/
noncomputable def rmTodo : List Item := todoOf (aSeg Tryz.prog (orc SU K0) (some 0) 100 0 none (entry Tryz.f125 [num6 0, num6 0] [] 0 []))
noncomputable def rmS (x y : Nat) (t : List Ch) (i : Nat) (p : List Bool) : ASt := ⟨rmTodo, ⟨mkT Tryz.f125.ntmps [(4, .val false [.p 2 0]), (5, .val false [.p 3 0]), (6, .val false [.p 4 0]), (7, .val false [.p 5 0]), (8, .val false [.n .i64 i])],
  [(2, some ⟨40, zero6, false⟩), (3, some ⟨40, [.num 6 x], false⟩), (4, some ⟨40, [.num 6 y], false⟩), (5, some ⟨181, t, false⟩)], 6, p⟩⟩
abbrev rmK : Option (List Nat × List Nat × Nat) := some ([4, 5, 6, 7, 8], [2, 3, 4, 5], 6)
def rowC (xi : Int) (y T i : Nat) : Nat → Int
  | 0 => 0
  | k + 1 => mW (mW (mulHi xi (wordN y k) + carW (mulLo xi (wordN y k)) (rowC xi y T i k) 0) + carW (wordN T (i + k)) (sumW (mulLo xi (wordN y k)) (rowC xi y T i k) 0) 0)
def rowT (xi : Int) (y T i k : Nat) : Int := sumW (wordN T (i + k)) (sumW (mulLo xi (wordN y k)) (rowC xi y T i k) 0) 0
def rowL (xi : Int) (y T i : Nat) : List Int := (List.range i).map (wordN T) ++ ((List.range 6).map (rowT xi y T i) ++ (rowC xi y T i 6 :: (List.range (5 - i)).map fun j => wordN T (i + 7 + j)))
theorem rm_entry (x y : Nat) : aSeg Tryz.prog (orc SU K0) (some 4) 300 0 rmK (entry Tryz.f125 [num6 x, num6 y] [] 0 []) = some ([], [], rmS (x % pN) (y % pN) (List.replicate 12 (.n .u64 0)) 0 []) := by kernel_rfl
theorem rm_row (x y T i : Nat) (hi : i < 6) : aSeg Tryz.prog (orc SU K0) (some 4) 300 0 rmK (rmS x y [.num 12 T] i []) = some (allT 12, [], rmS x y (wsCh (rowL (wordN x i) y T i)) (i + 1) []) := by
  obtain rfl | rfl | rfl | rfl | rfl | rfl : i = 0 ∨ i = 1 ∨ i = 2 ∨ i = 3 ∨ i = 4 ∨ i = 5 := by omega
  all_goals kernel_rfl
def mE (T : Nat) : Nat → Nat
  | 0 => natL [wordN T 6, wordN T 7, wordN T 8, wordN T 9, wordN T 10, wordN T 11]
  | k + 1 => ((wordN T (5 - k)).toNat + 18446744073709551616 * mE T k) % pN
def mEC (T : Nat) : Nat → List (Bool × Bool)
  | 0 => []
  | k + 1 => mEC T k ++ [(decide (mE T k < pN), true)]
theorem rm_exit (x y T : Nat) : segRet Tryz.prog (orc SU K0) Tryz.f125 300 0 (rmS x y [.num 12 T] 6 []) = some (mEC T 6, [], num6 (mE T 6)) := by kernel_rfl
theorem row_st {xi : Int} {y T i : Nat} : ∀ k, rowC xi y T i k = stC xi y (T / 2 ^ (64 * i)) k
  | 0 => rfl
  | k + 1 => by
    have hw : wordN T (i + k) = wordN (T / 2 ^ (64 * i)) k := by
      unfold wordN
      rw [Nat.div_div_eq_div_mul, ← Nat.pow_add, show 64 * i + 64 * k = 64 * (i + k) by omega]
    simp only [rowC, stC]; rw [row_st k, hw]
theorem word_shift (T i k : Nat) : wordN T (i + k) = wordN (T / 2 ^ (64 * i)) k := by
  unfold wordN
  rw [Nat.div_div_eq_div_mul, ← Nat.pow_add, show 64 * i + 64 * k = 64 * (i + k) by omega]
theorem st_chain {x : Int} (hx : 0 ≤ x ∧ x < 18446744073709551616) (y T : Nat) : ∀ k, sumL ((List.range k).map (stT x y T)) + ((2 ^ (64 * k) : Nat) : Int) * stC x y T k = x * ((y % 2 ^ (64 * k) : Nat) : Int) + ((T % 2 ^ (64 * k) : Nat) : Int)
  | 0 => by simp [sumL, stC, Nat.mod_one]
  | k + 1 => by
    have ih := st_chain hx y T k
    have he := st_eq hx y T k
    rw [List.range_succ, List.map_append, sumL_append, mod_word, mod_word, pow_word]
    simp only [List.map_cons, List.map_nil, sumL, List.length_map, List.length_range, Int.mul_zero, Int.add_zero]
    generalize ((2 ^ (64 * k) : Nat) : Int) = Q at *
    have e1 : Q * stT x y T k = Q * (x * wordN y k) + Q * wordN T k + Q * stC x y T k - Q * 18446744073709551616 * stC x y T (k + 1) := by
      have : stT x y T k = x * wordN y k + wordN T k + stC x y T k - 18446744073709551616 * stC x y T (k + 1) := by omega
      rw [this, Int.mul_sub, Int.mul_add, Int.mul_add, Int.mul_assoc]
    have e2 : x * (((y % 2 ^ (64 * k) : Nat) : Int) + Q * wordN y k) = x * ((y % 2 ^ (64 * k) : Nat) : Int) + Q * (x * wordN y k) := by
      rw [Int.mul_add, Int.mul_left_comm]
    rw [e1, e2]
    omega
theorem row_num {x y T i : Nat} (hi : i < 6) (hy : y < RR) (hT : T < 2 ^ (64 * (i + 6))) :
    ((T + (wordN x i).toNat * y * 2 ^ (64 * i) : Nat) : Int) = sumL (rowL (wordN x i) y T i) ∧ (rowL (wordN x i) y T i).length = 12 := by
  have hw := word_bd x i
  obtain ⟨X, hX⟩ := Int.eq_ofNat_of_zero_le hw.1
  have hB : T / 2 ^ (64 * i) < 2 ^ (64 * 6) := by
    refine Nat.div_lt_of_lt_mul ?_
    have e : 2 ^ (64 * (i + 6)) = 2 ^ (64 * i) * 2 ^ (64 * 6) := by rw [Nat.mul_add 64 i 6]; exact Nat.pow_add 2 (64 * i) (64 * 6)
    exact e ▸ hT
  have hz : ((List.range (5 - i)).map fun j => wordN T (i + 7 + j)) = (List.range (5 - i)).map fun _ => (0 : Int) := by
    refine List.map_congr_left fun j _ => ?_
    unfold wordN
    rw [Nat.div_eq_of_lt (Nat.lt_of_lt_of_le hT (Nat.pow_le_pow_right (by decide) (by omega)))]; rfl
  have hz2 : ∀ n, sumL ((List.range n).map fun _ => (0 : Int)) = 0 := by
    intro n
    induction n with
    | zero => rfl
    | succ n ih => rw [List.range_succ, List.map_append, sumL_append, ih]; simp [sumL]
  have hA : sumL ((List.range i).map (wordN T)) = ((T % 2 ^ (64 * i) : Nat) : Int) := by
    have := sumL_digits i (T % 2 ^ (64 * i)) (Nat.mod_lt _ (Nat.pow_pos (by decide)))
    rw [← this]
    refine congrArg sumL (List.map_congr_left fun j hj => ?_)
    have hj' : j < i := List.mem_range.1 hj
    unfold wordN
    have e : 2 ^ (64 * i) = 2 ^ (64 * j) * (2 ^ 64 * 2 ^ (64 * (i - j - 1))) := by rw [← Nat.pow_add, ← Nat.pow_add]; congr 1; omega
    rw [e, Nat.mod_mul_right_div_self, Nat.mod_mul_right_mod]
  have hrow : (List.range 6).map (rowT X y T i) = (List.range 6).map (stT X y (T / 2 ^ (64 * i))) := by
    refine List.map_congr_left fun k _ => ?_
    unfold rowT stT
    rw [row_st, word_shift]
  rw [hX]
  have hc := st_chain (x := X) (by omega) y (T / 2 ^ (64 * i)) 6
  rw [Nat.mod_eq_of_lt hB, Nat.mod_eq_of_lt (a := y) (by rw [← RR_eq]; exact hy)] at hc
  constructor
  · unfold rowL
    rw [hz, sumL_append, sumL_append, hA, hrow, row_st]
    simp only [sumL, hz2, List.length_map, List.length_range, Int.mul_zero, Int.add_zero]
    rw [hc]
    have e := Nat.div_add_mod T (2 ^ (64 * i))
    generalize 2 ^ (64 * i) = Q at *
    rw [Int.toNat_natCast, Int.natCast_add, Int.natCast_mul, Int.natCast_mul]
    conv => lhs; rw [← e]
    rw [Int.natCast_add, Int.natCast_mul, Int.mul_add, Int.mul_comm ((X : Int) * y)]
    omega
  · unfold rowL; simp; omega
end Go.Proofs.YtfmajnlfpnjagaaGreat
/- sigilref04.Mul: the contract. -/
namespace Go.Proofs.YtfmajnlfpnjagaaGreat
open Ex Num
set_option maxRecDepth 100000
set_option maxHeartbeats 4000000

theorem mod_wordN (x i : Nat) : x % 2 ^ (64 * (i + 1)) = x % 2 ^ (64 * i) + (wordN x i).toNat * 2 ^ (64 * i) := by
  have h := mod_word x i
  have hw := word_bd x i
  obtain ⟨X, hX⟩ := Int.eq_ofNat_of_zero_le hw.1
  rw [hX, ← Int.natCast_mul, ← Int.natCast_add] at h
  rw [hX, Int.toNat_natCast, Nat.mul_comm X]
  exact Int.natCast_inj.1 h
theorem num_zero12 (β : Env) (l : List Value) (h : relL β (List.replicate 12 (.n .u64 0)) l) : relL β [.num 12 0] l := num_any (k := 12) (x := 0) (by kernel_rfl) h
theorem mE_z (T : Nat) : mE T 0 = natL [wordN T 6, wordN T 7, wordN T 8, wordN T 9, wordN T 10, wordN T 11] := rfl
theorem words6 (z : Nat) : (List.range 6).map (wordN z) = [wordN z 0, wordN z 1, wordN z 2, wordN z 3, wordN z 4, wordN z 5] := rfl
theorem mE_zero {T : Nat} (hT : T < pN * RR) : mE T 0 = T / RR ∧ T / RR < pN := by
  have hT12 : T / RR < pN := Nat.div_lt_of_lt_mul (by rw [Nat.mul_comm]; exact hT)
  refine ⟨?_, hT12⟩
  have h := natL_words (x := T / RR) (k := 6) (Nat.lt_trans hT12 (by rw [← RR_eq]; exact pN_lt_RR))
  rw [words6] at h
  have e : ∀ j, wordN T (6 + j) = wordN (T / RR) j := fun j => by rw [word_shift, ← RR_eq]
  rw [← e 0, ← e 1, ← e 2, ← e 3, ← e 4, ← e 5] at h
  rw [mE_z]
  exact h
theorem mE_succ (T k : Nat) : mE T (k + 1) = ((wordN T (5 - k)).toNat + 18446744073709551616 * mE T k) % pN := rfl
theorem div_word (T j : Nat) : T / 2 ^ (64 * j) = (wordN T j).toNat + 18446744073709551616 * (T / 2 ^ (64 * (j + 1))) := by
  rw [show 64 * (j + 1) = 64 * j + 64 by omega, Nat.pow_add, ← Nat.div_div_eq_div_mul]
  have := Nat.div_add_mod (T / 2 ^ (64 * j)) (2 ^ 64)
  unfold wordN
  rw [Int.toNat_natCast]
  omega
theorem mE_eq {T : Nat} (hT : T < pN * RR) (k : Nat) (hk : k ≤ 6) : mE T k = T / 2 ^ (64 * (6 - k)) % pN ∧ mE T k < pN := by
  induction k with
  | zero =>
    obtain ⟨e, h⟩ := mE_zero hT
    rw [e, Nat.sub_zero, ← RR_eq]
    exact ⟨(Nat.mod_eq_of_lt h).symm, h⟩
  | succ k ih =>
    obtain ⟨i1, i2⟩ := ih (by omega)
    rw [mE_succ]
    refine ⟨?_, Nat.mod_lt _ pN_pos⟩
    rw [i1, show 6 - (k + 1) = 5 - k by omega, div_word T (5 - k), show 5 - k + 1 = 6 - k by omega, Nat.add_mod, Nat.mul_mod_mod, ← Nat.add_mod]
theorem mEC_ok {T : Nat} (hT : T < pN * RR) : ∀ k, k ≤ 6 → okConds (mEC T k)
  | 0, _ => trivial
  | k + 1, hk => ok_app (mEC_ok hT k (by omega)) ⟨decide_eq_true (mE_eq hT k (by omega)).2, trivial⟩
theorem rmul_ok (x y : Nat) : PureOk Tryz.prog 125 [num6 x, num6 y] (num6 (mulN x y)) := by
  refine pure_entry (path := []) Tryz.func125 (by kernel_rfl) (by kernel_rfl) fun w0 => ?_
  refine seg_safe (orc_ok SUok K0ok) mixed (rm_entry x y) trivial (wfB_ok (by kernel_rfl)) (fun _ _ => rfl) (fun _ h => by cases h) fun _ => ?_
  have hx := modp_lt x
  have hy := modp_lt y
  have hyR := lt_RR_mod y
  have hxR := lt_RR_mod x
  have e : mulN x y = (x % pN) * (y % pN) % pN := by unfold mulN; rw [← Nat.mul_mod]
  rw [e]
  generalize x % pN = a at *
  generalize y % pN = b at *
  have loop : ∀ r i, i + r = 6 → ASafe Tryz.prog 125 noEnv w0 (PureOut w0 (num6 (a * b % pN))) Tryz.f125.ntmps [] (rmS a b [.num 12 ((a % 2 ^ (64 * i)) * b)] i []) := by
    intro r
    induction r with
    | zero =>
      intro i hi
      obtain rfl : i = 6 := by omega
      have e6 : a % 2 ^ (64 * 6) = a := Nat.mod_eq_of_lt (RR_eq ▸ hxR)
      have hT : a * b < pN * RR := Nat.mul_lt_mul'' hx hyR
      have h := ret_safe (w0 := w0) (β0 := noEnv) (n := Tryz.f125.ntmps) (orc_ok SUok K0ok) mixed Tryz.func125 (rm_exit a b (a * b)) (mEC_ok hT 6 (Nat.le_refl _)) (wfB_ok (by kernel_rfl)) (fun _ _ => rfl) rfl
      rw [(mE_eq hT 6 (Nat.le_refl _)).1, Nat.sub_self, Nat.mul_zero, Nat.pow_zero, Nat.div_one] at h
      exact (congrArg (fun z => ASafe Tryz.prog 125 noEnv w0 (PureOut w0 (num6 (a * b % pN))) Tryz.f125.ntmps [] (rmS a b [.num 12 (z * b)] 6 [])) e6).mpr h
    | succ r ih =>
      intro i hi
      have hlt : (a % 2 ^ (64 * i)) * b < 2 ^ (64 * (i + 6)) := by
        rw [show 64 * (i + 6) = 64 * i + 64 * 6 by omega, Nat.pow_add]
        exact Nat.mul_lt_mul'' (Nat.mod_lt _ (Nat.pow_pos (by decide))) (by rw [← RR_eq]; exact hyR)
      obtain ⟨r1, r2⟩ := row_num (x := a) (T := (a % 2 ^ (64 * i)) * b) (show i < 6 by omega) hyR hlt
      have e2 : (a % 2 ^ (64 * i)) * b + (wordN a i).toNat * b * 2 ^ (64 * i) = (a % 2 ^ (64 * (i + 1))) * b := by
        rw [mod_wordN, Nat.add_mul]; congr 1; rw [Nat.mul_right_comm]
      rw [e2] at r1
      refine seg_safe (orc_ok SUok K0ok) mixed (rm_row a b _ i (by omega)) (allT_ok 12) (wfB_ok (by kernel_rfl)) (fun _ _ => rfl) (fun _ h => by cases h) fun _ => ?_
      have := ws_num r1
      rw [r2] at this
      refine himp_safe ?_ (ih (i + 1) (by omega))
      exact ⟨rfl, rfl, rfl, fun β l h => h, rfl, rfl, rfl, fun β l h => h, rfl, rfl, rfl, fun β l h => h, rfl, rfl, rfl, this, trivial⟩
  have h0 := loop 6 0 rfl
  rw [Nat.mul_zero, Nat.pow_zero, Nat.mod_one, Nat.zero_mul] at h0
  refine himp_safe ?_ h0
  exact ⟨rfl, rfl, rfl, fun β l h => h, rfl, rfl, rfl, fun β l h => h, rfl, rfl, rfl, fun β l h => h, rfl, rfl, rfl, num_zero12, trivial⟩
noncomputable def SV : List (FuncId × ASpec) := (181, pureSpec (sp2 fun x y => num6 (subN x y))) :: (125, pureSpec (sp2 fun x y => num6 (mulN x y))) :: SU
theorem SVok : SpecsOk Tryz.prog SV := ⟨pureSpec_ok Tryz.func181 (by kernel_rfl) (by kernel_rfl) (sp2_ok fun x y _ _ => rsub_ok x y), pureSpec_ok Tryz.func125 (by kernel_rfl) (by kernel_rfl) (sp2_ok fun x y _ _ => rmul_ok x y), SUok⟩
end Go.Proofs.YtfmajnlfpnjagaaGreat
/- sigilref03.At, more; sigilref04.Wide, Pow: the contracts. -/
namespace Go.Proofs.YtfmajnlfpnjagaaGreat
open Ex Num
set_option maxRecDepth 100000
set_option maxHeartbeats 4000000

/-- Contracts of functions that read one list of words. -/
def wdSpec (g : Nat → List Int → AV) : ASpec := fun args H fr path =>
  match args with
  | [.val false [.sl k off n _]] => match hget H k with
    | some ⟨_, cs, _⟩ => match toSeq .u64 cs with
      | some xs => some (trR [k] 1 fr 0 [] (g n (win xs off n)) [] [(Nat.ble (off + n) xs.length, true), (Nat.ble n 1125899906842624, true)] path)
      | none => none
    | _ => none
  | _ => none
theorem wdSpec_ok {f : FuncId} {fn : Func} {g : Nat → List Int → AV} (hfn : Tryz.prog.funcs[f]? = some fn) (hb : fn.body.isSome = true) (hname : (fn.name == "runtime.NumGoroutine") = false) (hk : ∀ n l, canB 1 0 [] (g n l) [] = true)
    (h : ∀ (off n m : Nat) (xs : List Int), (∀ d ∈ xs, 0 ≤ d ∧ d < 18446744073709551616) → off + n ≤ xs.length → n ≤ 1125899906842624 → CanOk Tryz.prog f [slA 0 off n m] (seqH xs) 1 [] (g n (win xs off n)) []) : SpecOk Tryz.prog f (wdSpec g) := by
  refine can_spec hfn hb hname fun args H fr path r hs => ?_
  unfold wdSpec at hs
  split at hs
  case h_2 => cases hs
  rename_i k off n c
  split at hs
  case h_2 => cases hs
  rename_i ty cs o hk'
  split at hs
  case h_2 => cases hs
  rename_i xs hxs
  injection hs with hs
  refine ⟨[k], [slA 0 off n c], seqH xs, 1, 0, [], _, _, _, path, hs.symm, fun β us w ha hg hc => ?_⟩
  obtain ⟨u1, us1, r1, ha, rfl⟩ := ha
  obtain ⟨g1, g2, g3⟩ := good_seq hg hk' hxs
  exact ⟨h off n c xs g1 (Nat.le_of_ble_eq_true hc.1) (Nat.le_of_ble_eq_true hc.2.1), hk _ _, ⟨u1, _, r1, ha, rfl⟩, g2, g3⟩
theorem hasB_len {n : Nat} (h : n ≤ 1125899906842624) : hasB .i64 (n : Int) = true := by
  simp only [hasB, Bool.and_eq_true, decide_eq_true_eq]; omega

/- At -/
theorem rat_in (off n m : Nat) (i : Int) (xs : List Int) : segOut Tryz.prog (orc S0 K0) Tryz.f198 100 1 [] (entry Tryz.f198 (atA off n m i) (seqH xs) 1 [true]) =
  some ([(hasB .i64 n, true), (decide (i < n), true), (decide (0 ≤ i ∧ i < n), true), (decide (off + i.toNat * 1 < xs.length), true)], [], .val false [.v (.int .u64 (xs.getD (off + i.toNat * 1) 0))], []) := by kernel_rfl
theorem rat_out (off n m : Nat) (i : Int) (xs : List Int) : segOut Tryz.prog (orc S0 K0) Tryz.f198 100 1 [] (entry Tryz.f198 (atA off n m i) (seqH xs) 1 [false]) =
  some ([(hasB .i64 n, true), (decide (i < n), false)], [], .val false [.n .u64 0], []) := by kernel_rfl
theorem rat_can {off n m : Nat} {xs : List Int} (hlen : off + n ≤ xs.length) (hn : hasB .i64 n = true) {i : Int} (hi : 0 ≤ i) :
    CanOk Tryz.prog 198 (atA off n m i) (seqH xs) 1 [] (.val false [.v (.int .u64 (atV xs off n i))]) [] := by
  by_cases h : i < n
  · refine can_entry (path := [true]) Tryz.func198 (by kernel_rfl) (by kernel_rfl) fun β0 w0 hb => ?_
    rw [show atV xs off n i = xs.getD (off + i.toNat * 1) 0 from by rw [Nat.mul_one]; exact bit_word (by omega)]
    exact out_safe (orc_ok S0ok K0ok) mixed Tryz.func198 (rat_in off n m i xs) ⟨hn, by simp [h], by simp [hi, h], by simp; omega, trivial⟩ (wfB_ok (by kernel_rfl)) hb (fun _ h => by cases h)
  · have e : atV xs off n i = 0 := by
      unfold atV win
      rw [List.getD_eq_getElem?_getD, List.getElem?_eq_none (by rw [List.length_take]; omega)]; rfl
    rw [e]
    refine can_val (v := .val false [.n .u64 0]) (can_entry (path := [false]) Tryz.func198 (by kernel_rfl) (by kernel_rfl) fun β0 w0 hb => ?_) fun _ _ => nv_val
    exact out_safe (orc_ok S0ok K0ok) mixed Tryz.func198 (rat_out off n m i xs) ⟨hn, by simp [h], trivial⟩ (wfB_ok (by kernel_rfl)) hb (fun _ h => by cases h)
theorem ratSpec_ok : SpecOk Tryz.prog 198 atSpec := by
  refine can_spec Tryz.func198 (by kernel_rfl) (by kernel_rfl) fun args H fr path r h => ?_
  unfold atSpec at h
  split at h
  case h_2 => cases h
  rename_i k off n m I
  split at h
  case h_2 => cases h
  rename_i c0 i ty cs o hI hk
  split at h
  case h_2 => cases h
  rename_i xs hxs
  injection h with h
  refine ⟨[k], atA off n m i, seqH xs, 1, 0, [], _, [], _, path, h.symm, fun β us w ha hg hc => ?_⟩
  obtain ⟨u1, us1, r1, ⟨u2, us2, r2, ha, rfl⟩, rfl⟩ := ha
  obtain ⟨g1, g2, g3⟩ := good_seq hg hk hxs
  obtain ⟨rfl, p1⟩ := asI_rel (β := β) (u := u2) (fun A hA => by injection hA with hA; subst hA; exact r2) hI
  exact ⟨rat_can (Nat.le_of_ble_eq_true hc.1) hc.2.1 (by simpa using hc.2.2.1), by kernel_rfl, ⟨u1, _, r1, ⟨_, us2, rel_one' ⟨rfl, rfl, p1⟩, ha, rfl⟩, rfl⟩, g2, g3⟩
/- more -/
theorem more_t (i j : Int) : pureRun Tryz.prog (orc S0 K0) Tryz.f252 [iA i, iA j] [true] 100 = some ([(decide (j < i), true)], iA i) := by kernel_rfl
theorem more_f (i j : Int) : pureRun Tryz.prog (orc S0 K0) Tryz.f252 [iA i, iA j] [false] 100 = some ([(decide (j < i), false)], iA j) := by kernel_rfl
theorem more_ok (i j : Int) : PureOk Tryz.prog 252 [iA i, iA j] (iA (maxI i j)) := by
  by_cases h : j < i
  · have e : maxI i j = i := by unfold maxI; split <;> omega
    rw [e]
    exact pure_ok (orc_ok S0ok K0ok) mixed Tryz.func252 (more_t i j) ⟨decide_eq_true h, trivial⟩ rfl
  · have e : maxI i j = j := by unfold maxI; split <;> omega
    rw [e]
    exact pure_ok (orc_ok S0ok K0ok) mixed Tryz.func252 (more_f i j) ⟨decide_eq_false h, trivial⟩ rfl
noncomputable def SW : List (FuncId × ASpec) := (198, atSpec) :: (252, condSpec (spInts [.i64, .i64] fun l => match l with | [i, j] => some ([], iA (maxI i j)) | _ => none)) :: SV
theorem SWok : SpecsOk Tryz.prog SW := ⟨ratSpec_ok, condSpec_ok Tryz.func252 (by kernel_rfl) (by kernel_rfl) (spInts_ok fun is c v h hh hc => by
  split at h
  · injection h with h; injection h with h1 h2; subst h1; subst h2; exact more_ok _ _
  · cases h), SVok⟩
/- Wide -/
noncomputable def wdTodo : List Item := todoOf (aSeg Tryz.prog (orc SV K0) (some 0) 100 1 none (entry Tryz.f256 [slA 0 0 0 0] (seqH []) 1 []))
noncomputable def wdS (off n m : Nat) (xs : List Int) (v : List Ch) (i : Int) (p : List Bool) : ASt := ⟨wdTodo, ⟨mkT Tryz.f256.ntmps [(0, slA 0 off n m), (2, .val false [.p 1 0]), (3, .val false [.p 2 0]), (4, iA i)],
  [(0, some (roB [.seq .u64 xs])), (1, some ⟨40, zero6, false⟩), (2, some ⟨40, v, false⟩)], 3, p⟩⟩
abbrev wdK : Option (List Nat × List Nat × Nat) := some ([0, 2, 3, 4], [0, 1, 2], 3)
theorem wd_entry (off n m : Nat) (xs : List Int) : aSeg Tryz.prog (orc SV K0) (some 0) 100 1 wdK (entry Tryz.f256 [slA 0 off n m] (seqH xs) 1 []) = some ([(hasB .i64 n, true)], [], wdS off n m xs zero6 (wI ((n : Int) - 1)) []) := by kernel_rfl
def wdW (xs : List Int) (off : Nat) (i : Int) : Int := xs.getD (off + i.toNat * 1) 0
theorem wd_step (off n m : Nat) (xs : List Int) (v : Nat) (i : Int) : aSeg Tryz.prog (orc SV K0) (some 0) 100 1 wdK (wdS off n m xs [.num 6 v] i [true]) =
  some ([(decide (0 ≤ i), true), (decide (0 ≤ i ∧ i < n), true), (decide (off + i.toNat * 1 < xs.length), true), (decide (v < pN), true)], [], wdS off n m xs [.num 6 (((wdW xs off i).toNat + 18446744073709551616 * v) % pN)] (wI (i - 1)) []) := by kernel_rfl
theorem wd_exit (off n m : Nat) (xs : List Int) (v : Nat) (i : Int) : segOut Tryz.prog (orc SV K0) Tryz.f256 100 1 [] (wdS off n m xs [.num 6 v] i [false]) = some ([(decide (0 ≤ i), false)], [], num6 v, []) := by kernel_rfl
theorem zero_numL (β : Env) (l : List Value) (h : relL β zero6 l) : relL β [.num 6 0] l := num_any (k := 6) (x := 0) (by kernel_rfl) h
theorem wide_can {off n m : Nat} {xs : List Int} (hx : ∀ d ∈ xs, 0 ≤ d ∧ d < 18446744073709551616) (hl : off + n ≤ xs.length) (hn : n ≤ 1125899906842624) : CanOk Tryz.prog 256 [slA 0 off n m] (seqH xs) 1 [] (num6 (natL (win xs off n) % pN)) [] := by
  refine can_entry (path := []) Tryz.func256 (by kernel_rfl) (by kernel_rfl) fun β0 w0 hb => ?_
  refine seg_safe (orc_ok SVok K0ok) mixed (wd_entry off n m xs) ⟨hasB_len hn, trivial⟩ (wfB_ok (by kernel_rfl)) hb (fun _ h => by cases h) fun _ => ?_
  have hw : ∀ d ∈ win xs off n, 0 ≤ d ∧ d < 18446744073709551616 := win_has hx
  have hlen : (win xs off n).length = n := by unfold win; rw [List.length_take, List.length_drop]; omega
  have loop : ∀ c, c ≤ n → ASafe Tryz.prog 256 β0 w0 (Outs β0 w0 [] (num6 (natL (win xs off n) % pN)) []) Tryz.f256.ntmps [] (wdS off n m xs [.num 6 (natL (win xs off n) / 2 ^ (64 * c) % pN)] ((c : Int) - 1) []) := by
    intro c
    induction c with
    | zero =>
      intro _
      have h := out_safe (w0 := w0) (W := []) (n := Tryz.f256.ntmps) (orc_ok SVok K0ok) mixed Tryz.func256 (wd_exit off n m xs (natL (win xs off n) % pN) (((0 : Nat) : Int) - 1)) ⟨rfl, trivial⟩ (wfB_ok (by kernel_rfl)) hb (fun _ h => by cases h)
      rw [Nat.mul_zero, Nat.pow_zero, Nat.div_one]
      exact path_safe [false] h
    | succ c ih =>
      intro hc
      have hi : ((c + 1 : Nat) : Int) - 1 = (c : Int) := by omega
      rw [hi]
      have hs := natL_split hw c
      have hv : wdW xs off c = (win xs off n).getD c 0 := by
        unfold wdW
        rw [Int.toNat_natCast, Nat.mul_one]
        exact (bit_word (by omega)).symm
      refine path_safe [true] (seg_safe (orc_ok SVok K0ok) mixed (wd_step ..) ⟨by simp, by simp; omega, by simp; omega, decide_eq_true (Nat.mod_lt _ pN_pos), trivial⟩ (wfB_ok (by kernel_rfl)) hb (fun _ h => by cases h) fun _ => ?_)
      rw [hv, wI_eq (z := (c : Int) - 1) (by omega)]
      have e : ((win xs off n).getD c 0).toNat + 18446744073709551616 * (natL (win xs off n) / 2 ^ (64 * (c + 1)) % pN) = _ + _ := rfl
      rw [Nat.add_mod, Nat.mul_mod_mod, ← Nat.add_mod, ← hs]
      exact ih (by omega)
  have h0 := loop n (Nat.le_refl _)
  have hlt := natL_lt (win xs off n) hw
  rw [hlen] at hlt
  rw [Nat.div_eq_of_lt hlt, Nat.zero_mod] at h0
  rw [wI_eq (by omega)]
  refine himp_safe ?_ h0
  exact ⟨rfl, rfl, rfl, fun β l h => h, rfl, rfl, rfl, fun β l h => h, rfl, rfl, rfl, zero_numL, trivial⟩

/- Pow -/
noncomputable def rpTodo : List Item := todoOf (aSeg Tryz.prog (orc SV K0) (some 0) 100 1 none (entry Tryz.f204 (powA 0 0 0 0) (seqH []) 1 []))
noncomputable def rpS (off n m : Nat) (xs : List Int) (x : Nat) (v : List Ch) (i : Int) (p : List Bool) : ASt := ⟨rpTodo, ⟨mkT Tryz.f204.ntmps [(1, slA 0 off n m), (2, .val false [.p 1 0]), (4, .val false [.p 2 0]), (5, .val false [.p 3 0]), (6, iA i)],
  [(0, some (roB [.seq .u64 xs])), (1, some ⟨40, [.num 6 x], false⟩), (2, some ⟨40, zero6, false⟩), (3, some ⟨40, v, false⟩)], 4, p⟩⟩
abbrev rpK : Option (List Nat × List Nat × Nat) := some ([1, 2, 4, 5, 6], [0, 1, 2, 3], 4)
def one6 : List Ch := [.n .u64 1, .n .u64 0, .n .u64 0, .n .u64 0, .n .u64 0, .n .u64 0]
theorem rp_entry (x off n m : Nat) (xs : List Int) : aSeg Tryz.prog (orc SV K0) (some 0) 100 1 rpK (entry Tryz.f204 (powA x off n m) (seqH xs) 1 []) = some ([(hasB .i64 n, true)], [], rpS off n m xs x one6 (wI (wI (64 * (n : Int)) - 1)) []) := by kernel_rfl
def rpB (xs : List Int) (off : Nat) (i : Int) : Int := bits .and .u64 (Int.fdiv (powW xs off i) (2 ^ min (wrapc false .u64 (Int.tmod i 64)).toNat 64)) 1
def rpC (off n : Nat) (xs : List Int) (i : Int) (bit : Bool) : List (Bool × Bool) := [(decide (0 ≤ i), true), (true, true), (decide (0 ≤ wI (Int.tdiv i 64) ∧ wI (Int.tdiv i 64) < n), true), (decide (off + (wI (Int.tdiv i 64)).toNat * 1 < xs.length), true), (decide (0 ≤ i ∧ (0 : Int) < 64), true),
  (decide (0 ≤ wrapc false .u64 (Int.tmod i 64) ∧ 0 ≤ powW xs off i), true), (decide (rpB xs off i = 1), bit)]
theorem rp_one (off n m : Nat) (xs : List Int) (x v : Nat) (i : Int) : aSeg Tryz.prog (orc SV K0) (some 0) 100 1 rpK (rpS off n m xs x [.num 6 v] i [true, true]) = some (rpC off n xs i true, [], rpS off n m xs x [.num 6 (mulN (mulN v v) x)] (wI (i - 1)) []) := by kernel_rfl
theorem rp_zero (off n m : Nat) (xs : List Int) (x v : Nat) (i : Int) : aSeg Tryz.prog (orc SV K0) (some 0) 100 1 rpK (rpS off n m xs x [.num 6 v] i [true, false]) = some (rpC off n xs i false, [], rpS off n m xs x [.num 6 (mulN v v)] (wI (i - 1)) []) := by kernel_rfl
theorem rp_exit (off n m : Nat) (xs : List Int) (x v : Nat) (i : Int) : segOut Tryz.prog (orc SV K0) Tryz.f204 100 1 [] (rpS off n m xs x [.num 6 v] i [false]) = some ([(decide (0 ≤ i), false)], [], num6 v, []) := by kernel_rfl
theorem rpB_eq (xs : List Int) (off : Nat) (c : Nat) : rpB xs off c = bitI (powW xs off c) (Int.tmod c 64) ∧ wrapc false .u64 (Int.tmod c 64) = Int.tmod c 64 := by
  have hr : Int.tmod (c : Int) 64 = ((c % 64 : Nat) : Int) := by rw [Int.tmod_eq_emod_of_nonneg (by omega)]; rfl
  have e : wrapc false .u64 (Int.tmod (c : Int) 64) = Int.tmod c 64 := by rw [hr, wrapc_eq, IntKind.wrap_u64]; omega
  exact ⟨by unfold rpB; rw [e]; rfl, e⟩
theorem mulN_pow (x a b : Nat) : mulN (x ^ a % pN) (x ^ b % pN) = x ^ (a + b) % pN := by unfold mulN; rw [← Nat.mul_mod, Nat.pow_add]
theorem mulN_pow1 (x a : Nat) : mulN (x ^ a % pN) x = x ^ (a + 1) % pN := by unfold mulN; rw [Nat.mod_mul_mod, Nat.pow_succ]
theorem rpow_can {off n m : Nat} {xs : List Int} (hall : ∀ d ∈ xs, 0 ≤ d ∧ d < 18446744073709551616) (hlen : off + n ≤ xs.length) (hn : n ≤ 1125899906842624) (x : Nat) :
    CanOk Tryz.prog 204 (powA x off n m) (seqH xs) 1 [] (num6 (powN x (natL (win xs off n)))) [] := by
  refine can_entry (path := []) Tryz.func204 (by kernel_rfl) (by kernel_rfl) fun β0 w0 hb => ?_
  refine seg_safe (orc_ok SVok K0ok) mixed (rp_entry x off n m xs) ⟨hasB_len hn, trivial⟩ (wfB_ok (by kernel_rfl)) hb (fun _ h => by cases h) fun _ => ?_
  have hlt : ∀ d ∈ win xs off n, 0 ≤ d ∧ d < 18446744073709551616 := win_has hall
  have hwl : (win xs off n).length = n := by unfold win; rw [List.length_take, List.length_drop]; omega
  generalize hE : natL (win xs off n) = E at *
  have loop : ∀ c, c ≤ 64 * n → ASafe Tryz.prog 204 β0 w0 (Outs β0 w0 [] (num6 (powN x E)) []) Tryz.f204.ntmps [] (rpS off n m xs x [.num 6 (x ^ (E / 2 ^ c) % pN)] ((c : Int) - 1) []) := by
    intro c
    induction c with
    | zero =>
      intro _
      have h := out_safe (w0 := w0) (W := []) (n := Tryz.f204.ntmps) (orc_ok SVok K0ok) mixed Tryz.func204 (rp_exit off n m xs x (x ^ E % pN) (((0 : Nat) : Int) - 1)) ⟨rfl, trivial⟩ (wfB_ok (by kernel_rfl)) hb (fun _ h => by cases h)
      rw [Nat.pow_zero, Nat.div_one, powN_eq]
      exact path_safe [false] h
    | succ c ih =>
      intro hc
      have hi : ((c + 1 : Nat) : Int) - 1 = (c : Int) := by omega
      rw [hi]
      have hq : Int.tdiv (c : Int) 64 = ((c / 64 : Nat) : Int) := by rw [Int.tdiv_eq_ediv_of_nonneg (by omega)]; rfl
      have hr : Int.tmod (c : Int) 64 = ((c % 64 : Nat) : Int) := by rw [Int.tmod_eq_emod_of_nonneg (by omega)]; rfl
      have hw : wI (Int.tdiv (c : Int) 64) = ((c / 64 : Nat) : Int) := by rw [hq]; exact wI_eq (by omega)
      have hj : c / 64 < n := by omega
      have hv : powW xs off c = (win xs off n).getD (c / 64) 0 := by
        unfold powW
        rw [hw, Int.toNat_natCast, Nat.mul_one]; exact (bit_word hj).symm
      have hvb : 0 ≤ powW xs off c ∧ powW xs off c < 18446744073709551616 := by rw [hv]; exact getD_bd hlt _
      obtain ⟨eb, em⟩ := rpB_eq xs off c
      have hbit : rpB xs off c = ((E / 2 ^ c % 2 : Nat) : Int) := by
        obtain ⟨V, hV⟩ := Int.eq_ofNat_of_zero_le hvb.1
        rw [eb, hr, ← hE, ← natL_bit _ c hlt, ← hv, hV, Int.toNat_natCast]
        exact bitI_eq V _ (by omega) (by omega)
      have hconds : ∀ bit, decide (rpB xs off c = 1) = bit → okConds (rpC off n xs c bit) := by
        intro bit hbt
        refine ⟨by simp, rfl, ?_, ?_, by simp, ?_, hbt, trivial⟩
        · rw [hw]; simp; omega
        · rw [hw]; simp; omega
        · rw [em, hr]; simp only [decide_eq_true_eq]; exact ⟨by omega, hvb.1⟩
      have hdiv : E / 2 ^ c = 2 * (E / 2 ^ (c + 1)) + E / 2 ^ c % 2 := by
        rw [Nat.pow_succ, ← Nat.div_div_eq_div_mul]; omega
      have ihc := ih (by omega)
      rcases Nat.mod_two_eq_zero_or_one (E / 2 ^ c) with h0 | h1
      · refine path_safe [true, false] (seg_safe (orc_ok SVok K0ok) mixed (rp_zero ..) (hconds false (by rw [hbit, h0]; rfl)) (wfB_ok (by kernel_rfl)) hb (fun _ h => by cases h) fun _ => ?_)
        rw [wI_eq (z := (c : Int) - 1) (by omega), mulN_pow, show E / 2 ^ (c + 1) + E / 2 ^ (c + 1) = E / 2 ^ c by omega]
        exact ihc
      · refine path_safe [true, true] (seg_safe (orc_ok SVok K0ok) mixed (rp_one ..) (hconds true (by rw [hbit, h1]; rfl)) (wfB_ok (by kernel_rfl)) hb (fun _ h => by cases h) fun _ => ?_)
        rw [wI_eq (z := (c : Int) - 1) (by omega), mulN_pow, mulN_pow1, show E / 2 ^ (c + 1) + E / 2 ^ (c + 1) + 1 = E / 2 ^ c by omega]
        exact ihc
  have h0 := loop (64 * n) (Nat.le_refl _)
  have hl := natL_lt (win xs off n) hlt
  rw [hwl, hE] at hl
  rw [Nat.div_eq_of_lt hl, Nat.pow_zero] at h0
  have e3 : wI (wI (64 * (n : Int)) - 1) = ((64 * n : Nat) : Int) - 1 := by
    rw [wI_eq (z := 64 * (n : Int)) (by omega), wI_eq (by omega)]; omega
  rw [e3]
  refine himp_safe ?_ h0
  exact ⟨rfl, rfl, rfl, fun β l h => h, rfl, rfl, rfl, fun β l h => h, rfl, rfl, rfl, fun β l h => h, rfl, rfl, rfl, fun β l h => num_any (k := 6) (x := 1) (by kernel_rfl) h, trivial⟩
theorem rpowSpec_ok : SpecOk Tryz.prog 204 powSpec := by
  refine can_spec Tryz.func204 (by kernel_rfl) (by kernel_rfl) fun args H fr path r h => ?_
  unfold powSpec at h
  split at h
  case h_2 => cases h
  rename_i a k off n m
  split at h
  case h_2 => cases h
  rename_i x ty cs o hx hk
  split at h
  case h_2 => cases h
  rename_i xs hxs
  injection h with h
  refine ⟨[k], powA x off n m, seqH xs, 1, 0, [], num6 (powN x (natL ((xs.drop off).take n))), [], _, path, h.symm, fun β us w ha hg hc => ?_⟩
  obtain ⟨u1, us1, r1, ⟨u2, us2, r2, ha, rfl⟩, rfl⟩ := ha
  obtain ⟨g1, g2, g3⟩ := good_seq hg hk hxs
  refine ⟨rpow_can g1 (Nat.le_of_ble_eq_true hc.1) (Nat.le_of_ble_eq_true hc.2.1) x, by kernel_rfl, ⟨u1, _, ?_, ⟨u2, us2, ?_, ha, rfl⟩, rfl⟩, g2, g3⟩
  · obtain ⟨l, q, rfl⟩ := r1; exact ⟨l, num_any hx q, rfl⟩
  · exact r2
noncomputable def SX : List (FuncId × ASpec) := (256, wdSpec fun _ l => num6 (natL l % pN)) :: (204, powSpec) :: SW
theorem SXok : SpecsOk Tryz.prog SX := ⟨wdSpec_ok Tryz.func256 (by kernel_rfl) (by kernel_rfl) (fun _ _ => rfl) (fun _ _ _ _ hx hl hn => wide_can hx hl hn), rpowSpec_ok, SWok⟩
end Go.Proofs.YtfmajnlfpnjagaaGreat
/- sigilref03: Cmp, Octets, Words: the contracts. -/
namespace Go.Proofs.YtfmajnlfpnjagaaGreat
open Ex Num
set_option maxRecDepth 100000
set_option maxHeartbeats 4000000

/- Cmp -/
noncomputable def rcTodo : List Item := todoOf (aSeg Tryz.prog (orc SX K0) (some 0) 100 2 none (entry Tryz.f200 (sl2 0 0 0 0 0 0) (seqH2 [] []) 2 []))
abbrev rcK : Option (List Nat × List Nat × Nat) := some ([0, 1, 5], [0, 1], 2)
section
variable (off n m off' n' m' : Nat) (xs ys : List Int)
noncomputable def rcS (i : Int) (p : List Bool) : ASt := ⟨rcTodo, ⟨mkT Tryz.f200.ntmps [(0, slA 0 off n m), (1, slA 1 off' n' m'), (5, iA i)], seqH2 xs ys, 2, p⟩⟩
theorem rc_entry : aSeg Tryz.prog (orc SX K0) (some 0) 100 2 rcK (entry Tryz.f200 (sl2 off n m off' n' m') (seqH2 xs ys) 2 []) =
  some ([(hasB .i64 n, true), (hasB .i64 n', true)], [], rcS off n m off' n' m' xs ys (wI (maxI n n' - 1)) []) := by kernel_rfl
def rcC (i : Int) (r : List (Bool × Bool)) : List (Bool × Bool) := (Nat.ble (off + n) xs.length, true) :: (hasB .i64 n, true) :: (decide (0 ≤ i), true) :: (Nat.ble (off' + n') ys.length, true) :: (hasB .i64 n', true) :: (decide (0 ≤ i), true) :: r
theorem rc_same (i : Int) : aSeg Tryz.prog (orc SX K0) (some 0) 100 2 rcK (rcS off n m off' n' m' xs ys i [true, false, false]) =
  some ((decide (0 ≤ i), true) :: rcC off n off' n' xs ys i ((decide (atV xs off n i < atV ys off' n' i), false) :: rcC off n off' n' xs ys i [(decide (atV ys off' n' i < atV xs off n i), false)]), [], rcS off n m off' n' m' xs ys (wI (i - 1)) []) := by kernel_rfl
theorem rc_lt (i : Int) : segOut Tryz.prog (orc SX K0) Tryz.f200 100 2 [] (rcS off n m off' n' m' xs ys i [true, true]) =
  some ((decide (0 ≤ i), true) :: rcC off n off' n' xs ys i [(decide (atV xs off n i < atV ys off' n' i), true)], [], .val false [.n .i64 (-1)], []) := by kernel_rfl
theorem rc_gt (i : Int) : segOut Tryz.prog (orc SX K0) Tryz.f200 100 2 [] (rcS off n m off' n' m' xs ys i [true, false, true]) =
  some ((decide (0 ≤ i), true) :: rcC off n off' n' xs ys i ((decide (atV xs off n i < atV ys off' n' i), false) :: rcC off n off' n' xs ys i [(decide (atV ys off' n' i < atV xs off n i), true)]), [], .val false [.n .i64 1], []) := by kernel_rfl
theorem rc_end (i : Int) : segOut Tryz.prog (orc SX K0) Tryz.f200 100 2 [] (rcS off n m off' n' m' xs ys i [false]) =
  some ([(decide (0 ≤ i), false)], [], .val false [.n .i64 0], []) := by kernel_rfl
end
theorem rcmp_can {off n m off' n' m' : Nat} {xs ys : List Int} (hx : ∀ d ∈ xs, 0 ≤ d ∧ d < 18446744073709551616) (hy : ∀ d ∈ ys, 0 ≤ d ∧ d < 18446744073709551616) (hl : off + n ≤ xs.length) (hl' : off' + n' ≤ ys.length)
    (hn : hasB .i64 n = true) (hn' : hasB .i64 n' = true) : CanOk Tryz.prog 200 (sl2 off n m off' n' m') (seqH2 xs ys) 2 [] (.val false [.v (.int .i64 (cmpI (natL (win xs off n)) (natL (win ys off' n'))))]) [] := by
  refine can_entry (path := []) Tryz.func200 (by kernel_rfl) (by kernel_rfl) fun β0 w0 hb => ?_
  refine seg_safe (orc_ok SXok K0ok) mixed (rc_entry off n m off' n' m' xs ys) ⟨hn, hn', trivial⟩ (wfB_ok (by kernel_rfl)) hb (fun _ h => by cases h) fun _ => ?_
  have bn : n ≤ 9223372036854775807 := by simp only [hasB, Bool.and_eq_true, decide_eq_true_eq] at hn; omega
  have bn' : n' ≤ 9223372036854775807 := by simp only [hasB, Bool.and_eq_true, decide_eq_true_eq] at hn'; omega
  have e : wI (maxI n n' - 1) = ((max n n' : Nat) : Int) - 1 := by
    have : maxI n n' = ((max n n' : Nat) : Int) := by unfold maxI; split <;> omega
    rw [this, wI_eq (by omega)]
  rw [e]
  have loop : ∀ c, c ≤ max n n' → natL (win xs off n) / 2 ^ (64 * c) = natL (win ys off' n') / 2 ^ (64 * c) →
      ASafe Tryz.prog 200 β0 w0 (Outs β0 w0 [] (.val false [.v (.int .i64 (cmpI (natL (win xs off n)) (natL (win ys off' n'))))]) []) Tryz.f200.ntmps [] (rcS off n m off' n' m' xs ys ((c : Int) - 1) []) := by
    intro c
    induction c with
    | zero =>
      intro _ heq
      rw [Nat.mul_zero, Nat.pow_zero, Nat.div_one, Nat.div_one] at heq
      have h := out_safe (w0 := w0) (W := []) (n := Tryz.f200.ntmps) (orc_ok SXok K0ok) mixed Tryz.func200 (rc_end off n m off' n' m' xs ys (((0 : Nat) : Int) - 1)) ⟨rfl, trivial⟩ (wfB_ok (by kernel_rfl)) hb (fun _ h => by cases h)
      exact path_safe [false] (asafe_val h fun _ _ => nval (by unfold cmpI; rw [heq]; simp))
    | succ c ih =>
      intro hc heq
      have hi : ((c + 1 : Nat) : Int) - 1 = (c : Int) := by omega
      rw [hi]
      have sx := natL_split (win_has (off := off) (n := n) hx) c
      have sy := natL_split (win_has (off := off') (n := n') hy) c
      have bx := getD_bd (win_has (off := off) (n := n) hx) c
      have byy := getD_bd (win_has (off := off') (n := n') hy) c
      have ex : atV xs off n c = (win xs off n).getD c 0 := by unfold atV; rw [Int.toNat_natCast]
      have ey : atV ys off' n' c = (win ys off' n').getD c 0 := by unfold atV; rw [Int.toNat_natCast]
      have hC : ∀ r, okConds r → okConds (rcC off n off' n' xs ys c r) := fun r hr => ⟨Nat.ble_eq_true_of_le hl, hn, by simp, Nat.ble_eq_true_of_le hl', hn', by simp, hr⟩
      by_cases hlt : atV xs off n c < atV ys off' n' c
      · have h := out_safe (w0 := w0) (W := []) (n := Tryz.f200.ntmps) (orc_ok SXok K0ok) mixed Tryz.func200 (rc_lt off n m off' n' m' xs ys c) ⟨by simp, hC _ ⟨decide_eq_true hlt, trivial⟩⟩ (wfB_ok (by kernel_rfl)) hb (fun _ h => by cases h)
        refine path_safe [true, true] (asafe_val h fun _ _ => nval ?_)
        have : natL (win xs off n) < natL (win ys off' n') := ltdiv (Q := 2 ^ (64 * c)) (by rw [sx, sy, heq]; omega)
        unfold cmpI; rw [if_pos this]
      · by_cases hgt : atV ys off' n' c < atV xs off n c
        · have h := out_safe (w0 := w0) (W := []) (n := Tryz.f200.ntmps) (orc_ok SXok K0ok) mixed Tryz.func200 (rc_gt off n m off' n' m' xs ys c) ⟨by simp, hC _ ⟨decide_eq_false hlt, hC _ ⟨decide_eq_true hgt, trivial⟩⟩⟩ (wfB_ok (by kernel_rfl)) hb (fun _ h => by cases h)
          refine path_safe [true, false, true] (asafe_val h fun _ _ => nval ?_)
          have : natL (win ys off' n') < natL (win xs off n) := ltdiv (Q := 2 ^ (64 * c)) (by rw [sx, sy, heq]; omega)
          unfold cmpI; rw [if_neg (by omega), if_pos this]
        · refine path_safe [true, false, false] (seg_safe (orc_ok SXok K0ok) mixed (rc_same ..) ⟨by simp, hC _ ⟨decide_eq_false hlt, hC _ ⟨decide_eq_false hgt, trivial⟩⟩⟩ (wfB_ok (by kernel_rfl)) hb (fun _ h => by cases h) fun _ => ?_)
          rw [wI_eq (z := (c : Int) - 1) (by omega)]
          exact ih (by omega) (by rw [sx, sy, heq]; omega)
  refine loop _ (Nat.le_refl _) ?_
  have big : ∀ (zs : List Int) (of k : Nat), (∀ d ∈ zs, 0 ≤ d ∧ d < 18446744073709551616) → k ≤ max n n' → natL (win zs of k) / 2 ^ (64 * max n n') = 0 := by
    intro zs of k hz hk
    refine Nat.div_eq_of_lt (Nat.lt_of_lt_of_le (natL_lt _ (win_has hz)) (Nat.pow_le_pow_right (by decide) ?_))
    have : (win zs of k).length ≤ k := by unfold win; rw [List.length_take]; omega
    omega
  rw [big xs off n hx (by omega), big ys off' n' hy (by omega)]
theorem rcmpSpec_ok : SpecOk Tryz.prog 200 cmpSpec := by
  refine can_spec Tryz.func200 (by kernel_rfl) (by kernel_rfl) fun args H fr path r h => ?_
  unfold cmpSpec at h
  split at h
  case h_2 => cases h
  rename_i k off n m t off' n' m'
  split at h
  case h_2 => cases h
  rename_i ty cs o ty' ds o' hk ht
  split at h
  case h_2 => cases h
  rename_i xs ys hxs hys
  injection h with h
  refine ⟨[k, t], sl2 off n m off' n' m', seqH2 xs ys, 2, 0, [], _, [], _, path, h.symm, fun β us w ha hg hc => ?_⟩
  obtain ⟨u1, us1, r1, ⟨u2, us2, r2, ha, rfl⟩, rfl⟩ := ha
  obtain ⟨g1, g1', g2, g3⟩ := good_seq2 hg hk ht hxs hys
  exact ⟨rcmp_can g1 g1' (Nat.le_of_ble_eq_true hc.1) (Nat.le_of_ble_eq_true hc.2.1) hc.2.2.1 hc.2.2.2.1, by kernel_rfl, ⟨u1, _, r1, ⟨u2, _, r2, ha, rfl⟩, rfl⟩, g2, g3⟩

/- Octets -/
noncomputable def roTodo : List Item := todoOf (aSeg Tryz.prog (orc SX K0) (some 0) 100 1 none (entry Tryz.f113 [slA 0 0 0 0, iA 0] (seqH []) 1 []))
noncomputable def roT (off m c : Nat) (n : Int) (s : AV) (i : AV) : List AV := mkT Tryz.f113.ntmps [(0, slA 0 off m c), (1, iA n), (5, s), (6, i)]
def roH (xs : List Int) (ys : List Int) : Heap := [(0, some (roB [.seq .u64 xs])), (1, some ⟨5, [.seq .u8 ys], true⟩)]
noncomputable def roS (off m c : Nat) (n : Int) (xs : List Int) (L : Nat) (ys : List Int) (i : Int) (p : List Bool) : ASt := ⟨roTodo, ⟨roT off m c n (.val false [.sx 1 L 1]) (iA i), roH xs ys, 2, p⟩⟩
theorem ro_entry (off m c : Nat) (n : Int) (xs : List Int) : aSeg Tryz.prog (orc SX K0) (some 0) 100 1 (some ([0, 1, 5, 6], [0], 1)) (entry Tryz.f113 [slA 0 off m c, iA n] (seqH xs) 1 []) =
  some ([], [], ⟨roTodo, ⟨roT off m c n (.val false [.v (.slice none 0 0)]) (.val false [.n .i64 0]), seqH xs, 1, []⟩⟩) := by kernel_rfl
theorem ro_nil (off m c : Nat) (n : Int) (xs : List Int) : (⟨roTodo, ⟨(nilT 1 1 [5] 0 (roT off m c n (.val false [.v (.slice none 0 0)]) (.val false [.n .i64 0]))).map nvA, seqH xs ++ [(1, some ⟨5, [.seq .u8 []], true⟩)], 1 + 1, []⟩⟩ : ASt) = roS off m c n xs 0 [] 0 [] := by kernel_rfl
def roV (xs : List Int) (off m : Nat) (k : Int) : Int := wrapc false .u8 (Int.fdiv (atV xs off m (wI (Int.tdiv k 8))) (2 ^ min (wrapc false .u64 (wI (8 * Int.tmod k 8))).toNat 64))
def roC (off m : Nat) (n : Int) (xs : List Int) (L : Nat) (ys : List Int) (i : Int) : List (Bool × Bool) := [(decide (i < n), true), (true, true), (Nat.ble (off + m) xs.length, true), (hasB .i64 m, true), (decide (0 ≤ wI (Int.tdiv (octK8 n i) 8)), true),
  (decide (0 ≤ octK8 n i ∧ (0 : Int) < 8), true), (decide (0 ≤ wrapc false .u64 (wI (8 * Int.tmod (octK8 n i) 8)) ∧ 0 ≤ atV xs off m (wI (Int.tdiv (octK8 n i) 8))), true), (Nat.ble L ys.length, true), (decide (1 ≤ 1 ∧ 2 * (L + 1) * 1 ≤ 281474976710656), true)]
theorem ro_step (off m c : Nat) (n : Int) (xs : List Int) (L : Nat) (ys : List Int) (i : Int) : aSeg Tryz.prog (orc SX K0) (some 0) 100 1 (some ([0, 1, 5, 6], [0, 3], 4)) (roS off m c n xs L ys i [true]) =
  some (roC off m n xs L ys i, [], ⟨roTodo, ⟨renTs (rkey 1 [3]) (roT off m c n (.val false [.sx 1 (L + 1) 1]) (iA (wI (i + 1)))), renH (rkey 1 [3]) (roH xs (ys.take L ++ [roV xs off m (octK8 n i)])), 4, []⟩⟩) := by kernel_rfl
def roOut (ys : List Int) : Heap := [(1, some ⟨5, [.seq .u8 ys], true⟩)]
theorem ro_exit (off m c : Nat) (n : Int) (xs : List Int) (L : Nat) (ys : List Int) (i : Int) : segOut Tryz.prog (orc SX K0) Tryz.f113 100 1 [1] (roS off m c n xs L ys i [false]) =
  some ([(decide (i < n), false)], [], .val false [.sx 1 L 1], roOut ys) := by kernel_rfl
theorem roV_eq {xs : List Int} {off m : Nat} (hx : ∀ d ∈ xs, 0 ≤ d ∧ d < 18446744073709551616) {k : Nat} (hk : k ≤ 35184372088832) : roV xs off m (k : Int) = byteN (natL (win xs off m)) k ∧ 0 ≤ atV xs off m (wI (Int.tdiv (k : Int) 8)) ∧ 0 ≤ wrapc false .u64 (wI (8 * Int.tmod (k : Int) 8)) := by
  have e2 : wI (8 * Int.tmod (k : Int) 8) = ((8 * (k % 8) : Nat) : Int) := by rw [tmod8, wI_eq (by omega)]; omega
  have e3 : wrapc false .u64 (wI (8 * Int.tmod (k : Int) 8)) = wI (8 * Int.tmod (k : Int) 8) := by rw [e2, wrapc_eq, IntKind.wrap_u64]; omega
  obtain ⟨h1, h2⟩ := octV_eq (off := off) (m := m) hx hk
  refine ⟨by unfold roV; rw [e3]; exact h1, h2, by rw [e3, e2]; omega⟩
theorem roct_can {off m c : Nat} {xs : List Int} (hx : ∀ d ∈ xs, 0 ≤ d ∧ d < 18446744073709551616) (hl : off + m ≤ xs.length) (hm : hasB .i64 m = true) {n : Nat} (hn : n ≤ 35184372088832) :
    CanOk Tryz.prog 113 [slA 0 off m c, iA n] (seqH xs) 1 [] (.val false [.sx 1 n 1]) (roOut (octL (natL (win xs off m)) n)) := by
  refine can_entry (path := []) Tryz.func113 (by kernel_rfl) (by kernel_rfl) fun β0 w0 hb => ?_
  refine seg_safe (orc_ok SXok K0ok) mixed (ro_entry off m c n xs) trivial (wfB_ok (by kernel_rfl)) hb (fun _ h => by cases h) fun _ => ?_
  refine nil_safe (ts := [5]) (sz := 1) (ty := 5) (kd := .u8) rfl (hb 1 (Nat.le_refl _)) (nv_safe ?_)
  rw [ro_nil]
  have loop : ∀ r i, i + r = n → ASafe Tryz.prog 113 β0 w0 (Outs β0 w0 [] (.val false [.sx 1 n 1]) (roOut (octL (natL (win xs off m)) n))) Tryz.f113.ntmps [] (roS off m c n xs i ((List.range i).map fun i => byteN (natL (win xs off m)) (n - 1 - i)) i []) := by
    intro r
    induction r with
    | zero =>
      intro i hi
      obtain rfl : i = n := by omega
      exact path_safe [false] (out_safe (orc_ok SXok K0ok) mixed Tryz.func113 (ro_exit ..) ⟨by simp, trivial⟩ (wfB_ok (by kernel_rfl)) hb (fun _ h => by cases h))
    | succ r ih =>
      intro i hi
      have ek : octK8 (n : Int) i = ((n - 1 - i : Nat) : Int) := wI_k hn (by omega)
      have ev := roV_eq (off := off) (m := m) hx (k := n - 1 - i) (by omega)
      have ed : wI (Int.tdiv ((n - 1 - i : Nat) : Int) 8) = (((n - 1 - i) / 8 : Nat) : Int) := by rw [tdiv8]; exact wI_eq (by omega)
      refine path_safe [true] (seg_safe (orc_ok SXok K0ok) mixed (ro_step ..) ?_ (wfB_ok (by kernel_rfl)) hb (fun _ h => by cases h) fun _ => ?_)
      · rw [roC, ek]
        refine ⟨by simp; omega, rfl, Nat.ble_eq_true_of_le hl, hm, by rw [ed]; simp only [decide_eq_true_eq]; omega, by simp, by simp only [decide_eq_true_eq]; exact ⟨ev.2.2, ev.2.1⟩, by simp, by simp only [decide_eq_true_eq]; omega, trivial⟩
      · refine ren_safe (m := 2) (by kernel_rfl) hb ?_
        rw [ek, ev.1, wI_eq (z := (i : Int) + 1) (by omega), List.take_of_length_le (by simp)]
        have := ih (i + 1) (by omega)
        rw [List.range_succ, List.map_append] at this
        exact this
  exact loop n 0 (by omega)
def roctSpec : ASpec := fun args H fr path =>
  match args with
  | [.val false [.sl k off m _], I] => match asI (some I), hget H k with
    | some (_, .i64, i), some ⟨_, cs, _⟩ => match toSeq .u64 cs with
      | some xs => some (trR [k] 1 fr 1 [] (.val false [.sx 1 i.toNat 1]) (roOut (octL (natL (win xs off m)) i.toNat)) [(Nat.ble (off + m) xs.length, true), (hasB .i64 m, true), (decide (0 ≤ i ∧ i ≤ 35184372088832), true)] path)
      | none => none
    | _, _ => none
  | _ => none
theorem roctSpec_ok : SpecOk Tryz.prog 113 roctSpec := by
  refine can_spec Tryz.func113 (by kernel_rfl) (by kernel_rfl) fun args H fr path r h => ?_
  unfold roctSpec at h
  split at h
  case h_2 => cases h
  rename_i k off m c I
  split at h
  case h_2 => cases h
  rename_i c0 i ty cs o hI hk
  split at h
  case h_2 => cases h
  rename_i xs hxs
  injection h with h
  refine ⟨[k], [slA 0 off m c, iA i], seqH xs, 1, 1, [], _, _, _, path, h.symm, fun β us w ha hg hc => ?_⟩
  obtain ⟨u1, us1, r1, ⟨u2, us2, r2, ha, rfl⟩, rfl⟩ := ha
  obtain ⟨g1, g2, g3⟩ := good_seq hg hk hxs
  obtain ⟨rfl, p1⟩ := asI_rel (β := β) (u := u2) (fun A hA => by injection hA with hA; subst hA; exact r2) hI
  have hi := hc.2.2.1
  simp only [decide_eq_true_eq] at hi
  obtain ⟨n, rfl⟩ := Int.eq_ofNat_of_zero_le hi.1
  exact ⟨roct_can g1 (Nat.le_of_ble_eq_true hc.1) hc.2.1 (by omega), by kernel_rfl, ⟨u1, _, r1, ⟨_, us2, rel_one' ⟨rfl, rfl, p1⟩, ha, rfl⟩, rfl⟩, g2, g3⟩

/- Words -/
noncomputable def rwTodo : List Item := todoOf (aSeg Tryz.prog (orc SX K0) (some 0) 100 1 none (entry Tryz.f111 [slA 0 0 0 0] (byH []) 1 []))
noncomputable def rwS (off n c : Nat) (xs : List Int) (L : Nat) (ys : List Int) (i : AV) (p : List Bool) : ASt := ⟨rwTodo, ⟨mkT Tryz.f111.ntmps [(0, slA 0 off n c), (3, slA 1 0 L L), (4, i)], [(0, some (roB [.seq .u8 xs])), (1, some ⟨33, [.seq .u64 ys], false⟩)], 2, p⟩⟩
abbrev rwK' : Option (List Nat × List Nat × Nat) := some ([0, 3, 4], [0, 1], 2)
theorem rw_entry (off n c : Nat) (xs : List Int) : aSeg Tryz.prog (orc SX K0) (some 0) 100 1 rwK' (entry Tryz.f111 [slA 0 off n c] (byH xs) 1 []) =
  some ([(hasB .i64 n, true), (true, true), (mkC (wI (Int.tdiv (wI ((n : Int) + 7)) 8)) 8, true)], [], rwS off n c xs (wrdL n) (List.replicate (wrdL n) 0) (.val false [.n .i64 0]) []) := by kernel_rfl
def rwX (xs : List Int) (off : Nat) (n : Int) (i : Int) : Int := IntKind.u64.wrap (wrapc false .u64 (xs.getD (off + i.toNat * 1) 0) * 2 ^ min (wrapc false .u64 (wI (8 * Int.tmod (octK8 n i) 8))).toNat 64)
def rwV (xs : List Int) (off : Nat) (n : Int) (ys : List Int) (i : Int) : Int := IntKind.u64.wrap (ys.getD (0 + (wrdJ n i).toNat * 1) 0 + rwX xs off n i)
def rwC (off n : Nat) (xs : List Int) (L : Nat) (ys : List Int) (i : Int) : List (Bool × Bool) := [(hasB .i64 n, true), (decide (i < n), true), (hasB .i64 n, true), (true, true), (true, true), (decide (0 ≤ wrdJ n i ∧ wrdJ n i < L), true), (decide (0 + (wrdJ n i).toNat * 1 < ys.length), true),
  (decide (0 ≤ i ∧ i < n), true), (decide (off + i.toNat * 1 < xs.length), true), (decide (0 ≤ octK8 n i ∧ (0 : Int) < 8), true), (decide (0 ≤ wrapc false .u64 (wI (8 * Int.tmod (octK8 n i) 8))), true), (decide (0 ≤ wrdJ n i ∧ wrdJ n i < L), true), (decide (0 + (wrdJ n i).toNat * 1 < ys.length), true)]
theorem rw_step (off n c : Nat) (xs : List Int) (L : Nat) (ys : List Int) (i : Int) : aSeg Tryz.prog (orc SX K0) (some 0) 100 1 rwK' (rwS off n c xs L ys (iA i) [true]) =
  some (rwC off n xs L ys i, [], rwS off n c xs L (ys.set (0 + (wrdJ n i).toNat * 1) (rwV xs off n ys i)) (iA (wI (i + 1))) []) := by kernel_rfl
theorem rw_exit (off n c : Nat) (xs : List Int) (L : Nat) (ys : List Int) (i : Int) : segOut Tryz.prog (orc SX K0) Tryz.f111 100 1 [1] (rwS off n c xs L ys (iA i) [false]) =
  some ([(hasB .i64 n, true), (decide (i < n), false)], [], slA 1 0 L L, wrdH ys) := by kernel_rfl
theorem rwrd_can {off n c : Nat} {xs : List Int} (hx : ∀ d ∈ xs, 0 ≤ d ∧ d < 256) (hl : off + n ≤ xs.length) (hn : n ≤ 35184372088832) :
    CanOk Tryz.prog 111 [slA 0 off n c] (byH xs) 1 [] (slA 1 0 ((n + 7) / 8) ((n + 7) / 8)) (wrdN (natB (win xs off n)) ((n + 7) / 8)) := by
  have hlen : (win xs off n).length = n := by unfold win; rw [List.length_take, List.length_drop]; omega
  have hfin : natB (win xs off n) < 2 ^ (64 * ((n + 7) / 8)) := by
    have h1 := natB_lt (win xs off n) (win_has hx)
    rw [hlen, p256] at h1
    exact Nat.lt_of_lt_of_le h1 (Nat.pow_le_pow_right (by decide) (by omega))
  refine can_entry (path := []) Tryz.func111 (by kernel_rfl) (by kernel_rfl) fun β0 w0 hb => ?_
  obtain ⟨l1, l2⟩ := wrdL_eq hn
  have hw : hasB .i64 (n : Int) = true := by simp only [hasB, Bool.and_eq_true, decide_eq_true_eq]; omega
  refine seg_safe (orc_ok SXok K0ok) mixed (rw_entry off n c xs) ⟨hw, rfl, ?_, trivial⟩ (wfB_ok (by kernel_rfl)) hb (fun _ h => by cases h) fun _ => ?_
  · rw [l2]; unfold mkC; simp only [decide_eq_true_eq]; omega
  · rw [l1]
    refine nv_safe ?_
    have hbd : ∀ d ∈ win xs off n, 0 ≤ d ∧ d < 256 := win_has hx
    have loop : ∀ r i, i + r = n → ASafe Tryz.prog 111 β0 w0 (Outs β0 w0 [] (slA 1 0 ((n + 7) / 8) ((n + 7) / 8)) (wrdH (wordL (natB (win xs off n)) ((n + 7) / 8)))) Tryz.f111.ntmps []
        (rwS off n c xs ((n + 7) / 8) (wordL (natB ((win xs off n).take i) * 256 ^ (n - i)) ((n + 7) / 8)) (iA i) []) := by
      intro r
      induction r with
      | zero =>
        intro i hi
        obtain rfl : i = n := by omega
        rw [Nat.sub_self, Nat.pow_zero, Nat.mul_one, List.take_of_length_le (by omega)]
        exact path_safe [false] (out_safe (orc_ok SXok K0ok) mixed Tryz.func111 (rw_exit ..) ⟨hw, by simp, trivial⟩ (wfB_ok (by kernel_rfl)) hb (fun _ h => by cases h))
      | succ r ih =>
        intro i hi
        have ek : octK8 (n : Int) i = ((n - 1 - i : Nat) : Int) := wI_k hn (by omega)
        have ej : wrdJ (n : Int) i = (((n - 1 - i) / 8 : Nat) : Int) := by unfold wrdJ; rw [ek, tdiv8]; exact wI_eq (by omega)
        have em : wI (8 * Int.tmod ((n - 1 - i : Nat) : Int) 8) = ((8 * ((n - 1 - i) % 8) : Nat) : Int) := by rw [tmod8, wI_eq (by omega)]; omega
        have em' : wrapc false .u64 (wI (8 * Int.tmod ((n - 1 - i : Nat) : Int) 8)) = ((8 * ((n - 1 - i) % 8) : Nat) : Int) := by rw [em, wrapc_eq, IntKind.wrap_u64]; omega
        have hjL : (n - 1 - i) / 8 < (n + 7) / 8 := by omega
        have hlenw : ∀ N, (wordL N ((n + 7) / 8)).length = (n + 7) / 8 := fun N => by simp [wordL]
        have hwx : xs.getD (off + i) 0 = (win xs off n).getD i 0 := (bit_word (by omega)).symm
        have hxb : 0 ≤ (win xs off n).getD i 0 ∧ (win xs off n).getD i 0 < 256 := by
          rw [List.getD_eq_getElem?_getD]
          cases h' : (win xs off n)[i]? with
          | none => simp
          | some d => exact hbd d (List.mem_of_getElem? h')
        refine path_safe [true] (seg_safe (orc_ok SXok K0ok) mixed (rw_step ..) ?_ (wfB_ok (by kernel_rfl)) hb (fun _ h => by cases h) fun _ => ?_)
        · unfold rwC
          rw [ej, ek, em', hlenw]
          refine ⟨hw, by simp; omega, hw, rfl, rfl, by simp only [decide_eq_true_eq]; omega, by simp only [decide_eq_true_eq]; omega, by simp only [decide_eq_true_eq]; omega, by simp; omega, by simp only [decide_eq_true_eq]; omega, by simp only [decide_eq_true_eq]; omega, by simp only [decide_eq_true_eq]; omega, by simp only [decide_eq_true_eq]; omega, trivial⟩
        · have hset : ((wordL (natB ((win xs off n).take i) * 256 ^ (n - i)) ((n + 7) / 8)).set (0 + (wrdJ n i).toNat * 1) (rwV xs off n (wordL (natB ((win xs off n).take i) * 256 ^ (n - i)) ((n + 7) / 8)) i)) =
              wordL (natB ((win xs off n).take (i + 1)) * 256 ^ (n - (i + 1))) ((n + 7) / 8) := by
            have ei : 0 + (((n - 1 - i) / 8 : Nat) : Int).toNat * 1 = (n - 1 - i) / 8 := by omega
            have eo : off + (i : Int).toNat * 1 = off + i := by omega
            unfold rwV rwX
            rw [ej, ek, em', ei, eo, hwx, wordL_getD hjL]
            obtain ⟨X, hX⟩ := Int.eq_ofNat_of_zero_le hxb.1
            have hX2 : X < 256 := by omega
            rw [hX, wrapc_eq, IntKind.wrap_u64, IntKind.wrap_u64, IntKind.wrap_u64, Int.toNat_natCast, Nat.min_eq_left (by omega)]
            have en : n - i = (n - 1 - i) + 1 := by omega
            have en' : n - (i + 1) = n - 1 - i := by omega
            have et : natB ((win xs off n).take (i + 1)) * 256 ^ (n - (i + 1)) = natB ((win xs off n).take i) * 256 ^ (n - 1 - i + 1) + X * 256 ^ (n - 1 - i) := by
              rw [natB_take (by omega), hX, Int.toNat_natCast, en', Nat.add_mul, Nat.mul_assoc, ← Nat.pow_succ']
            rw [et, en]
            obtain ⟨hh, B, w1, w2, w3, w4, w5⟩ := word_more (M := natB ((win xs off n).take i)) (k := n - 1 - i) hX2
            have hle : 8 * ((n - 1 - i) % 8) + 8 ≤ 64 := by omega
            have hs64 : hh * 2 ^ (8 * ((n - 1 - i) % 8) + 8) + B < 18446744073709551616 := by
              have := Nat.mod_lt ((natB ((win xs off n).take i) * 256 ^ (n - 1 - i + 1) + X * 256 ^ (n - 1 - i)) / 2 ^ (64 * ((n - 1 - i) / 8))) (show 0 < 2 ^ 64 by decide)
              rw [w5] at this
              exact this
            refine wordL_set ?_ fun j hj => ?_
            · have hB64 : X * 2 ^ (8 * ((n - 1 - i) % 8)) < 2 ^ 64 := by
                rw [w2]; exact Nat.lt_of_lt_of_le w3 (Nat.pow_le_pow_right (by decide) hle)
              have ex : ((X : Int) % 18446744073709551616 * 2 ^ (8 * ((n - 1 - i) % 8))) % 18446744073709551616 = (B : Int) := by
                have a1 : ((X : Int) % 18446744073709551616) = (X : Int) := by omega
                have a2 : ((X : Int) * 2 ^ (8 * ((n - 1 - i) % 8))) = ((X * 2 ^ (8 * ((n - 1 - i) % 8)) : Nat) : Int) := by rw [Int.natCast_mul, Int.natCast_pow]; rfl
                rw [a1, a2, w2]
                rw [w2] at hB64
                have : B < 18446744073709551616 := hB64
                omega
              rw [ex]
              unfold wordN
              rw [w5, w1]
              omega
            · unfold wordN
              rw [word_same hX2 hj]
          rw [hset, wI_eq (z := (i : Int) + 1) (by omega)]
          exact ih (i + 1) (by omega)
    have := loop n 0 (by omega)
    rw [List.take_zero, show natB [] = 0 from rfl, Nat.zero_mul, wordL_zero] at this
    exact asafe_outs this fun e w h => outs_block1 (seq_words hfin) h
theorem rwrdSpec_ok : SpecOk Tryz.prog 111 wrdSpec := by
  refine can_spec Tryz.func111 (by kernel_rfl) (by kernel_rfl) fun args H fr path r h => ?_
  unfold wrdSpec at h
  split at h
  case h_2 => cases h
  rename_i k off n c
  split at h
  case h_2 => cases h
  rename_i ty cs o hk
  split at h
  case h_2 => cases h
  rename_i xs hxs
  injection h with h
  refine ⟨[k], [slA 0 off n c], byH xs, 1, 1, [], _, _, _, path, h.symm, fun β us w ha hg hc => ?_⟩
  obtain ⟨u1, us1, r1, ha, rfl⟩ := ha
  obtain ⟨g1, g2, g3⟩ := good_by hg hk hxs
  exact ⟨rwrd_can g1 (Nat.le_of_ble_eq_true hc.1) (Nat.le_of_ble_eq_true hc.2.1), by kernel_rfl, ⟨u1, _, r1, ha, rfl⟩, g2, g3⟩
noncomputable def SY : List (FuncId × ASpec) := (200, cmpSpec) :: (113, roctSpec) :: (111, wrdSpec) :: SX
theorem SYok : SpecsOk Tryz.prog SY := ⟨rcmpSpec_ok, roctSpec_ok, rwrdSpec_ok, SXok⟩
end Go.Proofs.YtfmajnlfpnjagaaGreat
/- sigilref04: Inv, Bytes, FromBytes: the contracts; nil arguments. -/
namespace Go.Proofs.YtfmajnlfpnjagaaGreat
open Ex Num
set_option maxRecDepth 100000
set_option maxHeartbeats 4000000

def PM2 : List Int := [0xb9feffffffffaaa9, 0x1eabfffeb153ffff, 0x6730d2a0f6b0f624, 0x64774b84f38512bf, 0x4b1ba7b6434bacd7, 0x1a0111ea397fe69a]
theorem natL_PM2 : natL (win PM2 0 6) = pN - 2 := by kernel_rfl
theorem rinv_run (x : Nat) : pureRun Tryz.prog (orc SY K0) Tryz.f124 [num6 x] [] 300 = some (allT 2, num6 (powN x (natL (win PM2 0 6)))) := by kernel_rfl
theorem rinv_ok (x : Nat) : PureOk Tryz.prog 124 [num6 x] (num6 (invN x)) := by
  have h := pure_ok (orc_ok SYok K0ok) mixed Tryz.func124 (rinv_run x) (allT_ok 2) rfl
  rw [natL_PM2] at h
  exact h
theorem rbytes_run (a : Nat) : pureRun Tryz.prog (orc SY K0) Tryz.f208 [num6 a] [] 3000 = some (allT 99, .val true ((octL (natL (win (ws6 (a % pN)) 0 6)) 48).map fun d => .v (.int .u8 d))) := by kernel_rfl
theorem by_seq {β : Env} : ∀ {ds : List Int} {l : List Value}, relL β (ds.map fun d => .v (.int .u8 d)) l → relL β [.seq .u8 ds] l
  | ds, l, h => by
    have key : ∀ (ds : List Int) (l : List Value), relL β (ds.map fun d => .v (.int .u8 d)) l → l = ds.map (.int .u8) ∧ ∀ d ∈ ds, has .u8 d := by
      intro ds
      induction ds with
      | nil => intro l h; exact ⟨h, by simp⟩
      | cons d r ih =>
        rintro l ⟨l1, l2, ⟨h1, h2⟩, h3, h4⟩
        obtain ⟨i1, i2⟩ := ih l2 h3
        subst h1; subst i1; subst h4
        refine ⟨rfl, fun x hx => ?_⟩
        rcases List.mem_cons.1 hx with rfl | hx
        · exact h2.2
        · exact i2 x hx
    obtain ⟨h1, h2⟩ := key ds l h
    exact ⟨l, [], ⟨h1, h2⟩, rfl, by simp⟩
theorem rbytes_ok (a : Nat) : PureOk Tryz.prog 208 [num6 a] (bytesA (a % pN)) := by
  have h := pure_ok (orc_ok SYok K0ok) mixed Tryz.func208 (rbytes_run a) (allT_ok 99) rfl
  rw [natL_ws6 (lt_RR_mod a)] at h
  exact pure_val h fun u ⟨l, q, e⟩ => ⟨l, by_seq q, e⟩

theorem rfb_len (off n m : Nat) (xs : List Int) : segOut Tryz.prog (orc SY K0) Tryz.f209 300 1 [] (entry Tryz.f209 [slA 0 off n m] (byH xs) 1 [true]) =
  some ([(hasB .i64 n, true), (!decide ((n : Int) = 48), true)], [], fb0 40, []) := by kernel_rfl
def rfC (N : Nat) : Bool := decide (0 ≤ cmpI (natL (win (ws6 N) 0 6)) (natL (win PL 0 6)))
theorem rfb_range (off m : Nat) (xs : List Int) : segOut Tryz.prog (orc SY K0) Tryz.f209 300 1 [] (entry Tryz.f209 [slA 0 off 48 m] (byH xs) 1 [false, true]) =
  some ([(true, true), (false, false), (Nat.ble (off + 48) xs.length, true), (true, true), (true, true), (true, true), (true, true), (true, true), (rfC (natB (win xs off 48)), true)], [], fb0 41, []) := by kernel_rfl
theorem rfb_num (off m : Nat) (xs : List Int) : segOut Tryz.prog (orc SY K0) Tryz.f209 300 1 [] (entry Tryz.f209 [slA 0 off 48 m] (byH xs) 1 [false, false]) =
  some ([(true, true), (false, false), (Nat.ble (off + 48) xs.length, true), (true, true), (true, true), (true, true), (true, true), (true, true), (rfC (natB (win xs off 48)), false), (true, true), (true, true)], [],
    .tup [(true, [.num 6 (natL (win (ws6 (natB (win xs off 48))) 0 6) % pN)]), (false, [.n .i64 0])], []) := by kernel_rfl
theorem rfC_eq {N : Nat} (hN : N < RR) : rfC N = !decide (N < pN) := by
  unfold rfC
  rw [natL_ws6 hN, natL_PL]
  unfold cmpI
  by_cases h : N < pN
  · rw [if_pos h, decide_eq_true h]; rfl
  · rw [if_neg h, decide_eq_false h]; split <;> rfl
theorem rfb_can {off n m : Nat} {xs : List Int} (hx : ∀ d ∈ xs, 0 ≤ d ∧ d < 256) (hl : off + n ≤ xs.length) (hn : hasB .i64 n = true) :
    CanOk Tryz.prog 209 [slA 0 off n m] (byH xs) 1 [] (fbA n (natB (win xs off n))) [] := by
  by_cases h : n = 48
  · subst h
    have hR : natB (win xs off 48) < RR := by
      have h1 := natB_lt (win xs off 48) (win_has hx)
      have h2 : (win xs off 48).length = 48 := by unfold win; rw [List.length_take, List.length_drop]; omega
      rw [h2] at h1
      exact Nat.lt_of_lt_of_eq h1 (by kernel_rfl)
    by_cases hN : natB (win xs off 48) < pN
    · refine can_val (can_entry (path := [false, false]) Tryz.func209 (by kernel_rfl) (by kernel_rfl) fun β0 w0 hb =>
        out_safe (orc_ok SYok K0ok) mixed Tryz.func209 (rfb_num off m xs) ⟨rfl, rfl, Nat.ble_eq_true_of_le hl, rfl, rfl, rfl, rfl, rfl, by rw [rfC_eq hR, decide_eq_true hN]; rfl, rfl, rfl, trivial⟩ (wfB_ok (by kernel_rfl)) hb (fun _ h => by cases h)) fun β u hu => ?_
      unfold fbA fbV fbE
      rw [if_pos ⟨rfl, hN⟩, if_pos rfl, if_pos hN]
      rw [natL_ws6 hR, Nat.mod_eq_of_lt hN] at hu
      exact relT2 (fun _ q => q) (fun _ q => gval rfl q) hu
    · refine can_val (can_entry (path := [false, true]) Tryz.func209 (by kernel_rfl) (by kernel_rfl) fun β0 w0 hb =>
        out_safe (orc_ok SYok K0ok) mixed Tryz.func209 (rfb_range off m xs) ⟨rfl, rfl, Nat.ble_eq_true_of_le hl, rfl, rfl, rfl, rfl, rfl, by rw [rfC_eq hR, decide_eq_false hN]; rfl, trivial⟩ (wfB_ok (by kernel_rfl)) hb (fun _ h => by cases h)) fun β u hu => ?_
      unfold fbA fbV fbE
      rw [if_neg (fun q => hN q.2), if_pos rfl, if_neg hN]
      exact relT2 (fun _ q => zero_num q) (fun _ q => gval rfl q) hu
  · refine can_val (can_entry (path := [true]) Tryz.func209 (by kernel_rfl) (by kernel_rfl) fun β0 w0 hb =>
      out_safe (orc_ok SYok K0ok) mixed Tryz.func209 (rfb_len off n m xs) ⟨hn, by simp; omega, trivial⟩ (wfB_ok (by kernel_rfl)) hb (fun _ h => by cases h)) fun β u hu => ?_
    unfold fbA fbV fbE
    rw [if_neg (fun q => h q.1), if_neg h]
    exact relT2 (fun _ q => zero_num q) (fun _ q => gval rfl q) hu
theorem fbSpec_ok : SpecOk Tryz.prog 144 (bySpec fun n l => fbA n (natB l)) := bySpec_ok Tryz.func144 (by kernel_rfl) (by kernel_rfl) (fun _ _ => rfl) (fun _ _ _ _ _ hl hn => fb_can hl hn)
noncomputable def SZ : List (FuncId × ASpec) := (124, pureSpec (sp1 fun x => num6 (invN x))) :: (208, pureSpec (sp1 fun x => bytesA (x % pN))) :: (209, nilSpec (bySpec fun n l => fbA n (natB l))) :: (144, nilSpec (bySpec fun n l => fbA n (natB l))) :: (217, nilSpec powSpec) :: (204, nilSpec powSpec) :: (256, nilSpec (wdSpec fun _ l => num6 (natL l % pN))) :: SY
theorem SZok : SpecsOk Tryz.prog SZ := ⟨pureSpec_ok Tryz.func124 (by kernel_rfl) (by kernel_rfl) (sp1_ok fun x _ => rinv_ok x), pureSpec_ok Tryz.func208 (by kernel_rfl) (by kernel_rfl) (sp1_ok fun x _ => rbytes_ok x), nilSpec_ok (bySpec_ok Tryz.func209 (by kernel_rfl) (by kernel_rfl) (fun _ _ => rfl) (fun _ _ _ _ hx hl hn => rfb_can hx hl hn)), nilSpec_ok fbSpec_ok, nilSpec_ok powSpec_ok, nilSpec_ok rpowSpec_ok, nilSpec_ok (wdSpec_ok Tryz.func256 (by kernel_rfl) (by kernel_rfl) (fun _ _ => rfl) (fun _ _ _ _ hx hl hn => wide_can hx hl hn)), SYok⟩
end Go.Proofs.YtfmajnlfpnjagaaGreat
/- Octets of numbers, and numbers of octets. -/
namespace Go.Proofs.YtfmajnlfpnjagaaGreat
open Ex
set_option maxRecDepth 100000
set_option maxHeartbeats 4000000

theorem octL_length (x n : Nat) : (octL x n).length = n := by simp [octL]
theorem octL_succ (x n : Nat) : octL x (n + 1) = byteN x n :: octL x n := by
  unfold octL
  rw [List.range_succ_eq_map, List.map_cons, List.map_map]
  congr 1
  refine List.map_congr_left fun i hi => ?_
  have : i < n := List.mem_range.1 hi
  simp only [Function.comp]
  congr 1; omega
theorem natB_octL : ∀ (n x : Nat), natB (octL x n) = x % 256 ^ n
  | 0, x => by simp [octL, natB, Nat.mod_one]
  | n + 1, x => by
    rw [octL_succ]
    simp only [natB]
    rw [octL_length, natB_octL n x, Nat.pow_succ, Nat.mod_mul]
    unfold byteN
    rw [Int.toNat_natCast, Nat.mul_comm, Nat.add_comm]
theorem octL_natB : ∀ (l : List Int), (∀ d ∈ l, 0 ≤ d ∧ d < 256) → octL (natB l) l.length = l
  | [], _ => rfl
  | d :: r, h => by
    have hd := h d (by simp)
    have hr : ∀ d ∈ r, 0 ≤ d ∧ d < 256 := fun x hx => h x (by simp [hx])
    have hlt := natB_lt r hr
    have ih := octL_natB r hr
    rw [List.length_cons, octL_succ]
    have e1 : byteN (natB (d :: r)) r.length = d := by
      unfold byteN
      simp only [natB]
      rw [Nat.mul_comm, Nat.mul_add_div (Nat.pow_pos (by decide)), Nat.div_eq_of_lt hlt]
      omega
    have e2 : octL (natB (d :: r)) r.length = octL (natB r) r.length := by
      unfold octL
      refine List.map_congr_left fun i hi => ?_
      have hi' : i < r.length := List.mem_range.1 hi
      unfold byteN
      simp only [natB]
      have e : 256 ^ r.length = 256 ^ (r.length - 1 - i) * (256 * 256 ^ i) := by
        rw [← Nat.pow_succ', ← Nat.pow_add]; congr 1; omega
      rw [e, Nat.mul_left_comm, Nat.mul_add_div (Nat.pow_pos (by decide)), Nat.mul_left_comm d.toNat, Nat.mul_add_mod]
    rw [e1, e2, ih]
end Go.Proofs.YtfmajnlfpnjagaaGreat
/- What comes in with the call of a law: lists of numbers too. -/
namespace Go.Proofs.YtfmajnlfpnjagaaGreat
open Ex
open Go.RowKit (Below)
set_option maxRecDepth 100000
set_option maxHeartbeats 4000000

def locEnv (ls : List Ex.Loc) : Env := fun k => ls[k]?
theorem locEnv_le (ls : List Ex.Loc) (L : Ex.Loc) : Env.le (locEnv ls) (locEnv (ls ++ [L])) := fun b X h => by
  have hb : b < ls.length := by
    rcases Nat.lt_or_ge b ls.length with q | q
    · exact q
    · simp only [locEnv] at h; rw [List.getElem?_eq_none q] at h; cases h
  simp only [locEnv] at h ⊢
  rw [List.getElem?_append_left hb]; exact h
theorem locEnv_last (ls : List Ex.Loc) (L : Ex.Loc) : locEnv (ls ++ [L]) ls.length = some L := by simp [locEnv]
structure ArgsOk (W : World) (ls : List Ex.Loc) (bs : List Blk) : Prop where
  len : ls.length = bs.length
  blk : ∀ (j : Nat) (b : Blk), bs[j]? = some b → b.ty = roTy ∧ relB (locEnv ls) b j W
  lt : ∀ (j B : Nat) (n : Nat × Nat), ls[j]? = some (Ex.Loc.at_ B n) → B < W.heap.size
theorem ArgsOk.nil (W : World) : ArgsOk W [] [] := ⟨rfl, fun j b h => by simp at h, fun j B n h => by simp at h⟩
theorem ArgsOk.good {W : World} {ls : List Ex.Loc} {bs : List Blk} (h : ArgsOk W ls bs) : Ex.Good (locEnv ls) (enumH 0 bs) W := by
  refine ⟨fun b blk hb => ?_, fun b b' B n n' h1 _ _ _ => ?_, fun b B n hb => h.lt b B n hb⟩
  · obtain ⟨_, hj⟩ := hget_enum hb
    exact (h.blk b blk (by simpa using hj)).2
  · obtain ⟨d, hd, hr⟩ := rwK_some h1
    obtain ⟨_, hj⟩ := hget_enum hd
    exact absurd (h.blk b d (by simpa using hj)).1 hr
theorem ArgsOk.none {W : World} {ls : List Ex.Loc} {bs : List Blk} (h : ArgsOk W ls bs) : ∀ b, bs.length ≤ b → locEnv ls b = none := fun b hb => by
  simp only [locEnv]
  rw [List.getElem?_eq_none (by rw [h.len]; exact hb)]
theorem ArgsOk.snoc {W : World} {ls : List Ex.Loc} {bs : List Blk} (h : ArgsOk W ls bs) {L : Ex.Loc} {b : Blk} (hb : relB (locEnv (ls ++ [L])) b ls.length W) (hr : b.ty = roTy) (hl : ∀ B n, L = Ex.Loc.at_ B n → B < W.heap.size) : ArgsOk W (ls ++ [L]) (bs ++ [b]) := by
  refine ⟨by simp [h.len], fun j d hd => ?_, fun j B n hj => ?_⟩
  · rcases Nat.lt_or_ge j bs.length with q | q
    · rw [List.getElem?_append_left q] at hd
      exact ⟨(h.blk j d hd).1, relB_mono (locEnv_le ls L) (h.blk j d hd).2⟩
    · rw [List.getElem?_append_right q] at hd
      have e : j = bs.length := by
        rcases Nat.eq_or_lt_of_le q with q' | q'
        · exact q'.symm
        · rw [List.getElem?_eq_none (by simp; omega)] at hd; cases hd
      subst e
      simp at hd
      subst hd
      exact ⟨hr, by rw [← h.len]; exact hb⟩
  · rcases Nat.lt_or_ge j ls.length with q | q
    · rw [List.getElem?_append_left q] at hj; exact h.lt j B n hj
    · rw [List.getElem?_append_right q] at hj
      have e : j - ls.length = 0 := by
        rcases Nat.eq_zero_or_pos (j - ls.length) with q' | q'
        · exact q'
        · rw [List.getElem?_eq_none (by simp; omega)] at hj; cases hj
      rw [e] at hj
      simp at hj
      exact hl B n hj

theorem rowAt_le {P : Program} {fits : TypeId → Bool} : ∀ (d : Nat) {e : TypeId} {count off n : Nat}, rowAt P fits d e count off n = true → off ≤ count * P.cellsOf e
  | 0, _, _, _, _, h => by simp [rowAt] at h
  | d + 1, e, count, off, n, h => by
    by_cases hs : P.cellsOf e = 0
    · unfold rowAt at h
      simp [hs] at h
    · unfold rowAt at h
      rw [if_neg hs] at h
      have hpos : 0 < P.cellsOf e := Nat.pos_of_ne_zero hs
      have hdm := Nat.div_add_mod off (P.cellsOf e)
      have hlt := Nat.mod_lt off hpos
      have key : off / P.cellsOf e < count ∨ (off % P.cellsOf e = 0 ∧ off / P.cellsOf e ≤ count) := by
        simp only [Bool.or_eq_true, Bool.and_eq_true, decide_eq_true_eq, beq_iff_eq] at h
        rcases h with ⟨⟨h1, h2⟩, _⟩ | ⟨h1, _⟩
        · exact .inr ⟨h1, by omega⟩
        · exact .inl h1
      rcases key with q | ⟨q1, q2⟩
      · have := Nat.mul_le_mul_left (P.cellsOf e) (show off / P.cellsOf e + 1 ≤ count from q)
        rw [Nat.mul_add, Nat.mul_one] at this
        rw [Nat.mul_comm count]
        omega
      · have := Nat.mul_le_mul_left (P.cellsOf e) q2
        rw [Nat.mul_comm count]
        omega
theorem liesAt_le {P : Program} : ∀ (d : Nat) {e u : TypeId} {count off n : Nat}, liesAt P d e count off u n = true → off ≤ count * P.cellsOf e
  | 0, _, _, _, _, _, h => by simp [liesAt] at h
  | d + 1, e, u, count, off, n, h => by
    unfold liesAt at h
    rw [Bool.or_eq_true] at h
    rcases h with h | h
    · exact rowAt_le _ h
    · split at h
      · exact liesAt_le d h
      · cases h
/-- A list of numbers that came in. -/
theorem ints_arg {H : Type} {enc : TypeId × Value → H} {W : World} {base : Nat} {t e : TypeId} {k : IntKind} {v : Value} {d : DataW H} {p : List MemPlace} (hu : Tryz.prog.underlying t = some (.slice e)) (he : Tryz.prog.underlying e = some (.int k)) (hc : Tryz.prog.cellsOf e = 1)
    (hv : Value.okWide Tryz.prog W .any base t v) (ht : DataW.Trod enc Tryz.prog W 0 (fun _ => true) true t v d p) :
    ∃ (L : Ex.Loc) (zs : List Int) (n m : Nat), (∀ x ∈ zs, has k x) ∧ n ≤ zs.length ∧ n ≤ maxLen ∧ (∀ B q, L = Ex.Loc.at_ B q → B < W.heap.size) ∧ ∀ ls : List Ex.Loc, relA (locEnv (ls ++ [L])) (.val false [.sl ls.length 0 n m]) v ∧ relB (locEnv (ls ++ [L])) (roB [.seq k zs]) ls.length W := by
  obtain ⟨fuel, hf⟩ := ht
  obtain ⟨a0, len0, cap0, rfl⟩ := Go.WideShapes.okWide_slice hu hv
  have hcells : (Value.slice a0 len0 cap0).cells = #[Value.slice a0 len0 cap0] := rfl
  rw [hcells] at hf
  rcases Go.ChangeShapes.open_ints hu he hc hf with ⟨hcs, _⟩ | ⟨a, len, cap, zs, hcs, hb, hl, hm, hz, _, hcell, hwf⟩
  · have e1 : Value.slice a0 len0 cap0 = .slice none 0 0 := by simpa using hcs
    rw [e1]
    refine ⟨.nil, [], 0, 0, by simp, by simp, Nat.zero_le _, (fun B q h => by cases h), fun ls => ⟨?_, .inr ⟨locEnv_last _ _, .inr rfl, ⟨[], [], ⟨rfl, by simp⟩, rfl, rfl⟩⟩⟩⟩
    exact rel_one' (.inr ⟨locEnv_last _ _, rfl, rfl, rfl, rfl⟩)
  · have e1 : Value.slice a0 len0 cap0 = .slice (some a) len cap := by simpa using hcs
    rw [e1] at hv ⊢
    simp only [if_true] at hz
    have hk : Cell.ok Tryz.prog W .any base t (.slice (some a) len cap) := by
      have := hv
      simp only [Value.okWide, hu, Cell.okWide] at this
      exact this
    simp only [Cell.ok, hu] at hk
    obtain ⟨_, _, _, hspot, row, cells, hsh, hlies⟩ := hk
    obtain ⟨c, fz, hblk, hsz⟩ : ∃ c fz, W.heap[a.block]? = some (.cells c row fz) ∧ cells = c.size := by
      unfold World.shape? at hsh
      split at hsh
      · rename_i c el fz hq
        injection hsh with hsh; injection hsh with h1 h2
        exact ⟨c, fz, by rw [hq, h1], h2.symm⟩
      · cases hsh
    have hoff : a.off ≤ c.size := by
      have h1 := liesAt_le _ hlies
      have h2 := Nat.div_mul_le_self cells (Tryz.prog.cellsOf row)
      omega
    have hget : ∀ i, i < zs.length → c[a.off + i]? = some (.int k (zs.getD i 0)) := by
      intro i hi
      have h1 := hcell i hi
      have e2 : a.add i = ⟨a.block, a.off + i, none⟩ := by
        unfold Addr.add
        split
        · rename_i h0; subst h0
          cases a; simp only at hspot; simp [hspot]
        · rfl
      rw [e2] at h1
      simp only [World.cell?, hblk] at h1
      simpa using h1
    have hend : a.off + zs.length ≤ c.size := by
      rcases Nat.eq_zero_or_pos zs.length with h0 | hp
      · omega
      · have := (Array.getElem?_eq_some_iff.1 (hget (zs.length - 1) (by omega))).1
        omega
    have hlist : c.toList = c.toList.take a.off ++ (zs.map (.int k) ++ c.toList.drop (a.off + zs.length)) := by
      have hmid : (c.toList.drop a.off).take zs.length = zs.map (.int k) := by
        refine List.ext_getElem? fun i => ?_
        by_cases hi : i < zs.length
        · rw [List.getElem?_take_of_lt hi, List.getElem?_drop, Array.getElem?_toList, hget i hi, List.getElem?_map, List.getElem?_eq_getElem hi, List.getD_eq_getElem?_getD, List.getElem?_eq_getElem hi]; rfl
        · rw [List.getElem?_eq_none (by simp; omega), List.getElem?_eq_none (by simp; omega)]
      rw [← hmid, ← List.drop_drop, List.take_append_drop, List.take_append_drop]
    have ea : a = ⟨a.block, a.off, none⟩ := by cases a; simp only at hspot; simp [hspot]
    have hhas : ∀ x ∈ zs, has k x := fun x hx => wf_has (hwf x hx)
    refine ⟨.at_ a.block (c.size, a.off), zs, len, cap, hhas, by omega, Nat.le_trans hl hm, fun B q h => ?_, fun ls => ⟨?_, .inl ⟨a.block, (c.size, a.off), zs.map (.int k), c.toList.drop (a.off + zs.length), c.toList.take a.off, row, fz, locEnv_last _ _, ⟨_, [], ⟨rfl, hhas⟩, rfl, by simp⟩, ?_, ?_, fun hr => absurd rfl hr⟩⟩⟩
    · injection h with h1 h2
      rw [← h1]
      exact (Array.getElem?_eq_some_iff.1 hblk).1
    · refine rel_one' (.inl ⟨a.block, (c.size, a.off), locEnv_last _ _, ?_⟩)
      rw [Nat.add_zero, ← ea]
    · rw [← hlist]; exact hblk
    · simp; omega
/-- A contract over what came in, as a walk. -/
theorem walk_can {f : FuncId} {fn : Func} (h : ∀ (H : Type) (enc : TypeId × Value → H) (us : List Value) (W : World) (base : Nat) (ds : List (DataW H)) (ps : List MemPlace), (∀ (j : Nat) t v, fn.params[j]? = some t → us[j]? = some v → Value.okWide Tryz.prog W .any base t v) →
    DataW.TrodAll enc Tryz.prog W 0 (fun _ => true) true fn.params.toList us ds ps → ∃ ls bs args, ArgsOk W ls bs ∧ relAs (locEnv ls) args us ∧ CanOk Tryz.prog f args (enumH 0 bs) bs.length [] (boolA true) []) : LawWalk Tryz.prog f fn := by
  intro H enc us W base ds ps hv hA _ _
  obtain ⟨ls, bs, args, ho, ha, hc⟩ := h H enc us W base ds ps hv hA
  refine (hc (locEnv ls) us W ha ho.good ho.none).mono ?_
  rintro e w' ⟨u, β, rfl, out⟩
  obtain ⟨l1, l2, ⟨h1, _⟩, h3, h4⟩ := out.val
  simp only [relL] at h3
  subst h1; subst h3
  injection h4 with h4 _
  refine ⟨by rw [h4], ⟨out.os, out.tape, out.output, out.size, fun k hk => out.frame k hk (fun _ _ h => by cases h)⟩⟩
theorem can_bool {f : FuncId} {args : List AV} {H : Heap} {k0 : Nat} {b : Bool} (h : CanOk Tryz.prog f args H k0 [] (boolA b) []) (e : b = true) : CanOk Tryz.prog f args H k0 [] (boolA true) [] := by rw [← e]; exact h
end Go.Proofs.YtfmajnlfpnjagaaGreat
/- Slices of either kind (cut out of a block, or grown) as arguments. -/
namespace Go.Proofs.YtfmajnlfpnjagaaGreat
open Ex Num
set_option maxRecDepth 100000
set_option maxHeartbeats 4000000

def asSl : AV → Option (Nat × Nat × Nat)
  | .val false [.sl k off n _] => some (k, off, n)
  | .val false [.sx k n _] => some (k, 0, n)
  | _ => none
theorem asSl_rel {β : Env} {A : AV} {k off n : Nat} {u : Value} (h : asSl A = some (k, off, n)) (hr : relA β A u) : ∃ m, relA β (slA k off n m) u := by
  unfold asSl at h
  split at h
  · rename_i k' off' n' m
    injection h with h; injection h with h1 h; injection h with h2 h3
    subst h1; subst h2; subst h3
    exact ⟨m, hr⟩
  · rename_i k' n' sz
    injection h with h; injection h with h1 h; injection h with h2 h3
    subst h1; subst h2; subst h3
    obtain ⟨l1, l2, h1, h2, h3⟩ := hr
    rcases h1 with ⟨B, q, cap, q1, q2, q3, q4⟩ | ⟨q1, q2, q3⟩
    · exact ⟨cap, l1, l2, .inl ⟨B, (q, 0), q1, by rw [q2]⟩, h2, h3⟩
    · exact ⟨0, l1, l2, .inr ⟨q1, rfl, q2, rfl, q3⟩, h2, h3⟩
  · cases h
theorem can_spec2 {f : FuncId} {fn : Func} (hfn : Tryz.prog.funcs[f]? = some fn) (hbd : fn.body.isSome = true) (hname : (fn.name == "runtime.NumGoroutine") = false) {s : ASpec}
    (h : ∀ args H fr path r, s args H fr path = some r → ∃ (ρ : List Nat) (k0 nw : Nat) (W : List Nat) (val : AV) (H1 : Heap) (conds : List (Bool × Bool)) (path' : List Bool),
      r = trR ρ k0 fr nw W val H1 conds path' ∧ (∀ β us w, relAs β args us → Ex.Good β H w → okConds conds → ∃ args0 H0, CanOk Tryz.prog f args0 H0 k0 W val H1 ∧ canB k0 nw W val H1 = true ∧ relAs (inEnv β ρ k0) args0 us ∧ Ex.Good (inEnv β ρ k0) H0 w ∧ (∀ k, k < k0 → ∃ X, β (nth ρ k) = some X))) : SpecOk Tryz.prog f s := by
  intro args H fr path r β us w hs hc ha hg hf
  obtain ⟨ρ, k0, nw, W, val, H1, conds, path', rfl, hh⟩ := h args H fr path r hs
  obtain ⟨args0, H0, hcan, hb, ha0, hg0, hdef⟩ := hh β us w ha hg hc
  refine callX_of_calls hfn hbd hname (Calls.mono (hcan (inEnv β ρ k0) us w ha0 hg0 fun b hb => ?_) ?_)
  · have : Nat.blt b k0 = false := by cases h : Nat.blt b k0 with | false => rfl | true => have := nblt.1 h; omega
    simp [inEnv, this]
  · rintro e w' ⟨u, β1, rfl, ho⟩
    obtain ⟨β', he⟩ := tr_eff (conds := conds) (path := path') hg ho hb hf hdef
    exact ⟨u, β', rfl, he⟩
/-- A slice that is handed over, as key j's. -/
theorem sl_in {β : Env} {k j off n m : Nat} {ρ : List Nat} {k0 : Nat} {u : Value} (hj : j < k0) (hn : nth ρ j = k) (h : relA β (slA k off n m) u) : relA (inEnv β ρ k0) (slA j off n m) u := by
  obtain ⟨l1, l2, h1, h2, h3⟩ := h
  refine ⟨l1, l2, ?_, h2, h3⟩
  have e : inEnv β ρ k0 j = β k := by rw [inEnv_at hj, hn]
  rcases h1 with ⟨B, q, q1, q2⟩ | ⟨q1, q2⟩
  · exact .inl ⟨B, q, by rw [e]; exact q1, q2⟩
  · exact .inr ⟨by rw [e]; exact q1, q2⟩
/-- Contracts of functions that read one list of bytes. -/
def bySp (g : Nat → List Int → AV) : ASpec := fun args H fr path =>
  match args with
  | [S] => match asSl S with
    | some (k, off, n) => match hget H k with
      | some ⟨_, cs, _⟩ => match toSeq .u8 cs with
        | some xs => some (trR [k] 1 fr 0 [] (g n (win xs off n)) [] [(Nat.ble (off + n) xs.length, true), (hasB .i64 n, true)] path)
        | none => none
      | _ => none
    | none => none
  | _ => none
theorem bySp_ok {f : FuncId} {fn : Func} {g : Nat → List Int → AV} (hfn : Tryz.prog.funcs[f]? = some fn) (hb : fn.body.isSome = true) (hname : (fn.name == "runtime.NumGoroutine") = false) (hk : ∀ n l, canB 1 0 [] (g n l) [] = true)
    (h : ∀ (off n m : Nat) (xs : List Int), (∀ d ∈ xs, 0 ≤ d ∧ d < 256) → off + n ≤ xs.length → hasB .i64 n = true → CanOk Tryz.prog f [slA 0 off n m] (byH xs) 1 [] (g n (win xs off n)) []) : SpecOk Tryz.prog f (bySp g) := by
  refine can_spec2 hfn hb hname fun args H fr path r hs => ?_
  unfold bySp at hs
  split at hs
  case h_2 => cases hs
  rename_i S
  split at hs
  case h_2 => cases hs
  rename_i k off n hS
  split at hs
  case h_2 => cases hs
  rename_i ty cs o hk'
  split at hs
  case h_2 => cases hs
  rename_i xs hxs
  injection hs with hs
  refine ⟨[k], 1, 0, [], _, _, _, path, hs.symm, fun β us w ha hg hc => ?_⟩
  obtain ⟨u1, us1, r1, ha, rfl⟩ := ha
  obtain ⟨m, r1⟩ := asSl_rel hS r1
  obtain ⟨g1, g2, g3⟩ := good_by hg hk' hxs
  exact ⟨[slA 0 off n m], byH xs, h off n m xs g1 (Nat.le_of_ble_eq_true hc.1) hc.2.1, hk _ _, ⟨u1, _, sl_in (by omega) rfl r1, ha, rfl⟩, g2, g3⟩
/-- Contracts of functions that read one list of words. -/
def wdSp (g : Nat → List Int → AV) : ASpec := fun args H fr path =>
  match args with
  | [S] => match asSl S with
    | some (k, off, n) => match hget H k with
      | some ⟨_, cs, _⟩ => match toSeq .u64 cs with
        | some xs => some (trR [k] 1 fr 0 [] (g n (win xs off n)) [] [(Nat.ble (off + n) xs.length, true), (Nat.ble n 1125899906842624, true)] path)
        | none => none
      | _ => none
    | none => none
  | _ => none
theorem wdSp_ok {f : FuncId} {fn : Func} {g : Nat → List Int → AV} (hfn : Tryz.prog.funcs[f]? = some fn) (hb : fn.body.isSome = true) (hname : (fn.name == "runtime.NumGoroutine") = false) (hk : ∀ n l, canB 1 0 [] (g n l) [] = true)
    (h : ∀ (off n m : Nat) (xs : List Int), (∀ d ∈ xs, 0 ≤ d ∧ d < 18446744073709551616) → off + n ≤ xs.length → n ≤ 1125899906842624 → CanOk Tryz.prog f [slA 0 off n m] (seqH xs) 1 [] (g n (win xs off n)) []) : SpecOk Tryz.prog f (wdSp g) := by
  refine can_spec2 hfn hb hname fun args H fr path r hs => ?_
  unfold wdSp at hs
  split at hs
  case h_2 => cases hs
  rename_i S
  split at hs
  case h_2 => cases hs
  rename_i k off n hS
  split at hs
  case h_2 => cases hs
  rename_i ty cs o hk'
  split at hs
  case h_2 => cases hs
  rename_i xs hxs
  injection hs with hs
  refine ⟨[k], 1, 0, [], _, _, _, path, hs.symm, fun β us w ha hg hc => ?_⟩
  obtain ⟨u1, us1, r1, ha, rfl⟩ := ha
  obtain ⟨m, r1⟩ := asSl_rel hS r1
  obtain ⟨g1, g2, g3⟩ := good_seq hg hk' hxs
  exact ⟨[slA 0 off n m], seqH xs, h off n m xs g1 (Nat.le_of_ble_eq_true hc.1) (Nat.le_of_ble_eq_true hc.2.1), hk _ _, ⟨u1, _, sl_in (by omega) rfl r1, ha, rfl⟩, g2, g3⟩
noncomputable def powSp : ASpec := fun args H fr path =>
  match args with
  | [.val true a, S] => match asSl S with
    | some (k, off, n) => match asNum 6 a, hget H k with
      | some x, some ⟨_, cs, _⟩ => match toSeq .u64 cs with
        | some xs => some (trR [k] 1 fr 0 [] (num6 (powN x (natL (win xs off n)))) [] [(Nat.ble (off + n) xs.length, true), (Nat.ble n 1125899906842624, true)] path)
        | none => none
      | _, _ => none
    | none => none
  | _ => none
theorem powSp_ok {f : FuncId} {fn : Func} (hfn : Tryz.prog.funcs[f]? = some fn) (hb : fn.body.isSome = true) (hname : (fn.name == "runtime.NumGoroutine") = false)
    (h : ∀ (off n m : Nat) (xs : List Int) (x : Nat), (∀ d ∈ xs, 0 ≤ d ∧ d < 18446744073709551616) → off + n ≤ xs.length → n ≤ 1125899906842624 → CanOk Tryz.prog f (powA x off n m) (seqH xs) 1 [] (num6 (powN x (natL (win xs off n)))) []) : SpecOk Tryz.prog f powSp := by
  refine can_spec2 hfn hb hname fun args H fr path r hs => ?_
  unfold powSp at hs
  split at hs
  case h_2 => cases hs
  rename_i a S
  split at hs
  case h_2 => cases hs
  rename_i k off n hS
  split at hs
  case h_2 => cases hs
  rename_i x ty cs o hx hk'
  split at hs
  case h_2 => cases hs
  rename_i xs hxs
  injection hs with hs
  refine ⟨[k], 1, 0, [], _, _, _, path, hs.symm, fun β us w ha hg hc => ?_⟩
  obtain ⟨u1, us1, r1, ⟨u2, us2, r2, ha, rfl⟩, rfl⟩ := ha
  obtain ⟨m, r2⟩ := asSl_rel hS r2
  obtain ⟨g1, g2, g3⟩ := good_seq hg hk' hxs
  refine ⟨powA x off n m, seqH xs, h off n m xs x g1 (Nat.le_of_ble_eq_true hc.1) (Nat.le_of_ble_eq_true hc.2.1), by kernel_rfl, ⟨u1, _, ?_, ⟨u2, us2, sl_in (by omega) rfl r2, ha, rfl⟩, rfl⟩, g2, g3⟩
  obtain ⟨l, q, rfl⟩ := r1; exact ⟨l, num_any hx q, rfl⟩
noncomputable def SB : List (FuncId × ASpec) := (209, nilSpec (bySp fun n l => fbA n (natB l))) :: (144, nilSpec (bySp fun n l => fbA n (natB l))) :: (217, nilSpec powSp) :: (204, nilSpec powSp) :: (256, nilSpec (wdSp fun _ l => num6 (natL l % pN))) :: SZ
theorem SBok : SpecsOk Tryz.prog SB := ⟨nilSpec_ok (bySp_ok Tryz.func209 (by kernel_rfl) (by kernel_rfl) (fun _ _ => rfl) (fun _ _ _ _ hx hl hn => rfb_can hx hl hn)), nilSpec_ok (bySp_ok Tryz.func144 (by kernel_rfl) (by kernel_rfl) (fun _ _ => rfl) (fun _ _ _ _ _ hl hn => fb_can hl hn)), nilSpec_ok (powSp_ok Tryz.func217 (by kernel_rfl) (by kernel_rfl) fun _ _ _ _ x hx hl hn => pow_can hx hl hn x), nilSpec_ok (powSp_ok Tryz.func204 (by kernel_rfl) (by kernel_rfl) fun _ _ _ _ x hx hl hn => rpow_can hx hl hn x), nilSpec_ok (wdSp_ok Tryz.func256 (by kernel_rfl) (by kernel_rfl) (fun _ _ => rfl) (fun _ _ _ _ hx hl hn => wide_can hx hl hn)), SZok⟩
def KB : List (TypeId × List (Option IntKind)) := (164, List.replicate 48 (some .u8)) :: K0
theorem KBok : KindsOk Tryz.prog KB := ⟨⟨by kernel_rfl, by kernel_rfl, by kernel_rfl⟩, K0ok⟩
end Go.Proofs.YtfmajnlfpnjagaaGreat
/- Runs as contracts; arguments of a law, one by one. -/
namespace Go.Proofs.YtfmajnlfpnjagaaGreat
open Ex Num
set_option maxRecDepth 100000
set_option maxHeartbeats 4000000

/-- So many conditions that hold of themselves, ahead of others. -/
def tt : Nat → List (Bool × Bool) → List (Bool × Bool)
  | 0, r => r
  | n + 1, r => (true, true) :: tt n r
theorem tt_ok : ∀ (n : Nat) {r : List (Bool × Bool)}, okConds r → okConds (tt n r)
  | 0, _, h => h
  | n + 1, _, h => ⟨rfl, tt_ok n h⟩
theorem can_run {S : List (FuncId × ASpec)} {K : List (TypeId × List (Option IntKind))} (hS : SpecsOk Tryz.prog S) (hK : KindsOk Tryz.prog K) {f : FuncId} {fn : Func} (hfn : Tryz.prog.funcs[f]? = some fn) (hb : fn.body.isSome = true) {args : List AV} {H H1 : Heap} {fuel k0 : Nat} {ks : List Nat} {path : List Bool} {conds : List (Bool × Bool)} {v : AV}
    (hlen : Nat.ble (alen args) fn.ntmps = true) (h : segOut Tryz.prog (orc S K) fn fuel k0 ks (entry fn args H k0 path) = some (conds, [], v, H1)) (hw : wfB fn.ntmps (entry fn args H k0 path).s = true) (hc : okConds conds) : CanOk Tryz.prog f args H k0 [] v H1 :=
  can_entry (path := path) hfn hb hlen fun _ _ h0 => out_safe (orc_ok hS hK) mixed hfn h hc (wfB_ok hw) h0 (fun _ h => by cases h)

section
variable {H : Type} {enc : TypeId × Value → H} {W : World} {base : Nat} {v : Value} {d : DataW H} {p : List MemPlace}
theorem shp_u64 : shp Tryz.prog 20 33 = some [some .u64] := by kernel_rfl
theorem agg_u64 : isAggT Tryz.prog 33 = false := by kernel_rfl
theorem u64_arg (hv : Value.okWide Tryz.prog W .any base 33 v) (ht : DataW.Trod enc Tryz.prog W 0 (fun _ => true) true 33 v d p) : ∃ e : Nat, e < 18446744073709551616 ∧ ∀ β : Env, relA β (.val false [.v (.int .u64 (e : Int))]) v := by
  have h := plain_of shp_u64 agg_u64 hv ht
  change fitsH [some .u64] [v] at h
  cases v <;> simp only [fitsH] at h
  rename_i k i
  obtain ⟨rfl, hi, _⟩ := h
  have hb := u64_bounds hi
  obtain ⟨e, rfl⟩ := Int.eq_ofNat_of_zero_le hb.1
  exact ⟨e, by omega, fun β => rel_one' ⟨rfl, rfl, hi⟩⟩
theorem fp_arg (hv : Value.okWide Tryz.prog W .any base 40 v) (ht : DataW.Trod enc Tryz.prog W 0 (fun _ => true) true 40 v d p) : ∃ x, x < RR ∧ ∀ β : Env, relA β (num6 x) v := by
  obtain ⟨x, hx, hr⟩ := fp_num (plain_of shp_fp agg_fp hv ht)
  exact ⟨x, hx, fun β => relA_any rfl hr⟩
theorem under_bytes : Tryz.prog.underlying 23 = some (.slice 5) := by kernel_rfl
theorem under_u8 : Tryz.prog.underlying 5 = some (.int .u8) := by kernel_rfl
theorem cells_u8 : Tryz.prog.cellsOf 5 = 1 := by kernel_rfl
theorem under_words : Tryz.prog.underlying 69 = some (.slice 33) := by kernel_rfl
theorem under_u64 : Tryz.prog.underlying 33 = some (.int .u64) := by kernel_rfl
theorem cells_u64 : Tryz.prog.cellsOf 33 = 1 := by kernel_rfl
theorem len_has {n : Nat} (h : n ≤ maxLen) : hasB .i64 (n : Int) = true := by
  unfold maxLen at h
  simp only [hasB, Bool.and_eq_true, decide_eq_true_eq]; omega
/-- A list of bytes that came in: told behind the blocks that came before. -/
theorem bytes_arg (hv : Value.okWide Tryz.prog W .any base 23 v) (ht : DataW.Trod enc Tryz.prog W 0 (fun _ => true) true 23 v d p) {ls : List Ex.Loc} {bs : List Blk} (ho : ArgsOk W ls bs) :
    ∃ (L : Ex.Loc) (zs : List Int) (n m : Nat), (∀ x ∈ zs, 0 ≤ x ∧ x < 256) ∧ n ≤ zs.length ∧ hasB .i64 (n : Int) = true ∧ relA (locEnv (ls ++ [L])) (slA ls.length 0 n m) v ∧ ArgsOk W (ls ++ [L]) (bs ++ [roB [.seq .u8 zs]]) := by
  obtain ⟨L, zs, n, m, h1, h2, h3, h4, h5⟩ := ints_arg under_bytes under_u8 cells_u8 hv ht
  exact ⟨L, zs, n, m, fun x hx => u8_bounds (h1 x hx), h2, len_has h3, (h5 ls).1, ho.snoc (h5 ls).2 rfl h4⟩
theorem words_arg (hv : Value.okWide Tryz.prog W .any base 69 v) (ht : DataW.Trod enc Tryz.prog W 0 (fun _ => true) true 69 v d p) {ls : List Ex.Loc} {bs : List Blk} (ho : ArgsOk W ls bs) :
    ∃ (L : Ex.Loc) (zs : List Int) (n m : Nat), (∀ x ∈ zs, 0 ≤ x ∧ x < 18446744073709551616) ∧ n ≤ zs.length ∧ hasB .i64 (n : Int) = true ∧ relA (locEnv (ls ++ [L])) (slA ls.length 0 n m) v ∧ ArgsOk W (ls ++ [L]) (bs ++ [roB [.seq .u64 zs]]) := by
  obtain ⟨L, zs, n, m, h1, h2, h3, h4, h5⟩ := ints_arg under_words under_u64 cells_u64 hv ht
  exact ⟨L, zs, n, m, fun x hx => u64_bounds (h1 x hx), h2, len_has h3, (h5 ls).1, ho.snoc (h5 ls).2 rfl h4⟩
end
end Go.Proofs.YtfmajnlfpnjagaaGreat
/- sigilref05: the contracts. -/
namespace Go.Proofs.YtfmajnlfpnjagaaGreat
open Ex Num
set_option maxRecDepth 100000
set_option maxHeartbeats 4000000

def qtH : Heap := [(0, some ⟨33, QC, false⟩)]
theorem rqt_run : segOut Tryz.prog (orc S0 K0) Tryz.f281 100 0 [0] (entry Tryz.f281 [] [] 0 []) = some ([], [], slA 0 0 6 6, qtH) := by kernel_rfl
def qtSp : ASpec := fun args _ fr path =>
  match args with
  | [] => some (trR [] 0 fr 1 [] (slA 0 0 6 6) qtH [] path)
  | _ => none
theorem qtSp_ok : SpecOk Tryz.prog 281 qtSp := by
  refine can_spec Tryz.func281 (by kernel_rfl) (by kernel_rfl) fun args H fr path r hs => ?_
  unfold qtSp at hs
  split at hs
  case h_2 => cases hs
  injection hs with hs
  refine ⟨[], [], [], 0, 1, [], _, _, _, path, hs.symm, fun β us w ha hg hc => ?_⟩
  refine ⟨can_run S0ok K0ok Tryz.func281 (by kernel_rfl) (by kernel_rfl) rqt_run (by kernel_rfl) trivial, by kernel_rfl, ha, ⟨fun b blk h => (by cases h), fun b b' B n n' h => (by cases h), fun b B n h => ?_⟩, fun k h => absurd h (Nat.not_lt_zero k)⟩
  unfold inEnv at h
  split at h
  · exact hg.lt _ _ _ h
  · cases h
noncomputable def SC : List (FuncId × ASpec) := (281, qtSp) :: SB
theorem SCok : SpecsOk Tryz.prog SC := ⟨qtSp_ok, SBok⟩
def QL : List Int := [0xee7fbfffffffeaab, 0x7aaffffac54ffff, 0xd9cc34a83dac3d89, 0xd91dd2e13ce144af, 0x92c6e9ed90d2eb35, 0x680447a8e5ff9a6]
theorem natL_QL : natL (win QL 0 6) = QN := by kernel_rfl
noncomputable def rtX (a : Nat) : Nat := powN a (natL (win QL 0 6))
theorem root_run (a : Nat) : pureRun Tryz.prog (orc SC K0) Tryz.f242 [num6 a] [] 300 = some (tt 2 [], .tup [(true, [.num 6 (rtX a)]), (false, [.v (.bool (decide (mulN (rtX a) (rtX a) = a % pN)))])]) := by kernel_rfl
noncomputable def rootA (a : Nat) : AV := .tup [(true, [.num 6 (powN a QN)]), (false, [.v (.bool (isSqN a))])]
theorem root_ok (a : Nat) : PureOk Tryz.prog 242 [num6 a] (rootA a) := by
  have h := pure_ok (orc_ok SCok K0ok) mixed Tryz.func242 (root_run a) (tt_ok 2 trivial) rfl
  have e : rtX a = powN a QN := by unfold rtX; rw [natL_QL]
  rw [e] at h
  exact h
theorem rsign_run (a : Nat) : pureRun Tryz.prog (orc SC K0) Tryz.f243 [num6 a] [] 300 = some ([(decide (0 ≤ wordN (a % pN) 0 ∧ (0 : Int) < 2), true)], intA (wI (Int.tmod (wordN (a % pN) 0) 2))) := by kernel_rfl
theorem rsign_ok (a : Nat) : PureOk Tryz.prog 243 [num6 a] (intA (signN a)) := by
  have hb := word_bd (a % pN) 0
  have h := pure_ok (orc_ok SCok K0ok) mixed Tryz.func243 (rsign_run a) ⟨by simp [hb.1], trivial⟩ rfl
  have e : wI (Int.tmod (wordN (a % pN) 0) 2) = signN a := by
    rw [word0_mod2, Int.tmod_eq_emod_of_nonneg (by omega), wI_eq (by omega)]
    unfold signN; omega
  rw [e] at h
  exact h
theorem rbigger_run (a : Nat) : pureRun Tryz.prog (orc SC K0) Tryz.f127 [num6 a] [] 300 = some (tt 4 [], boolA (decide (0 < cmpI (natL (win (ws6 (a % pN)) (0 + 0 * 1) (6 - 0))) (natL (win (ws6 (negN a)) (0 + 0 * 1) (6 - 0)))))) := by kernel_rfl
theorem rbigger_ok (x : Nat) : PureOk Tryz.prog 127 [num6 x] (boolA (biggerN x)) := by
  have h := pure_ok (orc_ok SCok K0ok) mixed Tryz.func127 (rbigger_run x) (tt_ok 4 trivial) rfl
  rw [natL_num6 (lt_RR_mod x), natL_num6 (Nat.lt_trans (negN_lt x) (by decide))] at h
  have e : decide (0 < cmpI (x % pN) (negN x)) = biggerN x := by
    unfold cmpI biggerN
    by_cases h1 : x % pN < negN x
    · rw [if_pos h1, decide_eq_false (by omega), decide_eq_false (by omega)]
    · by_cases h2 : negN x < x % pN
      · rw [if_neg h1, if_pos h2, decide_eq_true h2]; rfl
      · rw [if_neg h1, if_neg h2, decide_eq_false h2]; rfl
  rw [e] at h
  exact h
noncomputable def SD : List (FuncId × ASpec) := (242, pureSpec (sp1 rootA)) :: (243, pureSpec (sp1 fun x => intA (signN x))) :: (127, pureSpec (sp1 fun x => boolA (biggerN x))) :: SC
theorem SDok : SpecsOk Tryz.prog SD := ⟨pureSpec_ok Tryz.func242 (by kernel_rfl) (by kernel_rfl) (sp1_ok fun x _ => root_ok x), pureSpec_ok Tryz.func243 (by kernel_rfl) (by kernel_rfl) (sp1_ok fun x _ => rsign_ok x), pureSpec_ok Tryz.func127 (by kernel_rfl) (by kernel_rfl) (sp1_ok fun x _ => rbigger_ok x), SCok⟩
theorem rsqrt_no (a : Nat) : pureRun Tryz.prog (orc SD K0) Tryz.f172 [num6 a] [true] 300 = some ([(!isSqN a, true)], .tup [(true, zero6), (false, [.b false])]) := by kernel_rfl
theorem rsqrt_neg (a : Nat) : pureRun Tryz.prog (orc SD K0) Tryz.f172 [num6 a] [false, true] 300 = some ([(!isSqN a, false), (decide (signN (powN a QN) = 1), true)], .tup [(true, [.num 6 (negN (powN a QN))]), (false, [.b true])]) := by kernel_rfl
theorem rsqrt_pos (a : Nat) : pureRun Tryz.prog (orc SD K0) Tryz.f172 [num6 a] [false, false] 300 = some ([(!isSqN a, false), (decide (signN (powN a QN) = 1), false)], .tup [(true, [.num 6 (powN a QN)]), (false, [.b true])]) := by kernel_rfl
theorem rsqrt_ok (a : Nat) : PureOk Tryz.prog 172 [num6 a] (sqrtA a) := by
  by_cases h : isSqN a = true
  · have e : rootN a = evenN (powN a QN) := by unfold rootN; rw [if_pos h]
    unfold sqrtA
    rw [e]
    by_cases hs : signN (powN a QN) = 1
    · have e2 : evenN (powN a QN) = negN (powN a QN) := if_pos hs
      rw [e2]
      exact pure_val (pure_ok (orc_ok SDok K0ok) mixed Tryz.func172 (rsqrt_neg a) ⟨by rw [h]; rfl, decide_eq_true hs, trivial⟩ rfl) fun u hu => relT2 (fun _ q => q) (fun _ q => bv_one h.symm q) hu
    · have e2 : evenN (powN a QN) = powN a QN := if_neg hs
      rw [e2]
      exact pure_val (pure_ok (orc_ok SDok K0ok) mixed Tryz.func172 (rsqrt_pos a) ⟨by rw [h]; rfl, decide_eq_false hs, trivial⟩ rfl) fun u hu => relT2 (fun _ q => q) (fun _ q => bv_one h.symm q) hu
  · have h0 : isSqN a = false := by simpa using h
    have e : rootN a = 0 := by unfold rootN; rw [if_neg h]
    unfold sqrtA
    rw [e]
    exact pure_val (pure_ok (orc_ok SDok K0ok) mixed Tryz.func172 (rsqrt_no a) ⟨by rw [h0]; rfl, trivial⟩ rfl) fun u hu => relT2 (fun _ q => zero_num q) (fun _ q => bv_one h0.symm q) hu
noncomputable def SE : List (FuncId × ASpec) := (172, pureSpec (sp1 sqrtA)) :: SD
theorem SEok : SpecsOk Tryz.prog SE := ⟨pureSpec_ok Tryz.func172 (by kernel_rfl) (by kernel_rfl) (sp1_ok fun x _ => rsqrt_ok x), SDok⟩
end Go.Proofs.YtfmajnlfpnjagaaGreat
/- Commutative rings, and their identities by polynomials, for the kernel. -/
namespace Go.Proofs.YtfmajnlfpnjagaaGreat.Rg

/-- A commutative ring. -/
class CR (F : Type) extends Add F, Mul F, Neg F, Sub F, Zero F, One F where
  add_assoc : ∀ a b c : F, (a + b) + c = a + (b + c)
  add_comm : ∀ a b : F, a + b = b + a
  zero_add : ∀ a : F, 0 + a = a
  neg_add : ∀ a : F, -a + a = 0
  mul_assoc : ∀ a b c : F, (a * b) * c = a * (b * c)
  mul_comm : ∀ a b : F, a * b = b * a
  one_mul : ∀ a : F, 1 * a = a
  add_mul : ∀ a b c : F, (a + b) * c = a * c + b * c
  sub_eq : ∀ a b : F, a - b = a + -b

section
variable {F : Type} [CR F]
theorem add_assoc (a b c : F) : (a + b) + c = a + (b + c) := CR.add_assoc a b c
theorem add_comm (a b : F) : a + b = b + a := CR.add_comm a b
theorem mul_assoc (a b c : F) : (a * b) * c = a * (b * c) := CR.mul_assoc a b c
theorem mul_comm (a b : F) : a * b = b * a := CR.mul_comm a b
theorem zero_add (a : F) : 0 + a = a := CR.zero_add a
theorem add_zero (a : F) : a + 0 = a := by rw [add_comm, zero_add]
theorem neg_add (a : F) : -a + a = 0 := CR.neg_add a
theorem add_neg (a : F) : a + -a = 0 := by rw [add_comm, neg_add]
theorem one_mul (a : F) : 1 * a = a := CR.one_mul a
theorem mul_one (a : F) : a * 1 = a := by rw [mul_comm, one_mul]
theorem add_mul (a b c : F) : (a + b) * c = a * c + b * c := CR.add_mul a b c
theorem mul_add (a b c : F) : a * (b + c) = a * b + a * c := by rw [mul_comm, add_mul, mul_comm b, mul_comm c]
theorem sub_eq (a b : F) : a - b = a + -b := CR.sub_eq a b
theorem add_left_cancel {a b c : F} (h : a + b = a + c) : b = c := by
  have := congrArg (fun z => -a + z) h
  simpa [← add_assoc, neg_add, zero_add] using this
theorem zero_mul (a : F) : 0 * a = 0 := by
  have h : 0 * a + 0 * a = 0 * a + 0 := by rw [← add_mul, zero_add, add_zero]
  exact add_left_cancel h
theorem mul_zero (a : F) : a * 0 = 0 := by rw [mul_comm, zero_mul]
theorem neg_unique {a b : F} (h : a + b = 0) : b = -a := add_left_cancel (a := a) (by rw [h, add_neg])
theorem neg_mul (a b : F) : -a * b = -(a * b) := neg_unique (by rw [← add_mul, add_neg, zero_mul])
theorem neg_neg (a : F) : -(-a) = a := (neg_unique (neg_add a)).symm
theorem neg_zero : -(0 : F) = 0 := (neg_unique (zero_add 0)).symm
theorem neg_add_rev (a b : F) : -(a + b) = -a + -b := (neg_unique (by
  rw [add_comm a b, add_assoc, ← add_assoc a, add_neg, zero_add, add_neg])).symm
theorem sub_self (a : F) : a - a = 0 := by rw [sub_eq, add_neg]
theorem sub_zero_iff {a b : F} : a - b = 0 ↔ a = b := by
  constructor
  · intro h
    rw [sub_eq] at h
    have := neg_unique ((add_comm _ _).trans h)
    rw [this, neg_neg]
  · rintro rfl; exact sub_self a
theorem add_left_comm (a b c : F) : a + (b + c) = b + (a + c) := by rw [← add_assoc, add_comm a b, add_assoc]
theorem mul_left_comm (a b c : F) : a * (b * c) = b * (a * c) := by rw [← mul_assoc, mul_comm a b, mul_assoc]

/- whole numbers in a ring -/
def nat : Nat → F
  | 0 => 0
  | n + 1 => nat n + 1
theorem nat_add (a b : Nat) : (nat (a + b) : F) = nat a + nat b := by
  induction b with
  | zero => simp [nat, add_zero]
  | succ b ih => rw [← Nat.add_assoc]; simp only [nat]; rw [ih, add_assoc]
theorem nat_mul (a b : Nat) : (nat (a * b) : F) = nat a * nat b := by
  induction b with
  | zero => simp [nat, mul_zero]
  | succ b ih => rw [Nat.mul_succ, nat_add, ih]; simp only [nat]; rw [mul_add, mul_one]
def int : Int → F
  | .ofNat n => nat n
  | .negSucc n => -(nat (n + 1))
theorem int_sub_nat (a b : Nat) : (int ((a : Int) - b) : F) = nat a + -nat b := by
  rcases Nat.le_total b a with h | h
  · obtain ⟨c, rfl⟩ := Nat.exists_eq_add_of_le h
    rw [show ((b + c : Nat) : Int) - b = (c : Int) by omega, nat_add, add_comm (nat b) (nat c), add_assoc, add_neg, add_zero]; rfl
  · obtain ⟨c, rfl⟩ := Nat.exists_eq_add_of_le h
    cases c with
    | zero => rw [Nat.add_zero, add_neg, show (a : Int) - (a : Nat) = 0 by omega]; rfl
    | succ c =>
      rw [show (a : Int) - ((a + (c + 1) : Nat) : Int) = Int.negSucc c by omega, nat_add, neg_add_rev, ← add_assoc, add_neg, zero_add]; rfl
theorem int_cases (i : Int) : ∃ a b : Nat, i = (a : Int) - b := by
  cases i with
  | ofNat n => exact ⟨n, 0, by simp⟩
  | negSucc n => exact ⟨0, n + 1, by omega⟩
theorem int_add (i j : Int) : (int (i + j) : F) = int i + int j := by
  obtain ⟨a, b, rfl⟩ := int_cases i
  obtain ⟨c, d, rfl⟩ := int_cases j
  rw [show (a : Int) - b + (c - d) = ((a + c : Nat) : Int) - (b + d : Nat) by omega, int_sub_nat, int_sub_nat, int_sub_nat, nat_add, nat_add, neg_add_rev]
  rw [add_assoc, add_assoc]; congr 1
  rw [← add_assoc, ← add_assoc]; congr 1
  exact add_comm _ _
theorem mul_neg (a b : F) : a * -b = -(a * b) := by rw [mul_comm, neg_mul, mul_comm]
theorem int_mul (i j : Int) : (int (i * j) : F) = int i * int j := by
  obtain ⟨a, b, rfl⟩ := int_cases i
  obtain ⟨c, d, rfl⟩ := int_cases j
  rw [show ((a : Int) - b) * (c - d) = ((a * c + b * d : Nat) : Int) - (a * d + b * c : Nat) by
    rw [Int.natCast_add, Int.natCast_add, Int.natCast_mul, Int.natCast_mul, Int.natCast_mul, Int.natCast_mul, Int.sub_mul, Int.mul_sub, Int.mul_sub]; omega]
  rw [int_sub_nat, int_sub_nat, int_sub_nat, nat_add, nat_add, nat_mul, nat_mul, nat_mul, nat_mul]
  rw [add_mul, mul_add, mul_add, neg_mul, mul_neg, neg_mul, mul_neg, neg_neg, neg_add_rev]
  rw [add_assoc, add_assoc]; congr 1
  rw [add_comm (nat b * nat d), add_assoc]
theorem int_neg (i : Int) : (int (-i) : F) = -int i := by
  refine neg_unique ?_
  rw [← int_add, Int.add_right_neg]; rfl
theorem int_zero : (int 0 : F) = 0 := rfl
theorem int_one : (int 1 : F) = 1 := by show nat 0 + 1 = _; exact zero_add 1

def pw (x : F) : Nat → F
  | 0 => 1
  | n + 1 => pw x n * x
theorem pw_add (x : F) (a b : Nat) : pw x (a + b) = pw x a * pw x b := by
  induction b with
  | zero => simp [pw, mul_one]
  | succ b ih => rw [← Nat.add_assoc]; simp only [pw]; rw [ih, mul_assoc]
theorem pw_mul (x y : F) (n : Nat) : pw (x * y) n = pw x n * pw y n := by
  induction n with
  | zero => simp [pw, one_mul]
  | succ n ih => simp only [pw]; rw [ih, mul_assoc, mul_assoc]; congr 1; rw [mul_left_comm]
theorem pw_pw (x : F) (a b : Nat) : pw x (a * b) = pw (pw x a) b := by
  induction b with
  | zero => rfl
  | succ b ih => rw [Nat.mul_succ, pw_add, ih]; rfl
end

/- polynomials -/
abbrev Mon := List Nat
abbrev Pol := List (Mon × Int)
def madd : Mon → Mon → Mon
  | [], b => b
  | a :: ar, b => match b with
    | [] => a :: ar
    | c :: bs => (a + c) :: madd ar bs
/-- 0: the same; 1: the first goes ahead; 2: the second. -/
def mcmp : Mon → Mon → Nat
  | [], b => match b with
    | [] => 0
    | _ :: _ => 2
  | a :: ar, b => match b with
    | [] => 1
    | c :: bs => match Nat.beq a c with
      | true => mcmp ar bs
      | false => match Nat.ble a c with
        | true => 2
        | false => 1
theorem mcmp_eq : ∀ {a b : Mon}, mcmp a b = 0 → a = b
  | [], [], _ => rfl
  | [], _ :: _, h => by cases h
  | _ :: _, [], h => by cases h
  | a :: ar, c :: bs, h => by
    simp only [mcmp] at h
    cases hb : Nat.beq a c with
    | true => rw [hb] at h; rw [Nat.eq_of_beq_eq_true hb, mcmp_eq h]
    | false =>
      rw [hb] at h
      cases hl : Nat.ble a c <;> rw [hl] at h <;> cases h
def cons0 (m : Mon) (c : Int) (p : Pol) : Pol := match c with
  | .ofNat 0 => p
  | _ => (m, c) :: p
def padd : Nat → Pol → Pol → Pol
  | 0, p, q => p ++ q
  | n + 1, p, q => match p with
    | [] => q
    | (a, c) :: p' => match q with
      | [] => p
      | (b, d) :: q' => match mcmp a b with
        | 0 => cons0 a (c + d) (padd n p' q')
        | 1 => (a, c) :: padd n p' q
        | _ => (b, d) :: padd n p q'
def len : Pol → Nat
  | [] => 0
  | _ :: r => len r + 1
def plus (p q : Pol) : Pol := padd (len p + len q) p q
def pscale (m : Mon) (c : Int) : Pol → Pol
  | [] => []
  | (a, d) :: r => (madd m a, c * d) :: pscale m c r
def pmul : Pol → Pol → Pol
  | [], _ => []
  | (a, c) :: r, q => plus (pscale a c q) (pmul r q)
def pneg : Pol → Pol
  | [] => []
  | (a, c) :: r => (a, -c) :: pneg r
section
variable {F : Type} [CR F]
def mden : List F → Mon → F
  | [], _ => 1
  | x :: xs, m => match m with
    | [] => 1
    | e :: es => pw x e * mden xs es
def pden (xs : List F) : Pol → F
  | [] => 0
  | (m, c) :: r => int c * mden xs m + pden xs r
theorem mden_nil (xs : List F) : mden xs [] = 1 := by cases xs <;> rfl
theorem mden_add : ∀ (xs : List F) (a b : Mon), mden xs (madd a b) = mden xs a * mden xs b
  | [], a, b => by simp [mden, one_mul]
  | x :: xs, [], b => by simp [madd, mden_nil, one_mul]
  | x :: xs, a :: ar, [] => by simp [madd, mden_nil, mul_one]
  | x :: xs, a :: ar, c :: bs => by
    simp only [madd, mden]
    rw [pw_add, mden_add xs ar bs, mul_assoc, mul_assoc]; congr 1; rw [mul_left_comm]
theorem pden_cons0 (xs : List F) (m : Mon) (c : Int) (p : Pol) : pden xs (cons0 m c p) = int c * mden xs m + pden xs p := by
  unfold cons0
  split
  · show _ = int 0 * _ + _
    rw [int_zero, zero_mul, zero_add]
  · rfl
theorem pden_append (xs : List F) : ∀ p q : Pol, pden xs (p ++ q) = pden xs p + pden xs q
  | [], q => by simp [pden, zero_add]
  | (m, c) :: p, q => by simp only [List.cons_append, pden]; rw [pden_append xs p q, add_assoc]
theorem pden_padd (xs : List F) : ∀ (n : Nat) (p q : Pol), pden xs (padd n p q) = pden xs p + pden xs q
  | 0, p, q => pden_append xs p q
  | n + 1, [], q => by simp [padd, pden, zero_add]
  | n + 1, (a, c) :: p', [] => by simp [padd, pden, add_zero]
  | n + 1, (a, c) :: p', (b, d) :: q' => by
    simp only [padd]
    split
    · rename_i h
      rw [pden_cons0, pden_padd xs n p' q', mcmp_eq h]
      simp only [pden]
      rw [int_add, add_mul, add_assoc, add_assoc]; congr 1
      rw [add_left_comm]
    · simp only [pden]; rw [pden_padd xs n p' _]; simp only [pden]; rw [add_assoc]
    · simp only [pden]; rw [pden_padd xs n _ q']; simp only [pden]; rw [add_left_comm]
theorem pden_plus (xs : List F) (p q : Pol) : pden xs (plus p q) = pden xs p + pden xs q := pden_padd xs _ p q
theorem pden_scale (xs : List F) (m : Mon) (c : Int) : ∀ p : Pol, pden xs (pscale m c p) = int c * mden xs m * pden xs p
  | [] => by simp [pscale, pden, mul_zero]
  | (a, d) :: r => by
    simp only [pscale, pden]
    rw [pden_scale xs m c r, mden_add, int_mul, mul_add]; congr 1
    rw [mul_assoc, mul_assoc]; congr 1; rw [mul_left_comm]
theorem pden_mul (xs : List F) : ∀ p q : Pol, pden xs (pmul p q) = pden xs p * pden xs q
  | [], q => by simp [pmul, pden, zero_mul]
  | (a, c) :: r, q => by simp only [pmul, pden]; rw [pden_plus, pden_scale, pden_mul xs r q, add_mul]
theorem pden_neg (xs : List F) : ∀ p : Pol, pden xs (pneg p) = - pden xs p
  | [] => by simp [pneg, pden, neg_zero]
  | (a, c) :: r => by simp only [pneg, pden]; rw [pden_neg xs r, int_neg, neg_mul, neg_add_rev]
end

/- expressions -/
inductive E where
  | v (i : Nat)
  | c (k : Int)
  | add (a b : E)
  | sub (a b : E)
  | mul (a b : E)
  | neg (a : E)
  | pw (a : E) (n : Nat)
def unit : Nat → Mon
  | 0 => [1]
  | i + 1 => 0 :: unit i
def ppow (p : Pol) : Nat → Pol
  | 0 => [([], 1)]
  | n + 1 => pmul (ppow p n) p
def E.pol : E → Pol
  | .v i => [(unit i, 1)]
  | .c k => cons0 [] k []
  | .add a b => plus a.pol b.pol
  | .sub a b => plus a.pol (pneg b.pol)
  | .mul a b => pmul a.pol b.pol
  | .neg a => pneg a.pol
  | .pw a n => ppow a.pol n
def nth {F : Type} [One F] : List F → Nat → F
  | [], _ => 1
  | x :: _, 0 => x
  | _ :: xs, i + 1 => nth xs i
section
variable {F : Type} [CR F]
def E.den (xs : List F) : E → F
  | .v i => nth xs i
  | .c k => int k
  | .add a b => a.den xs + b.den xs
  | .sub a b => a.den xs - b.den xs
  | .mul a b => a.den xs * b.den xs
  | .neg a => - a.den xs
  | .pw a n => Rg.pw (a.den xs) n
theorem mden_unit : ∀ (xs : List F) (i : Nat), mden xs (unit i) = nth xs i
  | [], i => by simp [mden, nth]
  | x :: xs, 0 => by simp [unit, mden, mden_nil, nth, Rg.pw, one_mul, mul_one]
  | x :: xs, i + 1 => by simp only [unit, mden, nth, Rg.pw]; rw [one_mul, mden_unit xs i]
theorem pden_pow (xs : List F) (p : Pol) (n : Nat) : pden xs (ppow p n) = Rg.pw (pden xs p) n := by
  induction n with
  | zero => simp [ppow, pden, Rg.pw, mden_nil, int_one, mul_one, add_zero]
  | succ n ih => simp only [ppow, Rg.pw]; rw [pden_mul, ih]
theorem E.pol_den (xs : List F) : ∀ e : E, pden xs e.pol = e.den xs
  | .v i => by simp only [E.pol, pden, E.den]; rw [mden_unit, int_one, one_mul, add_zero]
  | .c k => by simp only [E.pol, E.den]; rw [pden_cons0]; simp [pden, mden_nil, mul_one, add_zero]
  | .add a b => by simp only [E.pol, E.den]; rw [pden_plus, a.pol_den xs, b.pol_den xs]
  | .sub a b => by simp only [E.pol, E.den]; rw [pden_plus, pden_neg, a.pol_den xs, b.pol_den xs, sub_eq]
  | .mul a b => by simp only [E.pol, E.den]; rw [pden_mul, a.pol_den xs, b.pol_den xs]
  | .neg a => by simp only [E.pol, E.den]; rw [pden_neg, a.pol_den xs]
  | .pw a n => by simp only [E.pol, E.den]; rw [pden_pow, a.pol_den xs]
/-- Sums of multiples of what is 0. -/
def comb : List (E × E) → E
  | [] => .c 0
  | (k, r) :: l => .add (.mul k r) (comb l)
def nilP : Pol → Bool
  | [] => true
  | _ :: _ => false
def zeros (xs : List F) : List (E × E) → Prop
  | [] => True
  | (_, r) :: l => r.den xs = 0 ∧ zeros xs l
theorem comb_den (xs : List F) : ∀ l : List (E × E), zeros xs l → (comb l).den xs = 0
  | [], _ => rfl
  | (k, r) :: l, ⟨h1, h2⟩ => by simp only [comb, E.den]; rw [h1, mul_zero, comb_den xs l h2, add_zero]
/-- What the kernel sees: that is 0 which is a sum of multiples of what is 0. -/
theorem lin (xs : List F) (g : E) (l : List (E × E)) (hz : zeros xs l) (h : nilP (E.pol (.sub g (comb l))) = true) : g.den xs = 0 := by
  have e : (E.pol (.sub g (comb l))) = [] := by
    cases hp : E.pol (.sub g (comb l)) with
    | nil => rfl
    | cons a b => rw [hp] at h; cases h
  have := E.pol_den xs (.sub g (comb l))
  rw [e] at this
  simp only [pden, E.den] at this
  rw [comb_den xs l hz] at this
  exact sub_zero_iff.1 this.symm
theorem ident (xs : List F) (a b : E) (h : nilP (E.pol (.sub a b)) = true) : a.den xs = b.den xs := by
  have e : (E.pol (.sub a b)) = [] := by
    cases hp : E.pol (.sub a b) with
    | nil => rfl
    | cons a b => rw [hp] at h; cases h
  have := E.pol_den xs (.sub a b)
  rw [e] at this
  exact sub_zero_iff.1 this.symm
end
end Go.Proofs.YtfmajnlfpnjagaaGreat.Rg
