/- Part 5 of the proof: Kj, Kk, Kl, Km, Kn, Tb, Tc. -/
import Derived.Test.YtccmbnbphianbaaPD
import Derived.Test.YtccmbnbphianbaaPB
/- g1.Mul: the contract. -/
namespace Go.Proofs.Ytccmbnbphianbaa
open Ex Num Rg
set_option maxRecDepth 100000

/- What is known of a block of memory may be told in other words. -/
theorem hget_last {H0 : Heap} {k b : Nat} {blk blk' x : Blk} (h : hget (H0 ++ [(k, some blk')]) b = some x) : hget (H0 ++ [(k, some blk)]) b = some x ∨ (x = blk' ∧ hget (H0 ++ [(k, some blk)]) b = some blk) := by
  induction H0 with
  | nil =>
    simp only [List.nil_append, hget] at h ⊢
    cases e : Nat.beq k b with
    | true => rw [e] at h; injection h with h; exact .inr ⟨h.symm, rfl⟩
    | false => rw [e] at h; cases h
  | cons y r ih =>
    obtain ⟨j, z⟩ := y
    simp only [List.cons_append, hget] at h ⊢
    cases e : Nat.beq j b with
    | true => rw [e] at h; exact .inl h
    | false => rw [e] at h; exact ih h
theorem relB_imp {β : Env} {ty : TypeId} {cs cs' : List Ch} {o : Bool} {k : Nat} {w : World} (h : ∀ β l, relL β cs l → relL β cs' l) (hr : relB β ⟨ty, cs, o⟩ k w) : relB β ⟨ty, cs', o⟩ k w := by
  rcases hr with ⟨B, n, l, t, pre, ty', fz, q1, q2, q3⟩ | ⟨q1, q2, q3⟩
  · exact .inl ⟨B, n, l, t, pre, ty', fz, q1, h _ _ q2, q3⟩
  · exact .inr ⟨q1, q2, h _ _ q3⟩
theorem good_imp {β : Env} {H0 : Heap} {k : Nat} {ty : TypeId} {cs cs' : List Ch} {o : Bool} {w : World} (h : ∀ β l, relL β cs l → relL β cs' l) (g : Ex.Good β (H0 ++ [(k, some ⟨ty, cs, o⟩)]) w) : Ex.Good β (H0 ++ [(k, some ⟨ty, cs', o⟩)]) w := by
  have hs : ∀ b x, hget (H0 ++ [(k, some ⟨ty, cs', o⟩)]) b = some x → ∃ y, hget (H0 ++ [(k, some ⟨ty, cs, o⟩)]) b = some y ∧ y.ty = x.ty := fun b x hb => by
    rcases hget_last (blk := ⟨ty, cs, o⟩) hb with e | ⟨rfl, e⟩
    · exact ⟨x, e, rfl⟩
    · exact ⟨_, e, rfl⟩
  refine ⟨fun b blk hb => ?_, fun b b' B n n' h1 h2 h3 h4 => ?_, g.lt⟩
  · rcases hget_last (blk := ⟨ty, cs, o⟩) hb with e | ⟨rfl, e⟩
    · exact g.heap b blk e
    · exact relB_imp h (g.heap b _ e)
  · obtain ⟨x, hx, hr⟩ := rwK_some h1
    obtain ⟨y, hy, e⟩ := hs b x hx
    obtain ⟨x', hx'⟩ := Option.isSome_iff_exists.1 h2
    obtain ⟨y', hy', _⟩ := hs b' x' hx'
    exact g.inj b b' B n n' (rwK_mk hy (by rw [e]; exact hr)) (by rw [hy']; rfl) h3 h4
theorem heap_safe {P : Program} {f : FuncId} {β0 : Env} {w0 : World} {R : Ending → World → Prop} {n : Nat} {W : List Nat} {todo : List Item} {T : List AV} {H0 : Heap} {k : Nat} {ty : TypeId} {cs cs' : List Ch} {o : Bool} {fr : Nat} {p : List Bool} (h : ∀ β l, relL β cs l → relL β cs' l)
    (hs : ASafe P f β0 w0 R n W ⟨todo, ⟨T, H0 ++ [(k, some ⟨ty, cs', o⟩)], fr, p⟩⟩) : ASafe P f β0 w0 R n W ⟨todo, ⟨T, H0 ++ [(k, some ⟨ty, cs, o⟩)], fr, p⟩⟩ :=
  fun β a w hi hf => hs β a w { hi with good := good_imp h hi.good } hf

/- the walk -/
noncomputable def gmTodo : List Item := todoOf (aSeg Try.prog (orc SG3 KG) (some 0) 500 1 none (entry Try.f27 [slA 0 0 0 0, g1A 0 0 false] (seqH []) 1 [false, false]))
noncomputable def gmT (off n m : Nat) (i : Int) : List AV := .val false [.sl 0 off n m] :: .any :: .any :: .val false [.p 1 0] :: .val false [.p 2 0] :: .val false [.n .i64 0] :: .val false [.p 3 0] :: .val false [.v (.int .i64 i)] :: List.replicate (Try.f27.ntmps - 8) .any
noncomputable def gmH (xs : List Int) (P : Pt FP) : Heap := [(0, some (roB [.seq .u64 xs])), (1, some ⟨30, [.num 6 (ptX P), .num 6 (ptY P), .v (.bool (ptI P))], false⟩), (2, some ⟨30, zero12 false, false⟩)]
noncomputable def gmS (off n m : Nat) (xs : List Int) (P : Pt FP) (out : List Ch) (i : Int) (path : List Bool) : ASt := ⟨gmTodo, ⟨gmT off n m i, List.append (gmH xs P) [(3, some ⟨77, out, false⟩)], 4, path⟩⟩
def jC (j : J FP) : List Ch := [.num 6 j.x.val, .num 6 j.y.val, .num 6 j.z.val]
def zero18 : List Ch := [.n .u64 0, .n .u64 0, .n .u64 0, .n .u64 0, .n .u64 0, .n .u64 0, .n .u64 0, .n .u64 0, .n .u64 0, .n .u64 0, .n .u64 0, .n .u64 0, .n .u64 0, .n .u64 0, .n .u64 0, .n .u64 0, .n .u64 0, .n .u64 0]
def toJ' (j : J FP) : J FP := toJ j.x.val j.y.val j.z.val
theorem toJ'_eq (j : J FP) : toJ' j = j := by
  unfold toJ' toJ
  rw [tf_val, tf_val, tf_val]
noncomputable def plP (j : J FP) (P : Pt FP) : J FP := plJ (toJ' (twJ (toJ' j))) (tf (ptX P)) (tf (ptY P))
def gmArgs (x y : Nat) (i : Bool) (off n m : Nat) : List AV := [slA 0 off n m, g1A x y i]
def toPt' (P : Pt FP) : Pt FP := toPt (ptX P) (ptY P) (ptI P)
theorem gm_entry (x y : Nat) (i : Bool) (off n m : Nat) (xs : List Int) : aSeg Try.prog (orc SG3 KG) (some 0) 500 1 (some ([0, 3, 4, 5, 6, 7], [0, 1, 2, 3], 4)) (entry Try.f27 (gmArgs x y i off n m) (seqH xs) 1 [false, false]) =
  some ([(!onP (toPt' (toPt x y i)), false), (ptI (toPt x y i), false), (hasB .i64 n, true)], [], gmS off n m xs (toPt x y i) zero18 (wI (wI (64 * (n : Int)) - 1)) []) := by kernel_rfl
def gmA (Q : Pt FP) (e : Int) : AV := .tup [(true, [.num 6 (ptX Q), .num 6 (ptY Q), .v (.bool (ptI Q))]), (false, [.v (.int .i64 e)])]
def gmN (Q : Pt FP) (e : Int) : AV := .tup [(true, [.num 6 (ptX Q), .num 6 (ptY Q), .v (.bool (ptI Q))]), (false, [.n .i64 e])]
theorem gm_off (x y : Nat) (i : Bool) (off n m : Nat) (xs : List Int) : segOut Try.prog (orc SG3 KG) Try.f27 500 1 [] (entry Try.f27 (gmArgs x y i off n m) (seqH xs) 1 [true]) =
  some ([(!onP (toPt' (toPt x y i)), true)], [], .tup [(true, zero12 false), (false, [.n .i64 120])], []) := by kernel_rfl
theorem gm_inf (x y : Nat) (i : Bool) (off n m : Nat) (xs : List Int) : segOut Try.prog (orc SG3 KG) Try.f27 500 1 [] (entry Try.f27 (gmArgs x y i off n m) (seqH xs) 1 [false, true]) =
  some ([(!onP (toPt' (toPt x y i)), false), (ptI (toPt x y i), true)], [], gmN (toPt x y i) 0, []) := by kernel_rfl
def gmC (off n : Nat) (xs : List Int) (i : Int) (bit : Bool) (r : List (Bool × Bool)) : List (Bool × Bool) := (decide (0 ≤ i), true) :: (true, true) :: (decide (0 ≤ wI (Int.tdiv i 64) ∧ wI (Int.tdiv i 64) < n), true) ::
  (decide (off + (wI (Int.tdiv i 64)).toNat * 1 < xs.length), true) :: (decide (0 ≤ i ∧ (0 : Int) < 64), true) :: (decide (0 ≤ Int.tmod i 64 ∧ 0 ≤ powW xs off i), true) :: (decide (bitI (powW xs off i) (Int.tmod i 64) = 0), bit) :: r
section
variable (off n m : Nat) (xs : List Int) (P : Pt FP) (j : J FP) (i : Int)
theorem gm_zero : aSeg Try.prog (orc SG3 KG) (some 0) 500 1 (some ([0, 3, 4, 5, 6, 7], [0, 1, 2, 3], 4)) (gmS off n m xs P (jC j) i [true, true]) =
  some (gmC off n xs i true [], [], gmS off n m xs P (jC (twJ (toJ' j))) (wI (i - 1)) []) := by kernel_rfl
theorem gm_one : aSeg Try.prog (orc SG3 KG) (some 0) 500 1 (some ([0, 3, 4, 5, 6, 7], [0, 1, 2, 3], 4)) (gmS off n m xs P (jC j) i [true, false]) =
  some (gmC off n xs i false [(decide ((twJ (toJ' j)).z.val < pN), true), (decide (ptX P < pN), true), (decide (ptY P < pN), true)], [], gmS off n m xs P (jC (plP j P)) (wI (i - 1)) []) := by kernel_rfl
theorem gm_exit : segOut Try.prog (orc SG3 KG) Try.f27 500 1 [] (gmS off n m xs P (jC j) i [false]) =
  some ([(decide (0 ≤ i), false), (decide (j.z.val < pN), true)], [], gmN (ptJ (toJ' j)) 0, []) := by kernel_rfl
end
theorem gm_wf (off n m : Nat) (xs : List Int) (P : Pt FP) (j : J FP) (i : Int) (p : List Bool) : wfSt Try.f27.ntmps (gmS off n m xs P (jC j) i p).s := wfB_ok (by kernel_rfl)
theorem zero18_rel (β : Env) (l : List Value) (h : relL β zero18 l) : relL β (jC ⟨0, 0, 0⟩) l := by
  have h3 : asF3 zero18 = some (0, 0, 0) := by kernel_rfl
  obtain ⟨l', q, e⟩ := asF3_rel (β' := β) (u := .agg ⟨l⟩) h3 ⟨l, h, rfl⟩
  injection e with e; injection e with e; subst e
  exact q
def accJ (P : Pt FP) (E c : Nat) (j : J FP) : Prop := ptJ j = smul (E / 2 ^ c) P
section
variable {off n m : Nat} {xs : List Int} (hall : ∀ d ∈ xs, 0 ≤ d ∧ d < 18446744073709551616) (hlen : off + n ≤ xs.length) (hn : n ≤ 1125899906842624) {P : Pt FP} (hP : Rg.On C1.b P) (hI : ptI P = false) {β0 : Env} {w0 : World} (hb : ∀ b, 1 ≤ b → β0 b = none)
include hall hlen hn hb hP hI
theorem gm_safe : ∀ (c : Nat) (j : J FP), accJ P (natL (win xs off n)) c j → c ≤ 64 * n → ASafe Try.prog 27 β0 w0 (Outs β0 w0 [] (gmN (smul (natL (win xs off n)) P) 0) []) Try.f27.ntmps [] (gmS off n m xs P (jC j) ((c : Int) - 1) []) := by
  intro c
  induction c with
  | zero =>
    intro j hj _
    have h : ASafe Try.prog 27 β0 w0 (Outs β0 w0 [] (gmN (ptJ (toJ' j)) 0) []) Try.f27.ntmps [] (gmS off n m xs P (jC j) (((0 : Nat) : Int) - 1) [false]) :=
      out_safe (orc_ok SG3ok KGok) mixed Try.func27 (gm_exit ..) ⟨rfl, decide_eq_true j.z.isLt, trivial⟩ (gm_wf ..) hb (fun _ h => by cases h)
    unfold accJ at hj
    rw [toJ'_eq, hj, Nat.pow_zero, Nat.div_one] at h
    exact path_safe [false] h
  | succ c ih =>
    intro j hj hc
    have hi : ((c + 1 : Nat) : Int) - 1 = (c : Int) := by omega
    rw [hi]
    have hlt : ∀ d ∈ win xs off n, 0 ≤ d ∧ d < 18446744073709551616 := win_has hall
    have hq : Int.tdiv (c : Int) 64 = ((c / 64 : Nat) : Int) := by rw [Int.tdiv_eq_ediv_of_nonneg (by omega)]; rfl
    have hr : Int.tmod (c : Int) 64 = ((c % 64 : Nat) : Int) := by rw [Int.tmod_eq_emod_of_nonneg (by omega)]; rfl
    have hw : wI (Int.tdiv (c : Int) 64) = ((c / 64 : Nat) : Int) := by rw [hq]; exact wI_eq (by omega)
    have hjn : c / 64 < n := by omega
    have hv : powW xs off c = (win xs off n).getD (c / 64) 0 := by
      unfold powW
      rw [hw, Int.toNat_natCast, Nat.mul_one]
      exact (bit_word hjn).symm
    have hvb : 0 ≤ powW xs off c ∧ powW xs off c < 18446744073709551616 := by
      rw [hv, List.getD_eq_getElem?_getD]
      cases h : (win xs off n)[c / 64]? with
      | none => simp
      | some d => exact hlt d (List.mem_of_getElem? h)
    have hbit : bitI (powW xs off c) (Int.tmod c 64) = ((natL (win xs off n) / 2 ^ c % 2 : Nat) : Int) := by
      obtain ⟨V, hV⟩ := Int.eq_ofNat_of_zero_le hvb.1
      rw [hr, ← natL_bit _ c hlt, ← hv, hV, Int.toNat_natCast]
      exact bitI_eq V _ (by omega) (by omega)
    have hnext : wI ((c : Int) - 1) = (c : Int) - 1 := wI_eq (by omega)
    have hconds : ∀ bit r, decide (bitI (powW xs off c) (Int.tmod c 64) = 0) = bit → okConds r → okConds (gmC off n xs c bit r) := by
      intro bit r hbt hr'
      refine ⟨by simp, rfl, ?_, ?_, ?_, ?_, hbt, hr'⟩
      · rw [hw]; simp; omega
      · rw [hw]; simp; omega
      · simp
      · simp only [decide_eq_true_eq]; rw [hr]; exact ⟨by omega, hvb.1⟩
    have hdiv : natL (win xs off n) / 2 ^ c = 2 * (natL (win xs off n) / 2 ^ (c + 1)) + natL (win xs off n) / 2 ^ c % 2 := by
      rw [Nat.pow_succ, ← Nat.div_div_eq_div_mul]; omega
    unfold accJ at hj
    have hoj : Rg.On C1.b (ptJ j) := by rw [hj]; exact on_smul C1 hP _
    have htw : ptJ (twJ (toJ' j)) = smul (2 * (natL (win xs off n) / 2 ^ (c + 1))) P := by
      rw [toJ'_eq, ptJ_tw C1 hoj, hj, ← smul_add C1 hP, Nat.two_mul]
    rcases Nat.mod_two_eq_zero_or_one (natL (win xs off n) / 2 ^ c) with h0 | h1
    · refine path_safe [true, true] (seg_safe (orc_ok SG3ok KGok) mixed (gm_zero ..) (hconds true [] (by rw [hbit, h0]; rfl) trivial) (gm_wf ..) hb (fun _ h => by cases h) fun _ => ?_)
      rw [hnext]
      refine ih _ ?_ (by omega)
      unfold accJ
      rw [htw, hdiv, h0]; rfl
    · refine path_safe [true, false] (seg_safe (orc_ok SG3ok KGok) mixed (gm_one ..) (hconds false _ (by rw [hbit, h1]; rfl) ⟨decide_eq_true (twJ (toJ' j)).z.isLt, decide_eq_true (ptX_lt P), decide_eq_true (ptY_lt P), trivial⟩) (gm_wf ..) hb (fun _ h => by cases h) fun _ => ?_)
      rw [hnext]
      refine ih _ ?_ (by omega)
      unfold accJ plP
      rw [toJ'_eq (twJ (toJ' j)), ptJ_pl C1 (by rw [htw]; exact on_smul C1 hP _), htw, hdiv, h1]
      cases P with
      | inf => cases hI
      | pt a b =>
        show add _ (.pt (tf a.val) (tf b.val)) = _
        rw [tf_val, tf_val]; rfl
end
/-- What Mul answers. -/
noncomputable def mulP (N : Nat) (P : Pt FP) : Pt FP := if onP P = true then smul N P else .pt 0 0
noncomputable def mulE (P : Pt FP) : Int := if onP P = true then 0 else 120
theorem toPt'_eq (P : Pt FP) : toPt' P = P := toPt_of P
theorem gmN_A {β : Env} {Q : Pt FP} {e : Int} {u : Value} (h : relA β (gmN Q e) u) : relA β (gmA Q e) u := relT2 (fun _ q => q) (fun _ q => gval rfl q) h
theorem gm_can {off n m : Nat} {xs : List Int} (hall : ∀ d ∈ xs, 0 ≤ d ∧ d < 18446744073709551616) (hlen : off + n ≤ xs.length) (hn : n ≤ 1125899906842624) (x y : Nat) (i : Bool) :
    CanOk Try.prog 27 (gmArgs x y i off n m) (seqH xs) 1 [] (gmA (mulP (natL (win xs off n)) (toPt x y i)) (mulE (toPt x y i))) [] := by
  have e1 := gm_entry x y i off n m xs
  have e2 := gm_off x y i off n m xs
  have e3 := gm_inf x y i off n m xs
  rw [toPt'_eq] at e1 e2 e3
  generalize toPt x y i = P at *
  cases ho : onP P with
  | false =>
    unfold mulP mulE
    rw [if_neg (by rw [ho]; exact Bool.false_ne_true), if_neg (by rw [ho]; exact Bool.false_ne_true)]
    refine can_val (can_entry (path := [true]) Try.func27 (by kernel_rfl) (by kernel_rfl) fun β0 w0 hb =>
      out_safe (orc_ok SG3ok KGok) mixed Try.func27 e2 ⟨by rw [ho]; rfl, trivial⟩ (wfB_ok (by kernel_rfl)) hb (fun _ h => by cases h)) fun β u hu => ?_
    exact relT2 (fun _ q => (asG1_rel (x := 0) (y := 0) (i := false) (by kernel_rfl) q).1) (fun _ q => gval rfl q) hu
  | true =>
    have hP := (onP_iff P).1 ho
    unfold mulP mulE
    rw [if_pos ho, if_pos ho]
    cases hI : ptI P with
    | true =>
      have hp : P = .inf := by cases P with | inf => rfl | pt a b => cases hI
      have hs : smul (natL (win xs off n)) P = P := by rw [hp, smul_inf]
      rw [hs]
      exact can_val (can_entry (path := [false, true]) Try.func27 (by kernel_rfl) (by kernel_rfl) fun β0 w0 hb =>
        out_safe (orc_ok SG3ok KGok) mixed Try.func27 e3 ⟨by rw [ho]; rfl, hI, trivial⟩ (wfB_ok (by kernel_rfl)) hb (fun _ h => by cases h)) fun β u hu => gmN_A hu
    | false =>
      refine can_val (can_entry (path := [false, false]) Try.func27 (by kernel_rfl) (by kernel_rfl) fun β0 w0 hb => ?_) fun β u hu => gmN_A hu
      refine seg_safe (orc_ok SG3ok KGok) mixed e1 ⟨by rw [ho]; rfl, hI, ?_, trivial⟩ (wfB_ok (by kernel_rfl)) hb (fun _ h => by cases h) fun _ => ?_
      · simp only [hasB, Bool.and_eq_true, decide_eq_true_eq]; omega
      · have e4 : wI (wI (64 * (n : Int)) - 1) = ((64 * n : Nat) : Int) - 1 := by
          rw [wI_eq (z := 64 * (n : Int)) (by omega), wI_eq (by omega)]; omega
        rw [e4]
        refine heap_safe zero18_rel (gm_safe hall hlen hn hP hI hb (64 * n) ⟨0, 0, 0⟩ ?_ (Nat.le_refl _))
        unfold accJ
        have hl := natL_lt (win xs off n) (win_has hall)
        have hl2 : natL (win xs off n) < 2 ^ (64 * n) := by
          unfold win at hl ⊢
          rwa [List.length_take, List.length_drop, Nat.min_eq_left (by omega)] at hl
        rw [ptJ_zero rfl, Nat.div_eq_of_lt hl2]; rfl
/-- Contracts of functions of a list of words and a point. -/
def wgSp (g : List Int → Pt FP → AV) : ASpec := fun args H fr path =>
  match args with
  | [S, .val true a] => match asSl S with
    | some (k, off, n) => match asG1 a, hget H k with
      | some (x, y, i), some ⟨_, cs, _⟩ => match toSeq .u64 cs with
        | some xs => some (trR [k] 1 fr 0 [] (g (win xs off n) (toPt x y i)) [] [(Nat.ble (off + n) xs.length, true), (Nat.ble n 1125899906842624, true)] path)
        | none => none
      | _, _ => none
    | none => none
  | _ => none
theorem wgSp_ok {f : FuncId} {fn : Func} {g : List Int → Pt FP → AV} (hfn : Try.prog.funcs[f]? = some fn) (hb : fn.body.isSome = true) (hname : (fn.name == "runtime.NumGoroutine") = false) (hk : ∀ l P, canB 1 0 [] (g l P) [] = true)
    (h : ∀ (off n m : Nat) (xs : List Int) (x y : Nat) (i : Bool), (∀ d ∈ xs, 0 ≤ d ∧ d < 18446744073709551616) → off + n ≤ xs.length → n ≤ 1125899906842624 → CanOk Try.prog f (gmArgs x y i off n m) (seqH xs) 1 [] (g (win xs off n) (toPt x y i)) []) : SpecOk Try.prog f (wgSp g) := by
  refine can_spec2 hfn hb hname fun args H fr path r hs => ?_
  unfold wgSp at hs
  split at hs
  case h_2 => cases hs
  rename_i S a
  split at hs
  case h_2 => cases hs
  rename_i k off n hS
  split at hs
  case h_2 => cases hs
  rename_i x y i ty cs o hx hk'
  split at hs
  case h_2 => cases hs
  rename_i xs hxs
  injection hs with hs
  refine ⟨[k], 1, 0, [], _, _, _, path, hs.symm, fun β us w ha hg hc => ?_⟩
  obtain ⟨u1, us1, r1, ⟨u2, us2, r2, ha, rfl⟩, rfl⟩ := ha
  obtain ⟨m, r1⟩ := asSl_rel hS r1
  obtain ⟨g1, g2, g3⟩ := good_seq hg hk' hxs
  exact ⟨gmArgs x y i off n m, seqH xs, h off n m xs x y i g1 (Nat.le_of_ble_eq_true hc.1) (Nat.le_of_ble_eq_true hc.2.1), hk _ _, ⟨u1, _, sl_in (by omega) rfl r1, ⟨u2, us2, (asG1_rel hx r2).1, ha, rfl⟩, rfl⟩, g2, g3⟩
noncomputable def SG4 : List (FuncId × ASpec) := (27, nilSpec (wgSp fun l P => gmA (mulP (natL l) P) (mulE P))) :: SG3
theorem SG4ok : SpecsOk Try.prog SG4 := ⟨nilSpec_ok (wgSp_ok Try.func27 (by kernel_rfl) (by kernel_rfl) (fun _ _ => by kernel_rfl) fun _ _ _ _ x y i hx hl hn => gm_can hx hl hn x y i), SG3ok⟩
end Go.Proofs.Ytccmbnbphianbaa
/- sigilref12: number, b, Base, Reduce, On, Neg, Slope, Add, twice, plus: the contracts. -/
namespace Go.Proofs.Ytccmbnbphianbaa
open Ex Num Rg
set_option maxRecDepth 100000

def numSp : List AV → Option AV
  | [.val false [.n .u64 i]] => some (.val true [.n .u64 i, .n .u64 0, .n .u64 0, .n .u64 0, .n .u64 0, .n .u64 0])
  | _ => none
theorem rnum_run (i : Int) : pureRun Try.prog (orc SG4 KG) Try.f65 [.val false [.n .u64 i]] [] 100 = some ([], .val true [.n .u64 i, .n .u64 0, .n .u64 0, .n .u64 0, .n .u64 0, .n .u64 0]) := by kernel_rfl
theorem numSp_ok : ∀ args v, numSp args = some v → PureOk Try.prog 65 args v := by
  intro args v hs
  unfold numSp at hs
  split at hs
  case h_2 => cases hs
  rename_i i
  injection hs with hs; subst hs
  exact pure_ok (orc_ok SG4ok KGok) mixed Try.func65 (rnum_run i) trivial rfl
theorem rb12_run : pureRun Try.prog (orc SG4 KG) Try.f96 [] [] 100 = some ([], .val true [.n .u64 4, .n .u64 0, .n .u64 0, .n .u64 0, .n .u64 0, .n .u64 0]) := by kernel_rfl
theorem rb12_ok : PureOk Try.prog 96 [] (num6 4) := pure_val (pure_ok (orc_ok SG4ok KGok) mixed Try.func96 rb12_run trivial rfl) fun u hu => num6_of (by kernel_rfl) hu
theorem rred_inf (x y : Nat) (i : Bool) : pureRun Try.prog (orc SG4 KG) Try.f62 [g1A x y i] [true] 300 = some ([(i, true)], .val true (zero12 true)) := by kernel_rfl
theorem rred_pt (x y : Nat) (i : Bool) : pureRun Try.prog (orc SG4 KG) Try.f62 [g1A x y i] [false] 300 = some ([(i, false)], .val true [.num 6 (x % pN), .num 6 (y % pN), .b false]) := by kernel_rfl
theorem rred12_ok (x y : Nat) (i : Bool) : PureOk Try.prog 62 [g1A x y i] (g1V (toPt x y i)) := by
  cases i with
  | true => exact pure_g1 (pure_ok (orc_ok SG4ok KGok) mixed Try.func62 (rred_inf x y true) ⟨rfl, trivial⟩ rfl) (by kernel_rfl)
  | false => exact pure_g1 (pure_ok (orc_ok SG4ok KGok) mixed Try.func62 (rred_pt x y false) ⟨rfl, trivial⟩ rfl) (by kernel_rfl)
noncomputable def SR0 : List (FuncId × ASpec) := (65, pureSpec numSp) :: (96, pureSpec fun args => match args with | [] => some (num6 4) | _ => none) :: (62, pureSpec (spG g1V)) :: SG4
theorem SR0ok : SpecsOk Try.prog SR0 := ⟨pureSpec_ok Try.func65 (by kernel_rfl) (by kernel_rfl) numSp_ok, pureSpec_ok Try.func96 (by kernel_rfl) (by kernel_rfl) (sp0_ok rb12_ok fun u h => h), pureSpec_ok Try.func62 (by kernel_rfl) (by kernel_rfl) (spG_ok rred12_ok), SG4ok⟩
theorem ron_inf (x y : Nat) (i : Bool) : pureRun Try.prog (orc SR0 KG) Try.f61 [g1A x y i] [true] 300 = some ([(i, true)], .val false [.b true]) := by kernel_rfl
theorem ron_pt (x y : Nat) (i : Bool) : pureRun Try.prog (orc SR0 KG) Try.f61 [g1A x y i] [false] 300 = some ([(i, false)], boolA (decide (mulN y y = addN (mulN (mulN x x) x) 4))) := by kernel_rfl
theorem ron_ok (x y : Nat) (i : Bool) : PureOk Try.prog 61 [g1A x y i] (boolA (onP (toPt x y i))) := by
  cases i with
  | true => exact pure_val (pure_ok (orc_ok SR0ok KGok) mixed Try.func61 (ron_inf x y true) ⟨rfl, trivial⟩ rfl) fun u hu => bv_one rfl hu
  | false => rw [← on_eqN]; exact pure_ok (orc_ok SR0ok KGok) mixed Try.func61 (ron_pt x y false) ⟨rfl, trivial⟩ rfl
/- Slope -/
noncomputable def tgR (px py : Nat) : Nat := mulN (mulN 3 (mulN px px)) (invN (mulN 2 py))
noncomputable def chR (px py qx qy : Nat) : Nat := mulN (subN qy py) (invN (subN qx px))
def sgB (P Q : Pt FP) : Bool := !(decide (ptX P = ptX Q) && (!decide (ptY P = ptY Q) || decide (ptY P = 0)))
noncomputable def sgN (P Q : Pt FP) : Nat := if ptX P = ptX Q then (if ptY P = ptY Q ∧ ptY P ≠ 0 then tgR (ptX P) (ptY P) else 0) else chR (ptX P) (ptY P) (ptX Q) (ptY Q)
noncomputable def sgA (P Q : Pt FP) : AV := .tup [(true, [.num 6 (sgN P Q)]), (false, [.v (.bool (sgB P Q))])]
section
variable (x y : Nat) (i : Bool) (x' y' : Nat) (i' : Bool)
theorem sl_1 : pureRun Try.prog (orc SR0 KG) Try.f68 [g1A x y i, g1A x' y' i'] [true, true, true] 300 = some ([(decide (ptX (toPt x y i) = ptX (toPt x' y' i')), true), (!decide (ptY (toPt x y i) = ptY (toPt x' y' i')), true)], .tup [(true, zero6), (false, [.b false])]) := by kernel_rfl
theorem sl_2 : pureRun Try.prog (orc SR0 KG) Try.f68 [g1A x y i, g1A x' y' i'] [true, false, true] 300 = some ([(decide (ptX (toPt x y i) = ptX (toPt x' y' i')), true), (!decide (ptY (toPt x y i) = ptY (toPt x' y' i')), false), (decide (ptY (toPt x y i) = 0), true)], .tup [(true, zero6), (false, [.b false])]) := by kernel_rfl
theorem sl_3 : pureRun Try.prog (orc SR0 KG) Try.f68 [g1A x y i, g1A x' y' i'] [true, false, false] 300 = some ([(decide (ptX (toPt x y i) = ptX (toPt x' y' i')), true), (!decide (ptY (toPt x y i) = ptY (toPt x' y' i')), false), (decide (ptY (toPt x y i) = 0), false)], .tup [(true, [.num 6 (tgR (ptX (toPt x y i)) (ptY (toPt x y i)))]), (false, [.b true])]) := by kernel_rfl
theorem sl_4 : pureRun Try.prog (orc SR0 KG) Try.f68 [g1A x y i, g1A x' y' i'] [false] 300 = some ([(decide (ptX (toPt x y i) = ptX (toPt x' y' i')), false)], .tup [(true, [.num 6 (chR (ptX (toPt x y i)) (ptY (toPt x y i)) (ptX (toPt x' y' i')) (ptY (toPt x' y' i')))]), (false, [.b true])]) := by kernel_rfl
theorem sl_ok : PureOk Try.prog 68 [g1A x y i, g1A x' y' i'] (sgA (toPt x y i) (toPt x' y' i')) := by
  have r1 := sl_1 x y i x' y' i'
  have r2 := sl_2 x y i x' y' i'
  have r3 := sl_3 x y i x' y' i'
  have r4 := sl_4 x y i x' y' i'
  generalize toPt x y i = P at *
  generalize toPt x' y' i' = Q at *
  have ok : ∀ {path c v}, pureRun Try.prog (orc SR0 KG) Try.f68 [g1A x y i, g1A x' y' i'] path 300 = some (c, v) → okConds c → noKeys v = true → PureOk Try.prog 68 [g1A x y i, g1A x' y' i'] v := fun h hc hk => pure_ok (orc_ok SR0ok KGok) mixed Try.func68 h hc hk
  unfold sgA sgN sgB
  by_cases hx : ptX P = ptX Q
  · rw [if_pos hx, decide_eq_true hx]
    by_cases hy : ptY P = ptY Q
    · by_cases h0 : ptY P = 0
      · rw [if_neg (fun h => h.2 h0), decide_eq_true hy, decide_eq_true h0]
        exact pure_val (ok r2 ⟨decide_eq_true hx, by rw [decide_eq_true hy]; rfl, decide_eq_true h0, trivial⟩ rfl) fun u hu => relT2 (fun _ q => zero_num q) (fun _ q => bv_one rfl q) hu
      · rw [if_pos ⟨hy, h0⟩, decide_eq_true hy, decide_eq_false h0]
        exact pure_val (ok r3 ⟨decide_eq_true hx, by rw [decide_eq_true hy]; rfl, decide_eq_false h0, trivial⟩ rfl) fun u hu => relT2 (fun _ q => q) (fun _ q => bv_one rfl q) hu
    · rw [if_neg (fun h => hy h.1), decide_eq_false hy]
      exact pure_val (ok r1 ⟨decide_eq_true hx, by rw [decide_eq_false hy]; rfl, trivial⟩ rfl) fun u hu => relT2 (fun _ q => zero_num q) (fun _ q => bv_one rfl q) hu
  · rw [if_neg hx, decide_eq_false hx]
    exact pure_val (ok r4 ⟨decide_eq_false hx, trivial⟩ rfl) fun u hu => relT2 (fun _ q => q) (fun _ q => bv_one rfl q) hu
end
noncomputable def SR1 : List (FuncId × ASpec) := (61, pureSpec (spG fun P => boolA (onP P))) :: (68, pureSpec (spGG sgA)) :: SR0
theorem SR1ok : SpecsOk Try.prog SR1 := ⟨pureSpec_ok Try.func61 (by kernel_rfl) (by kernel_rfl) (spG_ok ron_ok), pureSpec_ok Try.func68 (by kernel_rfl) (by kernel_rfl) (spGG_ok sl_ok), SR0ok⟩
end Go.Proofs.Ytccmbnbphianbaa
/- sigilref12: Add, twice, plus: the contracts. -/
namespace Go.Proofs.Ytccmbnbphianbaa
open Ex Num Rg
set_option maxRecDepth 100000

theorem tf_k2 : tf 2 = 1 + 1 := by rw [← tf_one, ← tf_add]
theorem tf_k3 : tf 3 = 1 + 1 + 1 := by rw [← tf_one, ← tf_add, ← tf_add]
theorem tf_k4 : tf 4 = 1 + 1 + (1 + 1) := by rw [← tf_k2, ← tf_add]
theorem tf_k8 : tf 8 = 1 + 1 + (1 + 1) + (1 + 1 + (1 + 1)) := by rw [← tf_k4, ← tf_add]

/- Add -/
section
variable (x y : Nat) (i : Bool) (x' y' : Nat) (i' : Bool)
theorem radd_1 : pureRun Try.prog (orc SR1 KG) Try.f32 [g1A x y i, g1A x' y' i'] [true] 300 = some ([(i, true)], g1V (toPt x' y' i')) := by kernel_rfl
theorem radd_2 : pureRun Try.prog (orc SR1 KG) Try.f32 [g1A x y i, g1A x' y' i'] [false, true] 300 = some ([(i, false), (i', true)], g1V (toPt x y i)) := by kernel_rfl
theorem radd_3 : pureRun Try.prog (orc SR1 KG) Try.f32 [g1A x y i, g1A x' y' i'] [false, false, true] 300 = some ([(i, false), (i', false), (!sgB (toPt x y i) (toPt x' y' i'), true)], .val true (zero12 true)) := by kernel_rfl
theorem radd_4 : pureRun Try.prog (orc SR1 KG) Try.f32 [g1A x y i, g1A x' y' i'] [false, false, false] 300 = some ([(i, false), (i', false), (!sgB (toPt x y i) (toPt x' y' i'), false)],
  .val true [.num 6 (smX (sgN (toPt x y i) (toPt x' y' i')) x x'), .num 6 (smY (sgN (toPt x y i) (toPt x' y' i')) x y (smX (sgN (toPt x y i) (toPt x' y' i')) x x')), .b false]) := by kernel_rfl
end
theorem sm_raw {l x y x' : Nat} {L : FP} (hl : tf l = L) : g1A (smX l x x') (smY l x y (smX l x x')) false = g1V (sumAt (tf x) (tf y) (tf x') L) := by
  have hX : tf (smX l x x') = L * L - tf x - tf x' := by unfold smX; simp only [tf_subN, tf_mulN, hl]
  refine g1V_mk (subN_lt _ _) (subN_lt _ _) hX ?_
  unfold smY
  rw [tf_subN, tf_mulN, tf_subN, hX, hl]
theorem tf_tgR (a b : FP) : tf (tgR a.val b.val) = (a * a + a * a + a * a) * FD.inv (b + b) := by
  unfold tgR
  have e1 : tf (mulN 3 (mulN a.val a.val)) = a * a + a * a + a * a := by rw [tf_mulN, tf_mulN, tf_val, tf_k3]; grind
  have e2 : tf (mulN 2 b.val) = b + b := by rw [tf_mulN, tf_val, tf_k2]; grind
  rw [tf_mulN, tf_inv (mulN_lt _ _), e1, e2]; rfl
theorem radd12_ok (x y : Nat) (i : Bool) (x' y' : Nat) (i' : Bool) : PureOk Try.prog 32 [g1A x y i, g1A x' y' i'] (g1V (Rg.add (toPt x y i) (toPt x' y' i'))) := by
  have r1 := radd_1 x y i x' y' i'
  have r2 := radd_2 x y i x' y' i'
  have r3 := radd_3 x y i x' y' i'
  have r4 := radd_4 x y i x' y' i'
  cases i with
  | true => exact pure_ok (orc_ok SR1ok KGok) mixed Try.func32 r1 ⟨rfl, trivial⟩ rfl
  | false => cases i' with
    | true => exact pure_ok (orc_ok SR1ok KGok) mixed Try.func32 r2 ⟨rfl, rfl, trivial⟩ rfl
    | false =>
      have hs : ∀ {l : Nat} {L : FP}, sgN (toPt x y false) (toPt x' y' false) = l → sgB (toPt x y false) (toPt x' y' false) = true → tf l = L → PureOk Try.prog 32 [g1A x y false, g1A x' y' false] (g1V (sumAt (tf x) (tf y) (tf x') L)) := by
        intro l L h1 h2 h3
        rw [h1] at r4
        rw [← sm_raw h3]
        exact pure_g1 (pure_ok (orc_ok SR1ok KGok) mixed Try.func32 r4 ⟨rfl, rfl, by rw [h2]; rfl, trivial⟩ rfl) rfl
      have h0 : sgB (toPt x y false) (toPt x' y' false) = false → PureOk Try.prog 32 [g1A x y false, g1A x' y' false] (g1V .inf) := fun h =>
        pure_g1 (pure_ok (orc_ok SR1ok KGok) mixed Try.func32 r3 ⟨rfl, rfl, by rw [h]; rfl, trivial⟩ rfl) (by kernel_rfl)
      show PureOk _ _ _ (g1V (Rg.add (.pt (tf x) (tf y)) (.pt (tf x') (tf y'))))
      rw [add_pt]
      change ∀ {l : Nat} {L : FP}, sgN (.pt (tf x) (tf y)) (.pt (tf x') (tf y')) = l → sgB (.pt (tf x) (tf y)) (.pt (tf x') (tf y')) = true → _ at hs
      change sgB (.pt (tf x) (tf y)) (.pt (tf x') (tf y')) = false → _ at h0
      generalize tf x = a at *
      generalize tf y = b at *
      generalize tf x' = c at *
      generalize tf y' = d at *
      by_cases hx : a = c
      · have hx' := decide_eq_true (ptX_eq (b := b) (d := d) |>.2 hx)
        rw [if_pos hx]
        by_cases hy : b = d
        · have hy' := decide_eq_true (ptY_eq (a := a) (c := c) |>.2 hy)
          by_cases hb : b = 0
          · rw [if_neg (fun h => h.2 hb)]
            refine h0 ?_
            unfold sgB
            rw [hx', hy', decide_eq_true (show ptY (.pt a b) = 0 from val_zero.2 hb)]; rfl
          · rw [if_pos ⟨hy, hb⟩]
            refine hs ?_ ?_ (tf_tgR a b)
            · unfold sgN
              rw [if_pos (ptX_eq.2 hx), if_pos ⟨ptY_eq.2 hy, fun h => hb (val_zero.1 h)⟩]; rfl
            · unfold sgB
              rw [hx', hy', decide_eq_false (show ¬ ptY (.pt a b) = 0 from fun h => hb (val_zero.1 h))]; rfl
        · rw [if_neg (fun h => hy h.1)]
          refine h0 ?_
          unfold sgB
          rw [hx', decide_eq_false (show ¬ ptY (.pt a b) = ptY (.pt c d) from fun h => hy (ptY_eq.1 h))]; rfl
      · rw [if_neg hx]
        refine hs ?_ ?_ (tf_chL a b c d)
        · unfold sgN
          rw [if_neg (fun h => hx (ptX_eq.1 h))]; rfl
        · unfold sgB
          rw [decide_eq_false (show ¬ ptX (.pt a b) = ptX (.pt c d) from fun h => hx (ptX_eq.1 h))]; rfl

/- twice -/
def sD (x y : Nat) : Nat := mulN 4 (mulN x (mulN y y))
def sE (x : Nat) : Nat := mulN 3 (mulN x x)
def sX (x y : Nat) : Nat := subN (mulN (sE x) (sE x)) (addN (sD x y) (sD x y))
def sY (x y : Nat) : Nat := subN (mulN (sE x) (subN (sD x y) (sX x y))) (mulN 8 (mulN (mulN y y) (mulN y y)))
theorem rtw_run (x y z : Nat) : pureRun Try.prog (orc SR1 KG) Try.f63 [f3A x y z] [] 500 = some ([], f3A (sX x y) (sY x y) (mulN 2 (mulN y z))) := by kernel_rfl
theorem tf_sD (x y : Nat) : tf (sD x y) = jD (tf x) (tf y) := by unfold sD jD; rw [tf_mulN, tf_mulN, tf_mulN, tf_k4]; grind
theorem tf_sE (x : Nat) : tf (sE x) = jE (tf x) := by unfold sE jE; rw [tf_mulN, tf_mulN, tf_k3]; grind
theorem tf_sX (x y : Nat) : tf (sX x y) = jX (tf x) (tf y) := by unfold sX jX; rw [tf_subN, tf_mulN, tf_addN, tf_sD, tf_sE]
theorem tf_s8 (y : Nat) : tf (mulN 8 (mulN (mulN y y) (mulN y y))) = jC8 (tf y) := by unfold jC8 jC4 jC2; rw [tf_mulN, tf_mulN, tf_mulN, tf_k8]; grind
theorem rtw_ok (x y z : Nat) : PureOk Try.prog 63 [f3A x y z] (f3V (twJ (toJ x y z))) := by
  rw [← f3V_mk (j := twJ (toJ x y z)) (x := sX x y) (y := sY x y) (z := mulN 2 (mulN y z)) (subN_lt _ _) (subN_lt _ _) (mulN_lt _ _) (tf_sX x y) (by unfold sY; rw [tf_subN, tf_mulN, tf_subN, tf_sX, tf_sD, tf_sE, tf_s8]; rfl)
    (by rw [tf_mulN, tf_mulN, tf_k2]; show _ = tf y * tf z + tf y * tf z; grind)]
  exact pure_ok (orc_ok SR1ok KGok) mixed Try.func63 (rtw_run x y z) trivial rfl
noncomputable def SR2 : List (FuncId × ASpec) := (32, pureSpec (spGG fun P Q => g1V (Rg.add P Q))) :: (63, pureSpec (spF fun j => f3V (twJ j))) :: SR1
theorem SR2ok : SpecsOk Try.prog SR2 := ⟨pureSpec_ok Try.func32 (by kernel_rfl) (by kernel_rfl) (spGG_ok radd12_ok), pureSpec_ok Try.func63 (by kernel_rfl) (by kernel_rfl) (spF_ok rtw_ok), SR1ok⟩
/- plus -/
section
variable (x y z a b : Nat) (i : Bool)
theorem rpl_1 : pureRun Try.prog (orc SR2 KG) Try.f64 [f3A x y z, g1A a b i] [true] 500 = some ([(decide (z = 0), true)], .val true (.num 6 a :: .num 6 b :: one6)) := by kernel_rfl
theorem rpl_2 : pureRun Try.prog (orc SR2 KG) Try.f64 [f3A x y z, g1A a b i] [false, true, true] 500 = some ([(decide (z = 0), false), (decide (nH x z a = 0), true), (decide (nR y z b = 0), true)], f3V (twJ (toJ x y z))) := by kernel_rfl
theorem rpl_3 : pureRun Try.prog (orc SR2 KG) Try.f64 [f3A x y z, g1A a b i] [false, true, false] 500 = some ([(decide (z = 0), false), (decide (nH x z a = 0), true), (decide (nR y z b = 0), false)], .val true (List.replicate 18 (.n .u64 0))) := by kernel_rfl
theorem rpl_4 : pureRun Try.prog (orc SR2 KG) Try.f64 [f3A x y z, g1A a b i] [false, false] 500 = some ([(decide (z = 0), false), (decide (nH x z a = 0), false)], f3A (nPX x (nH x z a) (nR y z b)) (nPY x y (nH x z a) (nR y z b)) (mulN z (nH x z a))) := by kernel_rfl
end
theorem rpl_ok {x y z a b : Nat} {i : Bool} (hz : z < pN) (ha : a < pN) (hb : b < pN) : PureOk Try.prog 64 [f3A x y z, g1A a b i] (f3V (plJ (toJ x y z) (tf a) (tf b))) := by
  have eh := tf_nH x y z a
  have er := tf_nR x y z b
  have zh := tf_z0 (n := nH x z a) (subN_lt _ _)
  have zr := tf_z0 (n := nR y z b) (subN_lt _ _)
  rw [eh] at zh
  rw [er] at zr
  unfold plJ
  by_cases h0 : z = 0
  · rw [if_pos (show (toJ x y z).z = 0 from (tf_z0 hz).1 h0), ← f3V_mk (j := ⟨tf a, tf b, 1⟩) ha hb (show 1 < pN by decide) rfl rfl tf_one]
    exact pure_f3 (pure_ok (orc_ok SR2ok KGok) mixed Try.func64 (rpl_1 x y z a b i) ⟨decide_eq_true h0, trivial⟩ rfl) rfl
  · rw [if_neg (show ¬ (toJ x y z).z = 0 from fun e => h0 ((tf_z0 hz).2 e))]
    by_cases hh : nH x z a = 0
    · rw [if_pos (zh.1 hh)]
      by_cases hr : nR y z b = 0
      · rw [if_pos (zr.1 hr)]
        exact pure_ok (orc_ok SR2ok KGok) mixed Try.func64 (rpl_2 x y z a b i) ⟨decide_eq_false h0, decide_eq_true hh, decide_eq_true hr, trivial⟩ rfl
      · rw [if_neg (fun e => hr (zr.2 e)), ← f3V_mk (j := ⟨0, 0, 0⟩) pN_pos pN_pos pN_pos tf_zero tf_zero tf_zero]
        exact pure_f3 (pure_ok (orc_ok SR2ok KGok) mixed Try.func64 (rpl_3 x y z a b i) ⟨decide_eq_false h0, decide_eq_true hh, decide_eq_false hr, trivial⟩ rfl) (by kernel_rfl)
    · rw [if_neg (fun e => hh (zh.2 e)), ← f3V_mk (j := ⟨pX (toJ x y z).x (pH (toJ x y z) (tf a)) (pR (toJ x y z) (tf b)), pY (toJ x y z).x (toJ x y z).y (pH (toJ x y z) (tf a)) (pR (toJ x y z) (tf b)), (toJ x y z).z * pH (toJ x y z) (tf a)⟩)
        (x := nPX x (nH x z a) (nR y z b)) (y := nPY x y (nH x z a) (nR y z b)) (z := mulN z (nH x z a)) (subN_lt _ _) (subN_lt _ _) (mulN_lt _ _) ?_ ?_ ?_]
      · exact pure_ok (orc_ok SR2ok KGok) mixed Try.func64 (rpl_4 x y z a b i) ⟨decide_eq_false h0, decide_eq_false hh, trivial⟩ rfl
      · unfold nPX pX; simp only [tf_subN, tf_mulN, tf_addN, eh, er]; rfl
      · unfold nPY nPX pY pX; simp only [tf_subN, tf_mulN, tf_addN, eh, er]; rfl
      · rw [tf_mulN, eh]; rfl
theorem plSp_gen {f : FuncId} (h : ∀ (x y z a b : Nat) (i : Bool), z < pN → a < pN → b < pN → PureOk Try.prog f [f3A x y z, g1A a b i] (f3V (plJ (toJ x y z) (tf a) (tf b)))) : ∀ args c v, plSp args = some (c, v) → okConds c → PureOk Try.prog f args v := by
  intro args c v hs hc us w ha
  unfold plSp at hs
  split at hs
  case h_2 => cases hs
  rename_i a b
  split at hs
  case h_2 => cases hs
  rename_i x y z p q i hx hy
  injection hs with hs; injection hs with h1 h2; subst h1; subst h2
  obtain ⟨u1, us1, r1, ⟨u2, us2, r2, ha, rfl⟩, rfl⟩ := ha
  exact h x y z p q i (of_decide_eq_true hc.1) (of_decide_eq_true hc.2.1) (of_decide_eq_true hc.2.2.1) _ w ⟨u1, _, asF3_rel hx r1, ⟨u2, _, (asG1_rel hy r2).1, ha, rfl⟩, rfl⟩
noncomputable def SR3 : List (FuncId × ASpec) := (64, condSpec plSp) :: SR2
theorem SR3ok : SpecsOk Try.prog SR3 := ⟨condSpec_ok Try.func64 (by kernel_rfl) (by kernel_rfl) (plSp_gen fun _ _ _ _ _ _ => rpl_ok), SR2ok⟩
end Go.Proofs.Ytccmbnbphianbaa
/- sigillaw12: none, awake. -/
namespace Go.Proofs.Ytccmbnbphianbaa
open Ex Num Rg
set_option maxRecDepth 100000

def eqP (P Q : Pt FP) : Bool := decide (ptX P = ptX Q) && (decide (ptY P = ptY Q) && (ptI P == ptI Q))
theorem eqP_rfl (P : Pt FP) : eqP P P = true := by
  unfold eqP
  rw [decide_eq_true rfl, decide_eq_true rfl]
  cases ptI P <;> rfl
theorem eqP_of {P Q : Pt FP} (h : P = Q) : eqP P Q = true := by rw [h]; exact eqP_rfl Q
theorem eqP_eq {P Q : Pt FP} (h : eqP P Q = true) : P = Q := by
  unfold eqP at h
  simp only [Bool.and_eq_true, decide_eq_true_eq, beq_iff_eq] at h
  rw [← toPt_of P, ← toPt_of Q, h.1, h.2.1, h.2.2]
theorem none12_run : pureRun Try.prog (orc SR3 KG) Try.f29 [] [] 100 = some ([], .val true (zero12 true)) := by kernel_rfl
theorem none12_ok : PureOk Try.prog 29 [] (g1V .inf) := pure_g1 (pure_ok (orc_ok SR3ok KGok) mixed Try.func29 none12_run trivial rfl) (by kernel_rfl)
noncomputable def SN : List (FuncId × ASpec) := (29, pureSpec fun args => match args with | [] => some (g1V .inf) | _ => none) :: SR3
theorem SNok : SpecsOk Try.prog SN := ⟨pureSpec_ok Try.func29 (by kernel_rfl) (by kernel_rfl) (sp0_ok none12_ok fun u h => h), SR3ok⟩
noncomputable def aw12C : List (Bool × Bool) := [(true, true), (true, true), (true, true), (true, true), (onP (toPt' G1B), true), (!onP (toPt 0 0 false), true), (onP (toPt' .inf), true), (eqP (add (toPt' G1B) (toPt' (neg (toPt' G1B)))) .inf, true),
  (eqP (add (toPt' G1B) (toPt' G1B)) (mulP (natL (win [2] 0 1)) (toPt' G1B)), true), (decide (mulE (toPt' G1B) = 0), true)]
theorem aw12_run : pureRun Try.prog (orc SN KG) Try.f11 [] [true, true, true, true, true, true] 500 = some (aw12C, boolA (decide (mulE (toPt 0 0 false) = 120))) := by kernel_rfl
theorem on_G1B : onP G1B = true := (on_eqN gX gY).symm.trans (by kernel_rfl)
theorem on_00 : onP (toPt 0 0 false) = false := (on_eqN 0 0).symm.trans (by kernel_rfl)
theorem add_neg_any (P : Pt FP) : add P (neg P) = .inf := by
  cases P with
  | inf => rfl
  | pt a b =>
    show add (.pt a b) (.pt a (-b)) = .inf
    rw [add_pt, if_pos rfl, if_neg]
    rintro ⟨h1, h2⟩
    refine two_ne C1 h2 ?_
    have h3 : b + b = b + -b := congrArg (fun t => b + t) h1
    rw [h3]
    grind
theorem aw12_ok : PureOk Try.prog 11 [] (.val false [.b true]) := by
  have hP := (onP_iff G1B).1 on_G1B
  refine bool_true (pure_ok (orc_ok SNok KGok) mixed Try.func11 aw12_run ⟨rfl, rfl, rfl, rfl, ?_, ?_, rfl, eqP_of ?_, eqP_of ?_, decide_eq_true ?_, trivial⟩ rfl) (decide_eq_true ?_)
  · rw [toPt'_eq]; exact on_G1B
  · rw [on_00]; rfl
  · rw [toPt'_eq, toPt'_eq]; exact add_neg_any _
  · rw [toPt'_eq]
    unfold mulP
    rw [if_pos on_G1B]; rfl
  · rw [toPt'_eq]; unfold mulE; rw [if_pos on_G1B]
  · unfold mulE; rw [if_neg (by rw [on_00]; exact Bool.false_ne_true)]
def yes12 : List AV → Option AV
  | [] => some (.val false [.b true])
  | _ => none
noncomputable def SA12 : List (FuncId × ASpec) := (11, pureSpec yes12) :: SN
theorem SA12ok : SpecsOk Try.prog SA12 := ⟨pureSpec_ok Try.func11 (by kernel_rfl) (by kernel_rfl) (sp0_ok aw12_ok fun u h => h), SNok⟩
end Go.Proofs.Ytccmbnbphianbaa
/- sigilref12.Mul: the contract. -/
namespace Go.Proofs.Ytccmbnbphianbaa
open Ex Num Rg
set_option maxRecDepth 100000

noncomputable def qmTodo : List Item := todoOf (aSeg Try.prog (orc SR3 KG) (some 0) 500 1 none (entry Try.f31 [slA 0 0 0 0, g1A 0 0 false] (seqH []) 1 [false, false]))
noncomputable def qmT (off n m : Nat) (i : Int) : List AV := .val false [.sl 0 off n m] :: .any :: .any :: .val false [.p 1 0] :: .val false [.p 2 0] :: .val false [.n .i64 0] :: .any :: .val false [.p 3 0] :: .val false [.p 4 0] :: .val false [.v (.int .i64 i)] :: List.replicate (Try.f31.ntmps - 10) .any
noncomputable def qmH (xs : List Int) (x y : Nat) (b : Bool) (P : Pt FP) : Heap := [(0, some (roB [.seq .u64 xs])), (1, some ⟨30, [.num 6 x, .num 6 y, .v (.bool b)], false⟩), (2, some ⟨30, zero12 false, false⟩), (3, some ⟨30, [.num 6 (ptX P), .num 6 (ptY P), .v (.bool (ptI P))], false⟩)]
noncomputable def qmS (x y : Nat) (b : Bool) (off n m : Nat) (xs : List Int) (P : Pt FP) (out : List Ch) (i : Int) (path : List Bool) : ASt := ⟨qmTodo, ⟨qmT off n m i, List.append (qmH xs x y b P) [(4, some ⟨82, out, false⟩)], 5, path⟩⟩
theorem qm_entry (x y : Nat) (i : Bool) (off n m : Nat) (xs : List Int) : aSeg Try.prog (orc SR3 KG) (some 0) 500 1 (some ([0, 3, 4, 5, 7, 8, 9], [0, 1, 2, 3, 4], 5)) (entry Try.f31 (gmArgs x y i off n m) (seqH xs) 1 [false, false]) =
  some ([(!onP (toPt x y i), false), (i, false), (hasB .i64 n, true)], [], qmS x y i off n m xs (toPt x y i) zero18 (wI (wI (64 * (n : Int)) - 1)) []) := by kernel_rfl
theorem qm_off (x y : Nat) (i : Bool) (off n m : Nat) (xs : List Int) : segOut Try.prog (orc SR3 KG) Try.f31 500 1 [] (entry Try.f31 (gmArgs x y i off n m) (seqH xs) 1 [true]) =
  some ([(!onP (toPt x y i), true)], [], .tup [(true, zero12 false), (false, [.n .i64 120])], []) := by kernel_rfl
theorem qm_inf (x y : Nat) (i : Bool) (off n m : Nat) (xs : List Int) : segOut Try.prog (orc SR3 KG) Try.f31 500 1 [] (entry Try.f31 (gmArgs x y i off n m) (seqH xs) 1 [false, true]) =
  some ([(!onP (toPt x y i), false), (i, true)], [], .tup [(true, zero12 true), (false, [.n .i64 0])], []) := by kernel_rfl
def qmC (off n : Nat) (xs : List Int) (i : Int) (bit : Bool) (r : List (Bool × Bool)) : List (Bool × Bool) := (decide (0 ≤ i), true) :: (true, true) :: (decide (0 ≤ wI (Int.tdiv i 64) ∧ wI (Int.tdiv i 64) < n), true) ::
  (decide (off + (wI (Int.tdiv i 64)).toNat * 1 < xs.length), true) :: (decide (0 ≤ i ∧ (0 : Int) < 64), true) :: (decide (0 ≤ wrapc false .u64 (Int.tmod i 64) ∧ 0 ≤ powW xs off i), true) :: (decide (rpB xs off i = 1), bit) :: r
section
variable (x y : Nat) (b : Bool) (off n m : Nat) (xs : List Int) (P : Pt FP) (j : J FP) (i : Int)
theorem qm_zero : aSeg Try.prog (orc SR3 KG) (some 0) 500 1 (some ([0, 3, 4, 5, 7, 8, 9], [0, 1, 2, 3, 4], 5)) (qmS x y b off n m xs P (jC j) i [true, false]) =
  some (qmC off n xs i false [], [], qmS x y b off n m xs P (jC (twJ (toJ' j))) (wI (i - 1)) []) := by kernel_rfl
theorem qm_one : aSeg Try.prog (orc SR3 KG) (some 0) 500 1 (some ([0, 3, 4, 5, 7, 8, 9], [0, 1, 2, 3, 4], 5)) (qmS x y b off n m xs P (jC j) i [true, true]) =
  some (qmC off n xs i true [(decide ((twJ (toJ' j)).z.val < pN), true), (decide (ptX P < pN), true), (decide (ptY P < pN), true)], [], qmS x y b off n m xs P (jC (plP j P)) (wI (i - 1)) []) := by kernel_rfl
theorem qm_exit0 : segOut Try.prog (orc SR3 KG) Try.f31 500 1 [] (qmS x y b off n m xs P (jC j) i [false, true]) =
  some ([(decide (0 ≤ i), false), (decide (j.z.val = 0), true)], [], .tup [(true, zero12 true), (false, [.n .i64 0])], []) := by kernel_rfl
theorem qm_exit1 : segOut Try.prog (orc SR3 KG) Try.f31 500 1 [] (qmS x y b off n m xs P (jC j) i [false, false]) =
  some ([(decide (0 ≤ i), false), (decide (j.z.val = 0), false)], [], .tup [(true, [.num 6 (mulN j.x.val (mulN (invN j.z.val) (invN j.z.val))), .num 6 (mulN j.y.val (mulN (mulN (invN j.z.val) (invN j.z.val)) (invN j.z.val))), .b false]), (false, [.n .i64 0])], []) := by kernel_rfl
end
theorem qm_wf (x y : Nat) (b : Bool) (off n m : Nat) (xs : List Int) (P : Pt FP) (j : J FP) (i : Int) (p : List Bool) : wfSt Try.f31.ntmps (qmS x y b off n m xs P (jC j) i p).s := wfB_ok (by kernel_rfl)
def qmV (Q : Pt FP) : AV := match Q with
  | .inf => .tup [(true, zero12 true), (false, [.n .i64 0])]
  | .pt a b => .tup [(true, [.num 6 a.val, .num 6 b.val, .b false]), (false, [.n .i64 0])]
section
variable {off n m : Nat} {xs : List Int} (hall : ∀ d ∈ xs, 0 ≤ d ∧ d < 18446744073709551616) (hlen : off + n ≤ xs.length) (hn : n ≤ 1125899906842624) {x y : Nat} {b : Bool} {P : Pt FP} (hP : Rg.On C1.b P) (hI : ptI P = false) {β0 : Env} {w0 : World} (hb : ∀ b, 1 ≤ b → β0 b = none)
include hall hlen hn hb hP hI
theorem qm_safe : ∀ (c : Nat) (j : J FP), accJ P (natL (win xs off n)) c j → c ≤ 64 * n → ASafe Try.prog 31 β0 w0 (Outs β0 w0 [] (qmV (smul (natL (win xs off n)) P)) []) Try.f31.ntmps [] (qmS x y b off n m xs P (jC j) ((c : Int) - 1) []) := by
  intro c
  induction c with
  | zero =>
    intro j hj _
    unfold accJ at hj
    rw [Nat.pow_zero, Nat.div_one] at hj
    rw [← hj]
    by_cases h0 : j.z.val = 0
    · have hz : j.z = 0 := val_zero.1 h0
      rw [ptJ_zero hz]
      exact path_safe [false, true] (out_safe (orc_ok SR3ok KGok) mixed Try.func31 (qm_exit0 ..) ⟨rfl, decide_eq_true h0, trivial⟩ (qm_wf ..) hb (fun _ h => by cases h))
    · have hz : j.z ≠ 0 := fun e => h0 (val_zero.2 e)
      rw [ptJ_ne hz]
      have e : qmV (.pt (j.x * (FD.inv j.z * FD.inv j.z)) (j.y * ((FD.inv j.z * FD.inv j.z) * FD.inv j.z))) = .tup [(true, [.num 6 (mulN j.x.val (mulN (invN j.z.val) (invN j.z.val))), .num 6 (mulN j.y.val (mulN (mulN (invN j.z.val) (invN j.z.val)) (invN j.z.val))), .b false]), (false, [.n .i64 0])] := by
        have ei : tf (invN j.z.val) = FD.inv j.z := by rw [tf_inv j.z.isLt, tf_val]; rfl
        have e1 : mulN j.x.val (mulN (invN j.z.val) (invN j.z.val)) = (j.x * (FD.inv j.z * FD.inv j.z) : FP).val := tf_lt (mulN_lt _ _) (Fin.isLt _) (by rw [tf_mulN, tf_mulN, ei, tf_val, tf_val])
        have e2 : mulN j.y.val (mulN (mulN (invN j.z.val) (invN j.z.val)) (invN j.z.val)) = (j.y * ((FD.inv j.z * FD.inv j.z) * FD.inv j.z) : FP).val := tf_lt (mulN_lt _ _) (Fin.isLt _) (by rw [tf_mulN, tf_mulN, tf_mulN, ei, tf_val, tf_val])
        rw [e1, e2]; rfl
      rw [e]
      exact path_safe [false, false] (out_safe (orc_ok SR3ok KGok) mixed Try.func31 (qm_exit1 ..) ⟨rfl, decide_eq_false h0, trivial⟩ (qm_wf ..) hb (fun _ h => by cases h))
  | succ c ih =>
    intro j hj hc
    have hi : ((c + 1 : Nat) : Int) - 1 = (c : Int) := by omega
    rw [hi]
    have hlt : ∀ d ∈ win xs off n, 0 ≤ d ∧ d < 18446744073709551616 := win_has hall
    have hq : Int.tdiv (c : Int) 64 = ((c / 64 : Nat) : Int) := by rw [Int.tdiv_eq_ediv_of_nonneg (by omega)]; rfl
    have hr : Int.tmod (c : Int) 64 = ((c % 64 : Nat) : Int) := by rw [Int.tmod_eq_emod_of_nonneg (by omega)]; rfl
    have hw : wI (Int.tdiv (c : Int) 64) = ((c / 64 : Nat) : Int) := by rw [hq]; exact wI_eq (by omega)
    have hjn : c / 64 < n := by omega
    have hv : powW xs off c = (win xs off n).getD (c / 64) 0 := by
      unfold powW
      rw [hw, Int.toNat_natCast, Nat.mul_one]
      exact (bit_word hjn).symm
    have hvb : 0 ≤ powW xs off c ∧ powW xs off c < 18446744073709551616 := by
      rw [hv, List.getD_eq_getElem?_getD]
      cases h : (win xs off n)[c / 64]? with
      | none => simp
      | some d => exact hlt d (List.mem_of_getElem? h)
    obtain ⟨hq1, hq2⟩ := rpB_eq xs off c
    have hbit : rpB xs off c = ((natL (win xs off n) / 2 ^ c % 2 : Nat) : Int) := by
      rw [hq1]
      obtain ⟨V, hV⟩ := Int.eq_ofNat_of_zero_le hvb.1
      rw [hr, ← natL_bit _ c hlt, ← hv, hV, Int.toNat_natCast]
      exact bitI_eq V _ (by omega) (by omega)
    have hnext : wI ((c : Int) - 1) = (c : Int) - 1 := wI_eq (by omega)
    have hconds : ∀ bit r, decide (rpB xs off c = 1) = bit → okConds r → okConds (qmC off n xs c bit r) := by
      intro bit r hbt hr'
      refine ⟨by simp, rfl, ?_, ?_, ?_, ?_, hbt, hr'⟩
      · rw [hw]; simp; omega
      · rw [hw]; simp; omega
      · simp
      · simp only [decide_eq_true_eq]; rw [hq2, hr]; exact ⟨by omega, hvb.1⟩
    have hdiv : natL (win xs off n) / 2 ^ c = 2 * (natL (win xs off n) / 2 ^ (c + 1)) + natL (win xs off n) / 2 ^ c % 2 := by
      rw [Nat.pow_succ, ← Nat.div_div_eq_div_mul]; omega
    unfold accJ at hj
    have hoj : Rg.On C1.b (ptJ j) := by rw [hj]; exact on_smul C1 hP _
    have htw : ptJ (twJ (toJ' j)) = smul (2 * (natL (win xs off n) / 2 ^ (c + 1))) P := by
      rw [toJ'_eq, ptJ_tw C1 hoj, hj, ← smul_add C1 hP, Nat.two_mul]
    rcases Nat.mod_two_eq_zero_or_one (natL (win xs off n) / 2 ^ c) with h0 | h1
    · refine path_safe [true, false] (seg_safe (orc_ok SR3ok KGok) mixed (qm_zero ..) (hconds false [] (by rw [hbit, h0]; rfl) trivial) (qm_wf ..) hb (fun _ h => by cases h) fun _ => ?_)
      rw [hnext]
      refine ih _ ?_ (by omega)
      unfold accJ
      rw [htw, hdiv, h0]; rfl
    · refine path_safe [true, true] (seg_safe (orc_ok SR3ok KGok) mixed (qm_one ..) (hconds true _ (by rw [hbit, h1]; rfl) ⟨decide_eq_true (twJ (toJ' j)).z.isLt, decide_eq_true (ptX_lt P), decide_eq_true (ptY_lt P), trivial⟩) (qm_wf ..) hb (fun _ h => by cases h) fun _ => ?_)
      rw [hnext]
      refine ih _ ?_ (by omega)
      unfold accJ plP
      rw [toJ'_eq (twJ (toJ' j)), ptJ_pl C1 (by rw [htw]; exact on_smul C1 hP _), htw, hdiv, h1]
      cases P with
      | inf => cases hI
      | pt a b =>
        show add _ (.pt (tf a.val) (tf b.val)) = _
        rw [tf_val, tf_val]; rfl
end
theorem qmV_A {β : Env} {Q : Pt FP} {u : Value} (h : relA β (qmV Q) u) : relA β (gmA Q 0) u := by
  cases Q with
  | inf => exact relT2 (fun _ q => (asG1_rel (x := 0) (y := 0) (i := true) (by kernel_rfl) q).1) (fun _ q => gval rfl q) h
  | pt a b => exact relT2 (fun _ q => (asG1_rel (x := a.val) (y := b.val) (i := false) rfl q).1) (fun _ q => gval rfl q) h
theorem qm_can {off n m : Nat} {xs : List Int} (hall : ∀ d ∈ xs, 0 ≤ d ∧ d < 18446744073709551616) (hlen : off + n ≤ xs.length) (hn : n ≤ 1125899906842624) (x y : Nat) (i : Bool) :
    CanOk Try.prog 31 (gmArgs x y i off n m) (seqH xs) 1 [] (gmA (mulP (natL (win xs off n)) (toPt x y i)) (mulE (toPt x y i))) [] := by
  have e1 := qm_entry x y i off n m xs
  have e2 := qm_off x y i off n m xs
  have e3 := qm_inf x y i off n m xs
  cases ho : onP (toPt x y i) with
  | false =>
    unfold mulP mulE
    rw [if_neg (by rw [ho]; exact Bool.false_ne_true), if_neg (by rw [ho]; exact Bool.false_ne_true)]
    refine can_val (can_entry (path := [true]) Try.func31 (by kernel_rfl) (by kernel_rfl) fun β0 w0 hb =>
      out_safe (orc_ok SR3ok KGok) mixed Try.func31 e2 ⟨by rw [ho]; rfl, trivial⟩ (wfB_ok (by kernel_rfl)) hb (fun _ h => by cases h)) fun β u hu => ?_
    exact relT2 (fun _ q => (asG1_rel (x := 0) (y := 0) (i := false) (by kernel_rfl) q).1) (fun _ q => gval rfl q) hu
  | true =>
    have hP := (onP_iff _).1 ho
    unfold mulP mulE
    rw [if_pos ho, if_pos ho]
    cases i with
    | true =>
      rw [show toPt x y true = .inf from rfl, smul_inf]
      exact can_val (can_entry (path := [false, true]) Try.func31 (by kernel_rfl) (by kernel_rfl) fun β0 w0 hb =>
        out_safe (orc_ok SR3ok KGok) mixed Try.func31 e3 ⟨by rw [ho]; rfl, rfl, trivial⟩ (wfB_ok (by kernel_rfl)) hb (fun _ h => by cases h)) fun β u hu => qmV_A (Q := .inf) hu
    | false =>
      refine can_val (can_entry (path := [false, false]) Try.func31 (by kernel_rfl) (by kernel_rfl) fun β0 w0 hb => ?_) fun β u hu => qmV_A hu
      refine seg_safe (orc_ok SR3ok KGok) mixed e1 ⟨by rw [ho]; rfl, rfl, ?_, trivial⟩ (wfB_ok (by kernel_rfl)) hb (fun _ h => by cases h) fun _ => ?_
      · simp only [hasB, Bool.and_eq_true, decide_eq_true_eq]; omega
      · have e4 : wI (wI (64 * (n : Int)) - 1) = ((64 * n : Nat) : Int) - 1 := by
          rw [wI_eq (z := 64 * (n : Int)) (by omega), wI_eq (by omega)]; omega
        rw [e4]
        refine heap_safe zero18_rel (qm_safe hall hlen hn hP rfl hb (64 * n) ⟨0, 0, 0⟩ ?_ (Nat.le_refl _))
        unfold accJ
        have hl := natL_lt (win xs off n) (win_has hall)
        have hl2 : natL (win xs off n) < 2 ^ (64 * n) := by
          unfold win at hl ⊢
          rwa [List.length_take, List.length_drop, Nat.min_eq_left (by omega)] at hl
        rw [ptJ_zero rfl, Nat.div_eq_of_lt hl2]; rfl
noncomputable def SR4 : List (FuncId × ASpec) := (31, nilSpec (wgSp fun l P => gmA (mulP (natL l) P) (mulE P))) :: SA12
theorem SR4ok : SpecsOk Try.prog SR4 := ⟨nilSpec_ok (wgSp_ok Try.func31 (by kernel_rfl) (by kernel_rfl) (fun _ _ => by kernel_rfl) fun _ _ _ _ x y i hx hl hn => qm_can hx hl hn x y i), SA12ok⟩
end Go.Proofs.Ytccmbnbphianbaa
/- No word at all: g1.Mul, sigilref12.Mul of an empty list, wherever it lies. -/
namespace Go.Proofs.Ytccmbnbphianbaa
open Ex Num Rg
set_option maxRecDepth 100000

def emA (oa : Option Addr) (m x y : Nat) (i : Bool) : List AV := [.val false [.v (.slice oa 0 m)], g1A x y i]
section
variable (oa : Option Addr) (m x y : Nat) (i : Bool)
theorem em_1 : pureRun Try.prog (orc SG3 KG) Try.f27 (emA oa m x y i) [true] 500 = some ([(!onP (toPt' (toPt x y i)), true)], .tup [(true, zero12 false), (false, [.n .i64 120])]) := by kernel_rfl
theorem em_2 : pureRun Try.prog (orc SG3 KG) Try.f27 (emA oa m x y i) [false, true] 500 = some ([(!onP (toPt' (toPt x y i)), false), (ptI (toPt x y i), true)], gmN (toPt x y i) 0) := by kernel_rfl
theorem em_3 : pureRun Try.prog (orc SG3 KG) Try.f27 (emA oa m x y i) [false, false, false] 500 = some ([(!onP (toPt' (toPt x y i)), false), (ptI (toPt x y i), false), (true, true), (false, false), (decide (0 < pN), true)], gmN (ptJ (toJ 0 0 0)) 0) := by kernel_rfl
theorem rem_1 : pureRun Try.prog (orc SR3 KG) Try.f31 (emA oa m x y i) [true] 500 = some ([(!onP (toPt x y i), true)], .tup [(true, zero12 false), (false, [.n .i64 120])]) := by kernel_rfl
theorem rem_2 : pureRun Try.prog (orc SR3 KG) Try.f31 (emA oa m x y i) [false, true] 500 = some ([(!onP (toPt x y i), false), (i, true)], .tup [(true, zero12 true), (false, [.n .i64 0])]) := by kernel_rfl
theorem rem_3 : pureRun Try.prog (orc SR3 KG) Try.f31 (emA oa m x y i) [false, false, false, true] 500 = some ([(!onP (toPt x y i), false), (i, false), (true, true), (false, false), (decide ((0 : Nat) = 0), true)], .tup [(true, zero12 true), (false, [.n .i64 0])]) := by kernel_rfl
theorem em_ok : PureOk Try.prog 27 (emA oa m x y i) (gmA (mulP 0 (toPt x y i)) (mulE (toPt x y i))) := by
  have e1 := em_1 oa m x y i
  have e2 := em_2 oa m x y i
  have e3 := em_3 oa m x y i
  rw [toPt'_eq] at e1 e2 e3
  generalize toPt x y i = P at *
  unfold mulP mulE
  cases ho : onP P with
  | false =>
    rw [if_neg Bool.false_ne_true, if_neg Bool.false_ne_true]
    exact pure_val (pure_ok (orc_ok SG3ok KGok) mixed Try.func27 e1 ⟨by rw [ho]; rfl, trivial⟩ rfl) fun u hu => relT2 (fun _ q => (asG1_rel (x := 0) (y := 0) (i := false) (by kernel_rfl) q).1) (fun _ q => gval rfl q) hu
  | true =>
    rw [if_pos rfl, if_pos rfl]
    cases hI : ptI P with
    | true =>
      have hp : P = .inf := by cases P with | inf => rfl | pt a b => cases hI
      exact pure_val (pure_ok (orc_ok SG3ok KGok) mixed Try.func27 e2 ⟨by rw [ho]; rfl, hI, trivial⟩ rfl) fun u hu => by rw [hp] at hu; exact gmN_A hu
    | false =>
      have hz : ptJ (toJ 0 0 0) = .inf := ptJ_zero tf_zero
      exact pure_val (pure_ok (orc_ok SG3ok KGok) mixed Try.func27 e3 ⟨by rw [ho]; rfl, hI, rfl, rfl, decide_eq_true pN_pos, trivial⟩ rfl) fun u hu => by rw [hz] at hu; exact gmN_A hu
theorem rem_ok : PureOk Try.prog 31 (emA oa m x y i) (gmA (mulP 0 (toPt x y i)) (mulE (toPt x y i))) := by
  have e1 := rem_1 oa m x y i
  have e2 := rem_2 oa m x y i
  have e3 := rem_3 oa m x y i
  unfold mulP mulE
  have hz : ∀ u, relA noEnv (.tup [(true, zero12 true), (false, [.n .i64 0])]) u → relA noEnv (gmA (smul 0 (toPt x y i)) 0) u := fun u hu => relT2 (fun _ q => (asG1_rel (x := 0) (y := 0) (i := true) (by kernel_rfl) q).1) (fun _ q => gval rfl q) hu
  cases ho : onP (toPt x y i) with
  | false =>
    rw [if_neg Bool.false_ne_true, if_neg Bool.false_ne_true]
    exact pure_val (pure_ok (orc_ok SR3ok KGok) mixed Try.func31 e1 ⟨by rw [ho]; rfl, trivial⟩ rfl) fun u hu => relT2 (fun _ q => (asG1_rel (x := 0) (y := 0) (i := false) (by kernel_rfl) q).1) (fun _ q => gval rfl q) hu
  | true =>
    rw [if_pos rfl, if_pos rfl]
    by_cases hI : i = true
    · exact pure_val (pure_ok (orc_ok SR3ok KGok) mixed Try.func31 e2 ⟨by rw [ho]; rfl, hI, trivial⟩ rfl) hz
    · exact pure_val (pure_ok (orc_ok SR3ok KGok) mixed Try.func31 e3 ⟨by rw [ho]; rfl, by simpa using hI, rfl, rfl, rfl, trivial⟩ rfl) hz
end
noncomputable def emP : List AV → Option AV
  | [.val false [.v (.slice _ 0 _)], .val true a] => match asG1 a with
    | some (x, y, i) => some (gmA (mulP 0 (toPt x y i)) (mulE (toPt x y i)))
    | none => none
  | _ => none
theorem emP_ok {f : FuncId} (h : ∀ oa m x y i, PureOk Try.prog f (emA oa m x y i) (gmA (mulP 0 (toPt x y i)) (mulE (toPt x y i)))) : ∀ args v, emP args = some v → PureOk Try.prog f args v := by
  intro args v hs us w ha
  unfold emP at hs
  split at hs
  case h_2 => cases hs
  rename_i oa m a
  split at hs
  case h_2 => cases hs
  rename_i x y i hx
  injection hs with hs; subst hs
  obtain ⟨u1, us1, r1, ⟨u2, us2, r2, ha, rfl⟩, rfl⟩ := ha
  exact h oa m x y i _ w ⟨u1, _, r1, ⟨u2, _, (asG1_rel hx r2).1, ha, rfl⟩, rfl⟩
/-- A contract, and what holds of an empty list besides. -/
noncomputable def emSp (s : ASpec) : ASpec := fun args H fr path => match emP args with
  | some _ => pureSpec emP args H fr path
  | none => s args H fr path
theorem emSp_ok {f : FuncId} {s : ASpec} (h1 : SpecOk Try.prog f s) (h2 : SpecOk Try.prog f (pureSpec emP)) : SpecOk Try.prog f (emSp s) := by
  intro args H fr path r β us w hs
  unfold emSp at hs
  split at hs
  · exact h2 args H fr path r β us w hs
  · exact h1 args H fr path r β us w hs
noncomputable def STb : List (FuncId × ASpec) := (27, emSp (wgSp fun l P => gmA (mulP (natL l) P) (mulE P))) :: (31, emSp (wgSp fun l P => gmA (mulP (natL l) P) (mulE P))) :: SR4
theorem STbok : SpecsOk Try.prog STb := ⟨emSp_ok (wgSp_ok Try.func27 (by kernel_rfl) (by kernel_rfl) (fun _ _ => by kernel_rfl) fun _ _ _ _ x y i hx hl hn => gm_can hx hl hn x y i) (pureSpec_ok Try.func27 (by kernel_rfl) (by kernel_rfl) (emP_ok em_ok)), emSp_ok (wgSp_ok Try.func31 (by kernel_rfl) (by kernel_rfl) (fun _ _ => by kernel_rfl) fun _ _ _ _ x y i hx hl hn => qm_can hx hl hn x y i) (pureSpec_ok Try.func31 (by kernel_rfl) (by kernel_rfl) (emP_ok rem_ok)), SR4ok⟩
noncomputable def STc : List (FuncId × ASpec) := (12, inlSpec Try.prog (orc STb KG) Try.f12 1000) :: (13, inlSpec Try.prog (orc STb KG) Try.f13 1000) :: STb
theorem STcok : SpecsOk Try.prog STc := ⟨inl_ok (orc_ok STbok KGok) mixed Try.func12 (by kernel_rfl) (by kernel_rfl) 1000, inl_ok (orc_ok STbok KGok) mixed Try.func13 (by kernel_rfl) (by kernel_rfl) 1000, STbok⟩
noncomputable abbrev oTc : Orc := orc STc KG
theorem oTcok : OrcOk Try.prog oTc := orc_ok STcok KGok
end Go.Proofs.Ytccmbnbphianbaa
/- sigillaw12: G1Sums: the runs. -/
namespace Go.Proofs.Ytccmbnbphianbaa
open Ex Num Rg
set_option maxRecDepth 100000

noncomputable abbrev gsF : Func := Try.f3
noncomputable def suE (P : Pt FP) : Bool := eqP P P
theorem me_f {e : Int} (h : e = 0) : (!decide (e = 0)) = false := by rw [decide_eq_true h]; rfl
theorem me_t {e : Int} (h : ¬ e = 0) : (!decide (e = 0)) = true := by rw [decide_eq_false h]; rfl
theorem b_true {β : Env} {u : Value} (h : relA β (.val false [.b true]) u) : relA β (boolA true) u := by
  obtain ⟨l1, l2, h1, h2, h3⟩ := h
  exact ⟨l1, l2, ⟨h1, rfl, trivial⟩, h2, h3⟩
noncomputable def suN (n m n' m' : Nat) (rows : List Ch) (p : List Bool) : ASt := entry gsF [slA 0 0 n m, slA 1 0 n' m'] [(0, some (roB rows)), (1, some (roB []))] 2 p
noncomputable def suO (n m n' m' : Nat) (rows : List Ch) (p : List Bool) := segOut Try.prog oTc gsF 1200 2 [] (suN n m n' m' rows p)
def tB : AV := .val false [.b true]
section
variable (n m n' m' : Nat) (a0 a1 a2 : Option Addr) (n0 m0 n1 m1 n2 m2 : Nat)
theorem su_l1 : suO n m n' m' [] [true, true] = some ([(hasB .i64 n, true), (decide ((3 : Int) < n), true)], [], tB, []) := by kernel_rfl
theorem su_l2 : suO n m n' m' [] [false, true] = some ([(hasB .i64 n, true), (decide ((3 : Int) < n), false), (hasB .i64 n', true), (decide ((3 : Int) < n'), true)], [], tB, []) := by kernel_rfl
def suP (r : List (Bool × Bool)) : List (Bool × Bool) := (hasB .i64 n, true) :: (decide ((3 : Int) < n), false) :: (hasB .i64 n', true) :: (decide ((3 : Int) < n'), false) :: r
def suR (i : Int) (k : Nat) (b : Bool) (r : List (Bool × Bool)) : List (Bool × Bool) := (hasB .i64 n, true) :: (decide (i < n), true) :: (decide (0 ≤ i ∧ i < n), true) :: (hasB .i64 k, true) :: (decide ((1 : Int) < k), b) :: r
theorem su_b0 : suO n m n' m' [.v (.slice a0 n0 m0)] [false, false, true, true, true, true] = some (suP n n' (suR n 0 n0 true ([])), [], tB, []) := by kernel_rfl
theorem su_b1 : suO n m n' m' [.v (.slice a0 n0 m0), .v (.slice a1 n1 m1)] [false, false, true, false, true, true, true, true] = some (suP n n' (suR n 0 n0 false (suR n 1 n1 true ([]))), [], tB, []) := by kernel_rfl
theorem su_b2 : suO n m n' m' [.v (.slice a0 n0 m0), .v (.slice a1 n1 m1), .v (.slice a2 n2 m2)] [false, false, true, false, true, false, true, true, true, true] = some (suP n n' (suR n 0 n0 false (suR n 1 n1 false (suR n 2 n2 true ([])))), [], tB, []) := by kernel_rfl
theorem su_d0 : suO 0 m n' m' [] [false, false, false, true, true, true, true, true] = some ((true, true) :: (false, false) :: (hasB .i64 n', true) :: (decide ((3 : Int) < n'), false) :: (true, true) :: (false, false) :: (true, true) :: (hasB .i64 n', true) :: (!decide (((0 : Nat) : Int) = n'), true) :: (true, true) :: (hasB .i64 n', true) :: (!decide (((0 : Nat) : Int) = n'), true) :: (true, true) :: [], [], tB, []) := by kernel_rfl
theorem su_d1 : suO 1 m n' m' [.v (.slice a0 n0 m0)] [false, false, true, false, false, true, true, true, true, true] = some ((true, true) :: (false, false) :: (hasB .i64 n', true) :: (decide ((3 : Int) < n'), false) :: tt 3 ((hasB .i64 n0, true) :: (decide ((1 : Int) < n0), false) :: (true, true) :: (false, false) :: (true, true) :: (hasB .i64 n', true) :: (!decide (((1 : Nat) : Int) = n'), true) :: (true, true) :: (hasB .i64 n', true) :: (!decide (((1 : Nat) : Int) = n'), true) :: (true, true) :: []), [], tB, []) := by kernel_rfl
theorem su_d2 : suO 2 m n' m' [.v (.slice a0 n0 m0), .v (.slice a1 n1 m1)] [false, false, true, false, true, false, false, true, true, true, true, true] = some ((true, true) :: (false, false) :: (hasB .i64 n', true) :: (decide ((3 : Int) < n'), false) :: tt 3 ((hasB .i64 n0, true) :: (decide ((1 : Int) < n0), false) :: tt 3 ((hasB .i64 n1, true) :: (decide ((1 : Int) < n1), false) :: (true, true) :: (false, false) :: (true, true) :: (hasB .i64 n', true) :: (!decide (((2 : Nat) : Int) = n'), true) :: (true, true) :: (hasB .i64 n', true) :: (!decide (((2 : Nat) : Int) = n'), true) :: (true, true) :: [])), [], tB, []) := by kernel_rfl
theorem su_d3 : suO 3 m n' m' [.v (.slice a0 n0 m0), .v (.slice a1 n1 m1), .v (.slice a2 n2 m2)] [false, false, true, false, true, false, true, false, false, true, true, true, true, true] = some ((true, true) :: (false, false) :: (hasB .i64 n', true) :: (decide ((3 : Int) < n'), false) :: tt 3 ((hasB .i64 n0, true) :: (decide ((1 : Int) < n0), false) :: tt 3 ((hasB .i64 n1, true) :: (decide ((1 : Int) < n1), false) :: tt 3 ((hasB .i64 n2, true) :: (decide ((1 : Int) < n2), false) :: (true, true) :: (false, false) :: (true, true) :: (hasB .i64 n', true) :: (!decide (((3 : Nat) : Int) = n'), true) :: (true, true) :: (hasB .i64 n', true) :: (!decide (((3 : Nat) : Int) = n'), true) :: (true, true) :: []))), [], tB, []) := by kernel_rfl
end
theorem su_z_n (M M' : Nat)  : segOut Try.prog oTc gsF 1200 2 [] (entry gsF [slA 0 0 0 M, slA 1 0 0 M'] [(0, some (roB [])), (1, some (roB []))] 2 [false, false, false, false, false, false, false, true, true, true, true, true]) = some (tt 1 ((false, false) :: tt 1 ((false, false) :: tt 1 ((false, false) :: tt 2 ((false, false) :: tt 1 ((false, false) :: tt 2 ((false, false) :: tt 1 ((false, false) :: tt 1 ([])))))))), [], tB, []) := by kernel_rfl
theorem su_z {M M' : Nat}   : CanOk Try.prog 3 [slA 0 0 0 M, slA 1 0 0 M'] [(0, some (roB [])), (1, some (roB []))] 2 [] (boolA true) [] := by
  exact can_val (can_run STcok KGok Try.func3 (by kernel_rfl) (by kernel_rfl) (su_z_n M M'  ) (by kernel_rfl) (tt_ok 1 (⟨rfl, tt_ok 1 (⟨rfl, tt_ok 1 (⟨rfl, tt_ok 2 (⟨rfl, tt_ok 1 (⟨rfl, tt_ok 2 (⟨rfl, tt_ok 1 (⟨rfl, tt_ok 1 trivial⟩)⟩)⟩)⟩)⟩)⟩)⟩))) fun _ _ q => b_true q
theorem su_o_n (M M' : Nat) (z0 : List Int) (m0 : Nat) (x0 y0 : Nat) (i0 : Bool) : segOut Try.prog oTc gsF 1200 3 [] (entry gsF [slA 1 0 1 M, slA 2 0 1 M'] [(0, some (roB [.seq .u64 z0])), (1, some (roB [.sl 0 0 1 m0])), (2, some (roB [.num 6 x0, .num 6 y0, .v (.bool i0)]))] 3 [false, false, true, false, false, false, true, false, false, false, true, false, false, true, true, true, true, true]) = some (tt 1 ((false, false) :: tt 1 ((false, false) :: tt 4 ((false, false) :: tt 1 ((false, false) :: tt 2 ((false, false) :: tt 4 ((Nat.ble (0 + 1) z0.length, true) :: tt 1 ((!decide (mulE (toPt x0 y0 i0) = 0), false) :: (false, false) :: tt 2 ((false, false) :: tt 4 ((Nat.ble (0 + 1) z0.length, true) :: tt 1 ((!decide (mulE (toPt x0 y0 i0) = 0), false) :: tt 1 ((false, false) :: (suE (add (toPt 0 0 true) (toPt' (mulP (natL (win z0 0 1)) (toPt x0 y0 i0)))), true) :: []))))))))))), [], tB, []) := by kernel_rfl
theorem su_o_0 (M M' : Nat) (z0 : List Int) (m0 : Nat) (x0 y0 : Nat) (i0 : Bool) : segOut Try.prog oTc gsF 1200 3 [] (entry gsF [slA 1 0 1 M, slA 2 0 1 M'] [(0, some (roB [.seq .u64 z0])), (1, some (roB [.sl 0 0 1 m0])), (2, some (roB [.num 6 x0, .num 6 y0, .v (.bool i0)]))] 3 [false, false, true, false, false, false, true, true, false, true, true, true, true, true, true, true]) = some (tt 1 ((false, false) :: tt 1 ((false, false) :: tt 4 ((false, false) :: tt 1 ((false, false) :: tt 2 ((false, false) :: tt 4 ((Nat.ble (0 + 1) z0.length, true) :: tt 1 ((!decide (mulE (toPt x0 y0 i0) = 0), true) :: tt 2 ((false, false) :: tt 4 ((Nat.ble (0 + 1) z0.length, true) :: tt 1 ((!decide (mulE (toPt x0 y0 i0) = 0), true) :: tt 1 ([]))))))))))), [], boolA (decide (mulE (toPt x0 y0 i0) = mulE (toPt x0 y0 i0))), []) := by kernel_rfl
theorem su_o {M M' : Nat} {z0 : List Int} {m0 : Nat} {x0 y0 : Nat} {i0 : Bool} (h0 : 1 ≤ z0.length) : CanOk Try.prog 3 [slA 1 0 1 M, slA 2 0 1 M'] [(0, some (roB [.seq .u64 z0])), (1, some (roB [.sl 0 0 1 m0])), (2, some (roB [.num 6 x0, .num 6 y0, .v (.bool i0)]))] 3 [] (boolA true) [] := by
  have l0 : Nat.ble (0 + 1) z0.length = true := Nat.ble_eq_true_of_le h0
  by_cases e0 : mulE (toPt x0 y0 i0) = 0
  case neg =>
    have t0 := me_t e0
    exact can_bool (can_run STcok KGok Try.func3 (by kernel_rfl) (by kernel_rfl) (su_o_0 M M' z0 m0 x0 y0 i0) (by kernel_rfl) (tt_ok 1 (⟨rfl, tt_ok 1 (⟨rfl, tt_ok 4 (⟨rfl, tt_ok 1 (⟨rfl, tt_ok 2 (⟨rfl, tt_ok 4 (⟨l0, tt_ok 1 (⟨t0, tt_ok 2 (⟨rfl, tt_ok 4 (⟨l0, tt_ok 1 (⟨t0, tt_ok 1 trivial⟩)⟩)⟩)⟩)⟩)⟩)⟩)⟩)⟩)⟩))) (decide_eq_true rfl)
  have f0 := me_f e0
  exact can_val (can_run STcok KGok Try.func3 (by kernel_rfl) (by kernel_rfl) (su_o_n M M' z0 m0 x0 y0 i0) (by kernel_rfl) (tt_ok 1 (⟨rfl, tt_ok 1 (⟨rfl, tt_ok 4 (⟨rfl, tt_ok 1 (⟨rfl, tt_ok 2 (⟨rfl, tt_ok 4 (⟨l0, tt_ok 1 (⟨f0, ⟨rfl, tt_ok 2 (⟨rfl, tt_ok 4 (⟨l0, tt_ok 1 (⟨f0, tt_ok 1 (⟨rfl, ⟨eqP_rfl _, trivial⟩⟩)⟩)⟩)⟩)⟩⟩)⟩)⟩)⟩)⟩)⟩)⟩))) fun _ _ q => b_true q
theorem su_e_n (M M' : Nat) (a0 : Option Addr) (m0 : Nat) (x0 y0 : Nat) (i0 : Bool) : segOut Try.prog oTc gsF 1200 2 [] (entry gsF [slA 0 0 1 M, slA 1 0 1 M'] [(0, some (roB [.v (.slice a0 0 m0)])), (1, some (roB [.num 6 x0, .num 6 y0, .v (.bool i0)]))] 2 [false, false, true, false, false, false, true, false, false, false, true, false, false, true, true, true, true, true]) = some (tt 1 ((false, false) :: tt 1 ((false, false) :: tt 4 ((false, false) :: tt 1 ((false, false) :: tt 2 ((false, false) :: tt 4 ((!decide (mulE (toPt x0 y0 i0) = 0), false) :: (false, false) :: tt 2 ((false, false) :: tt 4 ((!decide (mulE (toPt x0 y0 i0) = 0), false) :: tt 1 ((false, false) :: (suE (add (toPt 0 0 true) (toPt' (mulP 0 (toPt x0 y0 i0)))), true) :: []))))))))), [], tB, []) := by kernel_rfl
theorem su_e_0 (M M' : Nat) (a0 : Option Addr) (m0 : Nat) (x0 y0 : Nat) (i0 : Bool) : segOut Try.prog oTc gsF 1200 2 [] (entry gsF [slA 0 0 1 M, slA 1 0 1 M'] [(0, some (roB [.v (.slice a0 0 m0)])), (1, some (roB [.num 6 x0, .num 6 y0, .v (.bool i0)]))] 2 [false, false, true, false, false, false, true, true, false, true, true, true, true, true, true, true]) = some (tt 1 ((false, false) :: tt 1 ((false, false) :: tt 4 ((false, false) :: tt 1 ((false, false) :: tt 2 ((false, false) :: tt 4 ((!decide (mulE (toPt x0 y0 i0) = 0), true) :: tt 2 ((false, false) :: tt 4 ((!decide (mulE (toPt x0 y0 i0) = 0), true) :: tt 1 ([]))))))))), [], boolA (decide (mulE (toPt x0 y0 i0) = mulE (toPt x0 y0 i0))), []) := by kernel_rfl
theorem su_e {M M' : Nat} {a0 : Option Addr} {m0 : Nat} {x0 y0 : Nat} {i0 : Bool}  : CanOk Try.prog 3 [slA 0 0 1 M, slA 1 0 1 M'] [(0, some (roB [.v (.slice a0 0 m0)])), (1, some (roB [.num 6 x0, .num 6 y0, .v (.bool i0)]))] 2 [] (boolA true) [] := by
  by_cases e0 : mulE (toPt x0 y0 i0) = 0
  case neg =>
    have t0 := me_t e0
    exact can_bool (can_run STcok KGok Try.func3 (by kernel_rfl) (by kernel_rfl) (su_e_0 M M' a0 m0 x0 y0 i0) (by kernel_rfl) (tt_ok 1 (⟨rfl, tt_ok 1 (⟨rfl, tt_ok 4 (⟨rfl, tt_ok 1 (⟨rfl, tt_ok 2 (⟨rfl, tt_ok 4 (⟨t0, tt_ok 2 (⟨rfl, tt_ok 4 (⟨t0, tt_ok 1 trivial⟩)⟩)⟩)⟩)⟩)⟩)⟩)⟩))) (decide_eq_true rfl)
  have f0 := me_f e0
  exact can_val (can_run STcok KGok Try.func3 (by kernel_rfl) (by kernel_rfl) (su_e_n M M' a0 m0 x0 y0 i0) (by kernel_rfl) (tt_ok 1 (⟨rfl, tt_ok 1 (⟨rfl, tt_ok 4 (⟨rfl, tt_ok 1 (⟨rfl, tt_ok 2 (⟨rfl, tt_ok 4 (⟨f0, ⟨rfl, tt_ok 2 (⟨rfl, tt_ok 4 (⟨f0, tt_ok 1 (⟨rfl, ⟨eqP_rfl _, trivial⟩⟩)⟩)⟩)⟩⟩)⟩)⟩)⟩)⟩)⟩))) fun _ _ q => b_true q
theorem su_oo_n (M M' : Nat) (z0 : List Int) (m0 : Nat) (z1 : List Int) (m1 : Nat) (x0 y0 : Nat) (i0 : Bool) (x1 y1 : Nat) (i1 : Bool) : segOut Try.prog oTc gsF 1200 4 [] (entry gsF [slA 2 0 2 M, slA 3 0 2 M'] [(0, some (roB [.seq .u64 z0])), (1, some (roB [.seq .u64 z1])), (2, some (roB [.sl 0 0 1 m0, .sl 1 0 1 m1])), (3, some (roB [.num 6 x0, .num 6 y0, .v (.bool i0), .num 6 x1, .num 6 y1, .v (.bool i1)]))] 4 [false, false, true, false, true, false, false, false, true, false, true, false, false, false, true, false, true, false, false, true, true, true, true, true]) = some (tt 1 ((false, false) :: tt 1 ((false, false) :: tt 4 ((false, false) :: tt 4 ((false, false) :: tt 1 ((false, false) :: tt 2 ((false, false) :: tt 4 ((Nat.ble (0 + 1) z0.length, true) :: tt 1 ((!decide (mulE (toPt x0 y0 i0) = 0), false) :: tt 3 ((Nat.ble (0 + 1) z1.length, true) :: tt 1 ((!decide (mulE (toPt x1 y1 i1) = 0), false) :: (false, false) :: tt 2 ((false, false) :: tt 4 ((Nat.ble (0 + 1) z0.length, true) :: tt 1 ((!decide (mulE (toPt x0 y0 i0) = 0), false) :: tt 4 ((Nat.ble (0 + 1) z1.length, true) :: tt 1 ((!decide (mulE (toPt x1 y1 i1) = 0), false) :: tt 1 ((false, false) :: (suE (add (toPt' (add (toPt 0 0 true) (toPt' (mulP (natL (win z0 0 1)) (toPt x0 y0 i0))))) (toPt' (mulP (natL (win z1 0 1)) (toPt x1 y1 i1)))), true) :: [])))))))))))))))), [], tB, []) := by kernel_rfl
theorem su_oo_0 (M M' : Nat) (z0 : List Int) (m0 : Nat) (z1 : List Int) (m1 : Nat) (x0 y0 : Nat) (i0 : Bool) (x1 y1 : Nat) (i1 : Bool) : segOut Try.prog oTc gsF 1200 4 [] (entry gsF [slA 2 0 2 M, slA 3 0 2 M'] [(0, some (roB [.seq .u64 z0])), (1, some (roB [.seq .u64 z1])), (2, some (roB [.sl 0 0 1 m0, .sl 1 0 1 m1])), (3, some (roB [.num 6 x0, .num 6 y0, .v (.bool i0), .num 6 x1, .num 6 y1, .v (.bool i1)]))] 4 [false, false, true, false, true, false, false, false, true, true, false, true, true, true, true, true, true, true]) = some (tt 1 ((false, false) :: tt 1 ((false, false) :: tt 4 ((false, false) :: tt 4 ((false, false) :: tt 1 ((false, false) :: tt 2 ((false, false) :: tt 4 ((Nat.ble (0 + 1) z0.length, true) :: tt 1 ((!decide (mulE (toPt x0 y0 i0) = 0), true) :: tt 2 ((false, false) :: tt 4 ((Nat.ble (0 + 1) z0.length, true) :: tt 1 ((!decide (mulE (toPt x0 y0 i0) = 0), true) :: tt 1 ([])))))))))))), [], boolA (decide (mulE (toPt x0 y0 i0) = mulE (toPt x0 y0 i0))), []) := by kernel_rfl
theorem su_oo_1 (M M' : Nat) (z0 : List Int) (m0 : Nat) (z1 : List Int) (m1 : Nat) (x0 y0 : Nat) (i0 : Bool) (x1 y1 : Nat) (i1 : Bool) : segOut Try.prog oTc gsF 1200 4 [] (entry gsF [slA 2 0 2 M, slA 3 0 2 M'] [(0, some (roB [.seq .u64 z0])), (1, some (roB [.seq .u64 z1])), (2, some (roB [.sl 0 0 1 m0, .sl 1 0 1 m1])), (3, some (roB [.num 6 x0, .num 6 y0, .v (.bool i0), .num 6 x1, .num 6 y1, .v (.bool i1)]))] 4 [false, false, true, false, true, false, false, false, true, false, true, true, false, true, false, true, true, true, true, true, true, true]) = some (tt 1 ((false, false) :: tt 1 ((false, false) :: tt 4 ((false, false) :: tt 4 ((false, false) :: tt 1 ((false, false) :: tt 2 ((false, false) :: tt 4 ((Nat.ble (0 + 1) z0.length, true) :: tt 1 ((!decide (mulE (toPt x0 y0 i0) = 0), false) :: tt 3 ((Nat.ble (0 + 1) z1.length, true) :: tt 1 ((!decide (mulE (toPt x1 y1 i1) = 0), true) :: tt 2 ((false, false) :: tt 4 ((Nat.ble (0 + 1) z0.length, true) :: tt 1 ((!decide (mulE (toPt x0 y0 i0) = 0), false) :: tt 4 ((Nat.ble (0 + 1) z1.length, true) :: tt 1 ((!decide (mulE (toPt x1 y1 i1) = 0), true) :: tt 1 ([])))))))))))))))), [], boolA (decide (mulE (toPt x1 y1 i1) = mulE (toPt x1 y1 i1))), []) := by kernel_rfl
theorem su_oo {M M' : Nat} {z0 : List Int} {m0 : Nat} {z1 : List Int} {m1 : Nat} {x0 y0 : Nat} {i0 : Bool} {x1 y1 : Nat} {i1 : Bool} (h0 : 1 ≤ z0.length) (h1 : 1 ≤ z1.length) : CanOk Try.prog 3 [slA 2 0 2 M, slA 3 0 2 M'] [(0, some (roB [.seq .u64 z0])), (1, some (roB [.seq .u64 z1])), (2, some (roB [.sl 0 0 1 m0, .sl 1 0 1 m1])), (3, some (roB [.num 6 x0, .num 6 y0, .v (.bool i0), .num 6 x1, .num 6 y1, .v (.bool i1)]))] 4 [] (boolA true) [] := by
  have l0 : Nat.ble (0 + 1) z0.length = true := Nat.ble_eq_true_of_le h0
  have l1 : Nat.ble (0 + 1) z1.length = true := Nat.ble_eq_true_of_le h1
  by_cases e0 : mulE (toPt x0 y0 i0) = 0
  case neg =>
    have t0 := me_t e0
    exact can_bool (can_run STcok KGok Try.func3 (by kernel_rfl) (by kernel_rfl) (su_oo_0 M M' z0 m0 z1 m1 x0 y0 i0 x1 y1 i1) (by kernel_rfl) (tt_ok 1 (⟨rfl, tt_ok 1 (⟨rfl, tt_ok 4 (⟨rfl, tt_ok 4 (⟨rfl, tt_ok 1 (⟨rfl, tt_ok 2 (⟨rfl, tt_ok 4 (⟨l0, tt_ok 1 (⟨t0, tt_ok 2 (⟨rfl, tt_ok 4 (⟨l0, tt_ok 1 (⟨t0, tt_ok 1 trivial⟩)⟩)⟩)⟩)⟩)⟩)⟩)⟩)⟩)⟩)⟩))) (decide_eq_true rfl)
  have f0 := me_f e0
  by_cases e1 : mulE (toPt x1 y1 i1) = 0
  case neg =>
    have t1 := me_t e1
    exact can_bool (can_run STcok KGok Try.func3 (by kernel_rfl) (by kernel_rfl) (su_oo_1 M M' z0 m0 z1 m1 x0 y0 i0 x1 y1 i1) (by kernel_rfl) (tt_ok 1 (⟨rfl, tt_ok 1 (⟨rfl, tt_ok 4 (⟨rfl, tt_ok 4 (⟨rfl, tt_ok 1 (⟨rfl, tt_ok 2 (⟨rfl, tt_ok 4 (⟨l0, tt_ok 1 (⟨f0, tt_ok 3 (⟨l1, tt_ok 1 (⟨t1, tt_ok 2 (⟨rfl, tt_ok 4 (⟨l0, tt_ok 1 (⟨f0, tt_ok 4 (⟨l1, tt_ok 1 (⟨t1, tt_ok 1 trivial⟩)⟩)⟩)⟩)⟩)⟩)⟩)⟩)⟩)⟩)⟩)⟩)⟩)⟩)⟩))) (decide_eq_true rfl)
  have f1 := me_f e1
  exact can_val (can_run STcok KGok Try.func3 (by kernel_rfl) (by kernel_rfl) (su_oo_n M M' z0 m0 z1 m1 x0 y0 i0 x1 y1 i1) (by kernel_rfl) (tt_ok 1 (⟨rfl, tt_ok 1 (⟨rfl, tt_ok 4 (⟨rfl, tt_ok 4 (⟨rfl, tt_ok 1 (⟨rfl, tt_ok 2 (⟨rfl, tt_ok 4 (⟨l0, tt_ok 1 (⟨f0, tt_ok 3 (⟨l1, tt_ok 1 (⟨f1, ⟨rfl, tt_ok 2 (⟨rfl, tt_ok 4 (⟨l0, tt_ok 1 (⟨f0, tt_ok 4 (⟨l1, tt_ok 1 (⟨f1, tt_ok 1 (⟨rfl, ⟨eqP_rfl _, trivial⟩⟩)⟩)⟩)⟩)⟩)⟩)⟩⟩)⟩)⟩)⟩)⟩)⟩)⟩)⟩)⟩)⟩))) fun _ _ q => b_true q
theorem su_oe_n (M M' : Nat) (z0 : List Int) (m0 : Nat) (a1 : Option Addr) (m1 : Nat) (x0 y0 : Nat) (i0 : Bool) (x1 y1 : Nat) (i1 : Bool) : segOut Try.prog oTc gsF 1200 3 [] (entry gsF [slA 1 0 2 M, slA 2 0 2 M'] [(0, some (roB [.seq .u64 z0])), (1, some (roB [.sl 0 0 1 m0, .v (.slice a1 0 m1)])), (2, some (roB [.num 6 x0, .num 6 y0, .v (.bool i0), .num 6 x1, .num 6 y1, .v (.bool i1)]))] 3 [false, false, true, false, true, false, false, false, true, false, true, false, false, false, true, false, true, false, false, true, true, true, true, true]) = some (tt 1 ((false, false) :: tt 1 ((false, false) :: tt 4 ((false, false) :: tt 4 ((false, false) :: tt 1 ((false, false) :: tt 2 ((false, false) :: tt 4 ((Nat.ble (0 + 1) z0.length, true) :: tt 1 ((!decide (mulE (toPt x0 y0 i0) = 0), false) :: tt 3 ((!decide (mulE (toPt x1 y1 i1) = 0), false) :: (false, false) :: tt 2 ((false, false) :: tt 4 ((Nat.ble (0 + 1) z0.length, true) :: tt 1 ((!decide (mulE (toPt x0 y0 i0) = 0), false) :: tt 4 ((!decide (mulE (toPt x1 y1 i1) = 0), false) :: tt 1 ((false, false) :: (suE (add (toPt' (add (toPt 0 0 true) (toPt' (mulP (natL (win z0 0 1)) (toPt x0 y0 i0))))) (toPt' (mulP 0 (toPt x1 y1 i1)))), true) :: [])))))))))))))), [], tB, []) := by kernel_rfl
theorem su_oe_0 (M M' : Nat) (z0 : List Int) (m0 : Nat) (a1 : Option Addr) (m1 : Nat) (x0 y0 : Nat) (i0 : Bool) (x1 y1 : Nat) (i1 : Bool) : segOut Try.prog oTc gsF 1200 3 [] (entry gsF [slA 1 0 2 M, slA 2 0 2 M'] [(0, some (roB [.seq .u64 z0])), (1, some (roB [.sl 0 0 1 m0, .v (.slice a1 0 m1)])), (2, some (roB [.num 6 x0, .num 6 y0, .v (.bool i0), .num 6 x1, .num 6 y1, .v (.bool i1)]))] 3 [false, false, true, false, true, false, false, false, true, true, false, true, true, true, true, true, true, true]) = some (tt 1 ((false, false) :: tt 1 ((false, false) :: tt 4 ((false, false) :: tt 4 ((false, false) :: tt 1 ((false, false) :: tt 2 ((false, false) :: tt 4 ((Nat.ble (0 + 1) z0.length, true) :: tt 1 ((!decide (mulE (toPt x0 y0 i0) = 0), true) :: tt 2 ((false, false) :: tt 4 ((Nat.ble (0 + 1) z0.length, true) :: tt 1 ((!decide (mulE (toPt x0 y0 i0) = 0), true) :: tt 1 ([])))))))))))), [], boolA (decide (mulE (toPt x0 y0 i0) = mulE (toPt x0 y0 i0))), []) := by kernel_rfl
theorem su_oe_1 (M M' : Nat) (z0 : List Int) (m0 : Nat) (a1 : Option Addr) (m1 : Nat) (x0 y0 : Nat) (i0 : Bool) (x1 y1 : Nat) (i1 : Bool) : segOut Try.prog oTc gsF 1200 3 [] (entry gsF [slA 1 0 2 M, slA 2 0 2 M'] [(0, some (roB [.seq .u64 z0])), (1, some (roB [.sl 0 0 1 m0, .v (.slice a1 0 m1)])), (2, some (roB [.num 6 x0, .num 6 y0, .v (.bool i0), .num 6 x1, .num 6 y1, .v (.bool i1)]))] 3 [false, false, true, false, true, false, false, false, true, false, true, true, false, true, false, true, true, true, true, true, true, true]) = some (tt 1 ((false, false) :: tt 1 ((false, false) :: tt 4 ((false, false) :: tt 4 ((false, false) :: tt 1 ((false, false) :: tt 2 ((false, false) :: tt 4 ((Nat.ble (0 + 1) z0.length, true) :: tt 1 ((!decide (mulE (toPt x0 y0 i0) = 0), false) :: tt 3 ((!decide (mulE (toPt x1 y1 i1) = 0), true) :: tt 2 ((false, false) :: tt 4 ((Nat.ble (0 + 1) z0.length, true) :: tt 1 ((!decide (mulE (toPt x0 y0 i0) = 0), false) :: tt 4 ((!decide (mulE (toPt x1 y1 i1) = 0), true) :: tt 1 ([])))))))))))))), [], boolA (decide (mulE (toPt x1 y1 i1) = mulE (toPt x1 y1 i1))), []) := by kernel_rfl
theorem su_oe {M M' : Nat} {z0 : List Int} {m0 : Nat} {a1 : Option Addr} {m1 : Nat} {x0 y0 : Nat} {i0 : Bool} {x1 y1 : Nat} {i1 : Bool} (h0 : 1 ≤ z0.length) : CanOk Try.prog 3 [slA 1 0 2 M, slA 2 0 2 M'] [(0, some (roB [.seq .u64 z0])), (1, some (roB [.sl 0 0 1 m0, .v (.slice a1 0 m1)])), (2, some (roB [.num 6 x0, .num 6 y0, .v (.bool i0), .num 6 x1, .num 6 y1, .v (.bool i1)]))] 3 [] (boolA true) [] := by
  have l0 : Nat.ble (0 + 1) z0.length = true := Nat.ble_eq_true_of_le h0
  by_cases e0 : mulE (toPt x0 y0 i0) = 0
  case neg =>
    have t0 := me_t e0
    exact can_bool (can_run STcok KGok Try.func3 (by kernel_rfl) (by kernel_rfl) (su_oe_0 M M' z0 m0 a1 m1 x0 y0 i0 x1 y1 i1) (by kernel_rfl) (tt_ok 1 (⟨rfl, tt_ok 1 (⟨rfl, tt_ok 4 (⟨rfl, tt_ok 4 (⟨rfl, tt_ok 1 (⟨rfl, tt_ok 2 (⟨rfl, tt_ok 4 (⟨l0, tt_ok 1 (⟨t0, tt_ok 2 (⟨rfl, tt_ok 4 (⟨l0, tt_ok 1 (⟨t0, tt_ok 1 trivial⟩)⟩)⟩)⟩)⟩)⟩)⟩)⟩)⟩)⟩)⟩))) (decide_eq_true rfl)
  have f0 := me_f e0
  by_cases e1 : mulE (toPt x1 y1 i1) = 0
  case neg =>
    have t1 := me_t e1
    exact can_bool (can_run STcok KGok Try.func3 (by kernel_rfl) (by kernel_rfl) (su_oe_1 M M' z0 m0 a1 m1 x0 y0 i0 x1 y1 i1) (by kernel_rfl) (tt_ok 1 (⟨rfl, tt_ok 1 (⟨rfl, tt_ok 4 (⟨rfl, tt_ok 4 (⟨rfl, tt_ok 1 (⟨rfl, tt_ok 2 (⟨rfl, tt_ok 4 (⟨l0, tt_ok 1 (⟨f0, tt_ok 3 (⟨t1, tt_ok 2 (⟨rfl, tt_ok 4 (⟨l0, tt_ok 1 (⟨f0, tt_ok 4 (⟨t1, tt_ok 1 trivial⟩)⟩)⟩)⟩)⟩)⟩)⟩)⟩)⟩)⟩)⟩)⟩)⟩))) (decide_eq_true rfl)
  have f1 := me_f e1
  exact can_val (can_run STcok KGok Try.func3 (by kernel_rfl) (by kernel_rfl) (su_oe_n M M' z0 m0 a1 m1 x0 y0 i0 x1 y1 i1) (by kernel_rfl) (tt_ok 1 (⟨rfl, tt_ok 1 (⟨rfl, tt_ok 4 (⟨rfl, tt_ok 4 (⟨rfl, tt_ok 1 (⟨rfl, tt_ok 2 (⟨rfl, tt_ok 4 (⟨l0, tt_ok 1 (⟨f0, tt_ok 3 (⟨f1, ⟨rfl, tt_ok 2 (⟨rfl, tt_ok 4 (⟨l0, tt_ok 1 (⟨f0, tt_ok 4 (⟨f1, tt_ok 1 (⟨rfl, ⟨eqP_rfl _, trivial⟩⟩)⟩)⟩)⟩)⟩)⟩⟩)⟩)⟩)⟩)⟩)⟩)⟩)⟩)⟩))) fun _ _ q => b_true q
theorem su_eo_n (M M' : Nat) (a0 : Option Addr) (m0 : Nat) (z1 : List Int) (m1 : Nat) (x0 y0 : Nat) (i0 : Bool) (x1 y1 : Nat) (i1 : Bool) : segOut Try.prog oTc gsF 1200 3 [] (entry gsF [slA 1 0 2 M, slA 2 0 2 M'] [(0, some (roB [.seq .u64 z1])), (1, some (roB [.v (.slice a0 0 m0), .sl 0 0 1 m1])), (2, some (roB [.num 6 x0, .num 6 y0, .v (.bool i0), .num 6 x1, .num 6 y1, .v (.bool i1)]))] 3 [false, false, true, false, true, false, false, false, true, false, true, false, false, false, true, false, true, false, false, true, true, true, true, true]) = some (tt 1 ((false, false) :: tt 1 ((false, false) :: tt 4 ((false, false) :: tt 4 ((false, false) :: tt 1 ((false, false) :: tt 2 ((false, false) :: tt 4 ((!decide (mulE (toPt x0 y0 i0) = 0), false) :: tt 3 ((Nat.ble (0 + 1) z1.length, true) :: tt 1 ((!decide (mulE (toPt x1 y1 i1) = 0), false) :: (false, false) :: tt 2 ((false, false) :: tt 4 ((!decide (mulE (toPt x0 y0 i0) = 0), false) :: tt 4 ((Nat.ble (0 + 1) z1.length, true) :: tt 1 ((!decide (mulE (toPt x1 y1 i1) = 0), false) :: tt 1 ((false, false) :: (suE (add (toPt' (add (toPt 0 0 true) (toPt' (mulP 0 (toPt x0 y0 i0))))) (toPt' (mulP (natL (win z1 0 1)) (toPt x1 y1 i1)))), true) :: [])))))))))))))), [], tB, []) := by kernel_rfl
theorem su_eo_0 (M M' : Nat) (a0 : Option Addr) (m0 : Nat) (z1 : List Int) (m1 : Nat) (x0 y0 : Nat) (i0 : Bool) (x1 y1 : Nat) (i1 : Bool) : segOut Try.prog oTc gsF 1200 3 [] (entry gsF [slA 1 0 2 M, slA 2 0 2 M'] [(0, some (roB [.seq .u64 z1])), (1, some (roB [.v (.slice a0 0 m0), .sl 0 0 1 m1])), (2, some (roB [.num 6 x0, .num 6 y0, .v (.bool i0), .num 6 x1, .num 6 y1, .v (.bool i1)]))] 3 [false, false, true, false, true, false, false, false, true, true, false, true, true, true, true, true, true, true]) = some (tt 1 ((false, false) :: tt 1 ((false, false) :: tt 4 ((false, false) :: tt 4 ((false, false) :: tt 1 ((false, false) :: tt 2 ((false, false) :: tt 4 ((!decide (mulE (toPt x0 y0 i0) = 0), true) :: tt 2 ((false, false) :: tt 4 ((!decide (mulE (toPt x0 y0 i0) = 0), true) :: tt 1 ([])))))))))), [], boolA (decide (mulE (toPt x0 y0 i0) = mulE (toPt x0 y0 i0))), []) := by kernel_rfl
theorem su_eo_1 (M M' : Nat) (a0 : Option Addr) (m0 : Nat) (z1 : List Int) (m1 : Nat) (x0 y0 : Nat) (i0 : Bool) (x1 y1 : Nat) (i1 : Bool) : segOut Try.prog oTc gsF 1200 3 [] (entry gsF [slA 1 0 2 M, slA 2 0 2 M'] [(0, some (roB [.seq .u64 z1])), (1, some (roB [.v (.slice a0 0 m0), .sl 0 0 1 m1])), (2, some (roB [.num 6 x0, .num 6 y0, .v (.bool i0), .num 6 x1, .num 6 y1, .v (.bool i1)]))] 3 [false, false, true, false, true, false, false, false, true, false, true, true, false, true, false, true, true, true, true, true, true, true]) = some (tt 1 ((false, false) :: tt 1 ((false, false) :: tt 4 ((false, false) :: tt 4 ((false, false) :: tt 1 ((false, false) :: tt 2 ((false, false) :: tt 4 ((!decide (mulE (toPt x0 y0 i0) = 0), false) :: tt 3 ((Nat.ble (0 + 1) z1.length, true) :: tt 1 ((!decide (mulE (toPt x1 y1 i1) = 0), true) :: tt 2 ((false, false) :: tt 4 ((!decide (mulE (toPt x0 y0 i0) = 0), false) :: tt 4 ((Nat.ble (0 + 1) z1.length, true) :: tt 1 ((!decide (mulE (toPt x1 y1 i1) = 0), true) :: tt 1 ([])))))))))))))), [], boolA (decide (mulE (toPt x1 y1 i1) = mulE (toPt x1 y1 i1))), []) := by kernel_rfl
theorem su_eo {M M' : Nat} {a0 : Option Addr} {m0 : Nat} {z1 : List Int} {m1 : Nat} {x0 y0 : Nat} {i0 : Bool} {x1 y1 : Nat} {i1 : Bool} (h1 : 1 ≤ z1.length) : CanOk Try.prog 3 [slA 1 0 2 M, slA 2 0 2 M'] [(0, some (roB [.seq .u64 z1])), (1, some (roB [.v (.slice a0 0 m0), .sl 0 0 1 m1])), (2, some (roB [.num 6 x0, .num 6 y0, .v (.bool i0), .num 6 x1, .num 6 y1, .v (.bool i1)]))] 3 [] (boolA true) [] := by
  have l1 : Nat.ble (0 + 1) z1.length = true := Nat.ble_eq_true_of_le h1
  by_cases e0 : mulE (toPt x0 y0 i0) = 0
  case neg =>
    have t0 := me_t e0
    exact can_bool (can_run STcok KGok Try.func3 (by kernel_rfl) (by kernel_rfl) (su_eo_0 M M' a0 m0 z1 m1 x0 y0 i0 x1 y1 i1) (by kernel_rfl) (tt_ok 1 (⟨rfl, tt_ok 1 (⟨rfl, tt_ok 4 (⟨rfl, tt_ok 4 (⟨rfl, tt_ok 1 (⟨rfl, tt_ok 2 (⟨rfl, tt_ok 4 (⟨t0, tt_ok 2 (⟨rfl, tt_ok 4 (⟨t0, tt_ok 1 trivial⟩)⟩)⟩)⟩)⟩)⟩)⟩)⟩)⟩))) (decide_eq_true rfl)
  have f0 := me_f e0
  by_cases e1 : mulE (toPt x1 y1 i1) = 0
  case neg =>
    have t1 := me_t e1
    exact can_bool (can_run STcok KGok Try.func3 (by kernel_rfl) (by kernel_rfl) (su_eo_1 M M' a0 m0 z1 m1 x0 y0 i0 x1 y1 i1) (by kernel_rfl) (tt_ok 1 (⟨rfl, tt_ok 1 (⟨rfl, tt_ok 4 (⟨rfl, tt_ok 4 (⟨rfl, tt_ok 1 (⟨rfl, tt_ok 2 (⟨rfl, tt_ok 4 (⟨f0, tt_ok 3 (⟨l1, tt_ok 1 (⟨t1, tt_ok 2 (⟨rfl, tt_ok 4 (⟨f0, tt_ok 4 (⟨l1, tt_ok 1 (⟨t1, tt_ok 1 trivial⟩)⟩)⟩)⟩)⟩)⟩)⟩)⟩)⟩)⟩)⟩)⟩)⟩))) (decide_eq_true rfl)
  have f1 := me_f e1
  exact can_val (can_run STcok KGok Try.func3 (by kernel_rfl) (by kernel_rfl) (su_eo_n M M' a0 m0 z1 m1 x0 y0 i0 x1 y1 i1) (by kernel_rfl) (tt_ok 1 (⟨rfl, tt_ok 1 (⟨rfl, tt_ok 4 (⟨rfl, tt_ok 4 (⟨rfl, tt_ok 1 (⟨rfl, tt_ok 2 (⟨rfl, tt_ok 4 (⟨f0, tt_ok 3 (⟨l1, tt_ok 1 (⟨f1, ⟨rfl, tt_ok 2 (⟨rfl, tt_ok 4 (⟨f0, tt_ok 4 (⟨l1, tt_ok 1 (⟨f1, tt_ok 1 (⟨rfl, ⟨eqP_rfl _, trivial⟩⟩)⟩)⟩)⟩)⟩)⟩⟩)⟩)⟩)⟩)⟩)⟩)⟩)⟩)⟩))) fun _ _ q => b_true q
theorem su_ee_n (M M' : Nat) (a0 : Option Addr) (m0 : Nat) (a1 : Option Addr) (m1 : Nat) (x0 y0 : Nat) (i0 : Bool) (x1 y1 : Nat) (i1 : Bool) : segOut Try.prog oTc gsF 1200 2 [] (entry gsF [slA 0 0 2 M, slA 1 0 2 M'] [(0, some (roB [.v (.slice a0 0 m0), .v (.slice a1 0 m1)])), (1, some (roB [.num 6 x0, .num 6 y0, .v (.bool i0), .num 6 x1, .num 6 y1, .v (.bool i1)]))] 2 [false, false, true, false, true, false, false, false, true, false, true, false, false, false, true, false, true, false, false, true, true, true, true, true]) = some (tt 1 ((false, false) :: tt 1 ((false, false) :: tt 4 ((false, false) :: tt 4 ((false, false) :: tt 1 ((false, false) :: tt 2 ((false, false) :: tt 4 ((!decide (mulE (toPt x0 y0 i0) = 0), false) :: tt 3 ((!decide (mulE (toPt x1 y1 i1) = 0), false) :: (false, false) :: tt 2 ((false, false) :: tt 4 ((!decide (mulE (toPt x0 y0 i0) = 0), false) :: tt 4 ((!decide (mulE (toPt x1 y1 i1) = 0), false) :: tt 1 ((false, false) :: (suE (add (toPt' (add (toPt 0 0 true) (toPt' (mulP 0 (toPt x0 y0 i0))))) (toPt' (mulP 0 (toPt x1 y1 i1)))), true) :: [])))))))))))), [], tB, []) := by kernel_rfl
theorem su_ee_0 (M M' : Nat) (a0 : Option Addr) (m0 : Nat) (a1 : Option Addr) (m1 : Nat) (x0 y0 : Nat) (i0 : Bool) (x1 y1 : Nat) (i1 : Bool) : segOut Try.prog oTc gsF 1200 2 [] (entry gsF [slA 0 0 2 M, slA 1 0 2 M'] [(0, some (roB [.v (.slice a0 0 m0), .v (.slice a1 0 m1)])), (1, some (roB [.num 6 x0, .num 6 y0, .v (.bool i0), .num 6 x1, .num 6 y1, .v (.bool i1)]))] 2 [false, false, true, false, true, false, false, false, true, true, false, true, true, true, true, true, true, true]) = some (tt 1 ((false, false) :: tt 1 ((false, false) :: tt 4 ((false, false) :: tt 4 ((false, false) :: tt 1 ((false, false) :: tt 2 ((false, false) :: tt 4 ((!decide (mulE (toPt x0 y0 i0) = 0), true) :: tt 2 ((false, false) :: tt 4 ((!decide (mulE (toPt x0 y0 i0) = 0), true) :: tt 1 ([])))))))))), [], boolA (decide (mulE (toPt x0 y0 i0) = mulE (toPt x0 y0 i0))), []) := by kernel_rfl
theorem su_ee_1 (M M' : Nat) (a0 : Option Addr) (m0 : Nat) (a1 : Option Addr) (m1 : Nat) (x0 y0 : Nat) (i0 : Bool) (x1 y1 : Nat) (i1 : Bool) : segOut Try.prog oTc gsF 1200 2 [] (entry gsF [slA 0 0 2 M, slA 1 0 2 M'] [(0, some (roB [.v (.slice a0 0 m0), .v (.slice a1 0 m1)])), (1, some (roB [.num 6 x0, .num 6 y0, .v (.bool i0), .num 6 x1, .num 6 y1, .v (.bool i1)]))] 2 [false, false, true, false, true, false, false, false, true, false, true, true, false, true, false, true, true, true, true, true, true, true]) = some (tt 1 ((false, false) :: tt 1 ((false, false) :: tt 4 ((false, false) :: tt 4 ((false, false) :: tt 1 ((false, false) :: tt 2 ((false, false) :: tt 4 ((!decide (mulE (toPt x0 y0 i0) = 0), false) :: tt 3 ((!decide (mulE (toPt x1 y1 i1) = 0), true) :: tt 2 ((false, false) :: tt 4 ((!decide (mulE (toPt x0 y0 i0) = 0), false) :: tt 4 ((!decide (mulE (toPt x1 y1 i1) = 0), true) :: tt 1 ([])))))))))))), [], boolA (decide (mulE (toPt x1 y1 i1) = mulE (toPt x1 y1 i1))), []) := by kernel_rfl
theorem su_ee {M M' : Nat} {a0 : Option Addr} {m0 : Nat} {a1 : Option Addr} {m1 : Nat} {x0 y0 : Nat} {i0 : Bool} {x1 y1 : Nat} {i1 : Bool}  : CanOk Try.prog 3 [slA 0 0 2 M, slA 1 0 2 M'] [(0, some (roB [.v (.slice a0 0 m0), .v (.slice a1 0 m1)])), (1, some (roB [.num 6 x0, .num 6 y0, .v (.bool i0), .num 6 x1, .num 6 y1, .v (.bool i1)]))] 2 [] (boolA true) [] := by
  by_cases e0 : mulE (toPt x0 y0 i0) = 0
  case neg =>
    have t0 := me_t e0
    exact can_bool (can_run STcok KGok Try.func3 (by kernel_rfl) (by kernel_rfl) (su_ee_0 M M' a0 m0 a1 m1 x0 y0 i0 x1 y1 i1) (by kernel_rfl) (tt_ok 1 (⟨rfl, tt_ok 1 (⟨rfl, tt_ok 4 (⟨rfl, tt_ok 4 (⟨rfl, tt_ok 1 (⟨rfl, tt_ok 2 (⟨rfl, tt_ok 4 (⟨t0, tt_ok 2 (⟨rfl, tt_ok 4 (⟨t0, tt_ok 1 trivial⟩)⟩)⟩)⟩)⟩)⟩)⟩)⟩)⟩))) (decide_eq_true rfl)
  have f0 := me_f e0
  by_cases e1 : mulE (toPt x1 y1 i1) = 0
  case neg =>
    have t1 := me_t e1
    exact can_bool (can_run STcok KGok Try.func3 (by kernel_rfl) (by kernel_rfl) (su_ee_1 M M' a0 m0 a1 m1 x0 y0 i0 x1 y1 i1) (by kernel_rfl) (tt_ok 1 (⟨rfl, tt_ok 1 (⟨rfl, tt_ok 4 (⟨rfl, tt_ok 4 (⟨rfl, tt_ok 1 (⟨rfl, tt_ok 2 (⟨rfl, tt_ok 4 (⟨f0, tt_ok 3 (⟨t1, tt_ok 2 (⟨rfl, tt_ok 4 (⟨f0, tt_ok 4 (⟨t1, tt_ok 1 trivial⟩)⟩)⟩)⟩)⟩)⟩)⟩)⟩)⟩)⟩)⟩))) (decide_eq_true rfl)
  have f1 := me_f e1
  exact can_val (can_run STcok KGok Try.func3 (by kernel_rfl) (by kernel_rfl) (su_ee_n M M' a0 m0 a1 m1 x0 y0 i0 x1 y1 i1) (by kernel_rfl) (tt_ok 1 (⟨rfl, tt_ok 1 (⟨rfl, tt_ok 4 (⟨rfl, tt_ok 4 (⟨rfl, tt_ok 1 (⟨rfl, tt_ok 2 (⟨rfl, tt_ok 4 (⟨f0, tt_ok 3 (⟨f1, ⟨rfl, tt_ok 2 (⟨rfl, tt_ok 4 (⟨f0, tt_ok 4 (⟨f1, tt_ok 1 (⟨rfl, ⟨eqP_rfl _, trivial⟩⟩)⟩)⟩)⟩)⟩⟩)⟩)⟩)⟩)⟩)⟩)⟩)⟩))) fun _ _ q => b_true q
theorem su_ooo_n (M M' : Nat) (z0 : List Int) (m0 : Nat) (z1 : List Int) (m1 : Nat) (z2 : List Int) (m2 : Nat) (x0 y0 : Nat) (i0 : Bool) (x1 y1 : Nat) (i1 : Bool) (x2 y2 : Nat) (i2 : Bool) : segOut Try.prog oTc gsF 1200 5 [] (entry gsF [slA 3 0 3 M, slA 4 0 3 M'] [(0, some (roB [.seq .u64 z0])), (1, some (roB [.seq .u64 z1])), (2, some (roB [.seq .u64 z2])), (3, some (roB [.sl 0 0 1 m0, .sl 1 0 1 m1, .sl 2 0 1 m2])), (4, some (roB [.num 6 x0, .num 6 y0, .v (.bool i0), .num 6 x1, .num 6 y1, .v (.bool i1), .num 6 x2, .num 6 y2, .v (.bool i2)]))] 5 [false, false, true, false, true, false, true, false, false, false, true, false, true, false, true, false, false, false, true, false, true, false, true, false, false, true, true, true, true, true]) = some (tt 1 ((false, false) :: tt 1 ((false, false) :: tt 4 ((false, false) :: tt 4 ((false, false) :: tt 4 ((false, false) :: tt 1 ((false, false) :: tt 2 ((false, false) :: tt 4 ((Nat.ble (0 + 1) z0.length, true) :: tt 1 ((!decide (mulE (toPt x0 y0 i0) = 0), false) :: tt 3 ((Nat.ble (0 + 1) z1.length, true) :: tt 1 ((!decide (mulE (toPt x1 y1 i1) = 0), false) :: tt 3 ((Nat.ble (0 + 1) z2.length, true) :: tt 1 ((!decide (mulE (toPt x2 y2 i2) = 0), false) :: (false, false) :: tt 2 ((false, false) :: tt 4 ((Nat.ble (0 + 1) z0.length, true) :: tt 1 ((!decide (mulE (toPt x0 y0 i0) = 0), false) :: tt 4 ((Nat.ble (0 + 1) z1.length, true) :: tt 1 ((!decide (mulE (toPt x1 y1 i1) = 0), false) :: tt 4 ((Nat.ble (0 + 1) z2.length, true) :: tt 1 ((!decide (mulE (toPt x2 y2 i2) = 0), false) :: tt 1 ((false, false) :: (suE (add (toPt' (add (toPt' (add (toPt 0 0 true) (toPt' (mulP (natL (win z0 0 1)) (toPt x0 y0 i0))))) (toPt' (mulP (natL (win z1 0 1)) (toPt x1 y1 i1))))) (toPt' (mulP (natL (win z2 0 1)) (toPt x2 y2 i2)))), true) :: []))))))))))))))))))))), [], tB, []) := by kernel_rfl
theorem su_ooo_0 (M M' : Nat) (z0 : List Int) (m0 : Nat) (z1 : List Int) (m1 : Nat) (z2 : List Int) (m2 : Nat) (x0 y0 : Nat) (i0 : Bool) (x1 y1 : Nat) (i1 : Bool) (x2 y2 : Nat) (i2 : Bool) : segOut Try.prog oTc gsF 1200 5 [] (entry gsF [slA 3 0 3 M, slA 4 0 3 M'] [(0, some (roB [.seq .u64 z0])), (1, some (roB [.seq .u64 z1])), (2, some (roB [.seq .u64 z2])), (3, some (roB [.sl 0 0 1 m0, .sl 1 0 1 m1, .sl 2 0 1 m2])), (4, some (roB [.num 6 x0, .num 6 y0, .v (.bool i0), .num 6 x1, .num 6 y1, .v (.bool i1), .num 6 x2, .num 6 y2, .v (.bool i2)]))] 5 [false, false, true, false, true, false, true, false, false, false, true, true, false, true, true, true, true, true, true, true]) = some (tt 1 ((false, false) :: tt 1 ((false, false) :: tt 4 ((false, false) :: tt 4 ((false, false) :: tt 4 ((false, false) :: tt 1 ((false, false) :: tt 2 ((false, false) :: tt 4 ((Nat.ble (0 + 1) z0.length, true) :: tt 1 ((!decide (mulE (toPt x0 y0 i0) = 0), true) :: tt 2 ((false, false) :: tt 4 ((Nat.ble (0 + 1) z0.length, true) :: tt 1 ((!decide (mulE (toPt x0 y0 i0) = 0), true) :: tt 1 ([]))))))))))))), [], boolA (decide (mulE (toPt x0 y0 i0) = mulE (toPt x0 y0 i0))), []) := by kernel_rfl
theorem su_ooo_1 (M M' : Nat) (z0 : List Int) (m0 : Nat) (z1 : List Int) (m1 : Nat) (z2 : List Int) (m2 : Nat) (x0 y0 : Nat) (i0 : Bool) (x1 y1 : Nat) (i1 : Bool) (x2 y2 : Nat) (i2 : Bool) : segOut Try.prog oTc gsF 1200 5 [] (entry gsF [slA 3 0 3 M, slA 4 0 3 M'] [(0, some (roB [.seq .u64 z0])), (1, some (roB [.seq .u64 z1])), (2, some (roB [.seq .u64 z2])), (3, some (roB [.sl 0 0 1 m0, .sl 1 0 1 m1, .sl 2 0 1 m2])), (4, some (roB [.num 6 x0, .num 6 y0, .v (.bool i0), .num 6 x1, .num 6 y1, .v (.bool i1), .num 6 x2, .num 6 y2, .v (.bool i2)]))] 5 [false, false, true, false, true, false, true, false, false, false, true, false, true, true, false, true, false, true, true, true, true, true, true, true]) = some (tt 1 ((false, false) :: tt 1 ((false, false) :: tt 4 ((false, false) :: tt 4 ((false, false) :: tt 4 ((false, false) :: tt 1 ((false, false) :: tt 2 ((false, false) :: tt 4 ((Nat.ble (0 + 1) z0.length, true) :: tt 1 ((!decide (mulE (toPt x0 y0 i0) = 0), false) :: tt 3 ((Nat.ble (0 + 1) z1.length, true) :: tt 1 ((!decide (mulE (toPt x1 y1 i1) = 0), true) :: tt 2 ((false, false) :: tt 4 ((Nat.ble (0 + 1) z0.length, true) :: tt 1 ((!decide (mulE (toPt x0 y0 i0) = 0), false) :: tt 4 ((Nat.ble (0 + 1) z1.length, true) :: tt 1 ((!decide (mulE (toPt x1 y1 i1) = 0), true) :: tt 1 ([]))))))))))))))))), [], boolA (decide (mulE (toPt x1 y1 i1) = mulE (toPt x1 y1 i1))), []) := by kernel_rfl
theorem su_ooo_2 (M M' : Nat) (z0 : List Int) (m0 : Nat) (z1 : List Int) (m1 : Nat) (z2 : List Int) (m2 : Nat) (x0 y0 : Nat) (i0 : Bool) (x1 y1 : Nat) (i1 : Bool) (x2 y2 : Nat) (i2 : Bool) : segOut Try.prog oTc gsF 1200 5 [] (entry gsF [slA 3 0 3 M, slA 4 0 3 M'] [(0, some (roB [.seq .u64 z0])), (1, some (roB [.seq .u64 z1])), (2, some (roB [.seq .u64 z2])), (3, some (roB [.sl 0 0 1 m0, .sl 1 0 1 m1, .sl 2 0 1 m2])), (4, some (roB [.num 6 x0, .num 6 y0, .v (.bool i0), .num 6 x1, .num 6 y1, .v (.bool i1), .num 6 x2, .num 6 y2, .v (.bool i2)]))] 5 [false, false, true, false, true, false, true, false, false, false, true, false, true, false, true, true, false, true, false, true, false, true, true, true, true, true, true, true]) = some (tt 1 ((false, false) :: tt 1 ((false, false) :: tt 4 ((false, false) :: tt 4 ((false, false) :: tt 4 ((false, false) :: tt 1 ((false, false) :: tt 2 ((false, false) :: tt 4 ((Nat.ble (0 + 1) z0.length, true) :: tt 1 ((!decide (mulE (toPt x0 y0 i0) = 0), false) :: tt 3 ((Nat.ble (0 + 1) z1.length, true) :: tt 1 ((!decide (mulE (toPt x1 y1 i1) = 0), false) :: tt 3 ((Nat.ble (0 + 1) z2.length, true) :: tt 1 ((!decide (mulE (toPt x2 y2 i2) = 0), true) :: tt 2 ((false, false) :: tt 4 ((Nat.ble (0 + 1) z0.length, true) :: tt 1 ((!decide (mulE (toPt x0 y0 i0) = 0), false) :: tt 4 ((Nat.ble (0 + 1) z1.length, true) :: tt 1 ((!decide (mulE (toPt x1 y1 i1) = 0), false) :: tt 4 ((Nat.ble (0 + 1) z2.length, true) :: tt 1 ((!decide (mulE (toPt x2 y2 i2) = 0), true) :: tt 1 ([]))))))))))))))))))))), [], boolA (decide (mulE (toPt x2 y2 i2) = mulE (toPt x2 y2 i2))), []) := by kernel_rfl
theorem su_ooo {M M' : Nat} {z0 : List Int} {m0 : Nat} {z1 : List Int} {m1 : Nat} {z2 : List Int} {m2 : Nat} {x0 y0 : Nat} {i0 : Bool} {x1 y1 : Nat} {i1 : Bool} {x2 y2 : Nat} {i2 : Bool} (h0 : 1 ≤ z0.length) (h1 : 1 ≤ z1.length) (h2 : 1 ≤ z2.length) : CanOk Try.prog 3 [slA 3 0 3 M, slA 4 0 3 M'] [(0, some (roB [.seq .u64 z0])), (1, some (roB [.seq .u64 z1])), (2, some (roB [.seq .u64 z2])), (3, some (roB [.sl 0 0 1 m0, .sl 1 0 1 m1, .sl 2 0 1 m2])), (4, some (roB [.num 6 x0, .num 6 y0, .v (.bool i0), .num 6 x1, .num 6 y1, .v (.bool i1), .num 6 x2, .num 6 y2, .v (.bool i2)]))] 5 [] (boolA true) [] := by
  have l0 : Nat.ble (0 + 1) z0.length = true := Nat.ble_eq_true_of_le h0
  have l1 : Nat.ble (0 + 1) z1.length = true := Nat.ble_eq_true_of_le h1
  have l2 : Nat.ble (0 + 1) z2.length = true := Nat.ble_eq_true_of_le h2
  by_cases e0 : mulE (toPt x0 y0 i0) = 0
  case neg =>
    have t0 := me_t e0
    exact can_bool (can_run STcok KGok Try.func3 (by kernel_rfl) (by kernel_rfl) (su_ooo_0 M M' z0 m0 z1 m1 z2 m2 x0 y0 i0 x1 y1 i1 x2 y2 i2) (by kernel_rfl) (tt_ok 1 (⟨rfl, tt_ok 1 (⟨rfl, tt_ok 4 (⟨rfl, tt_ok 4 (⟨rfl, tt_ok 4 (⟨rfl, tt_ok 1 (⟨rfl, tt_ok 2 (⟨rfl, tt_ok 4 (⟨l0, tt_ok 1 (⟨t0, tt_ok 2 (⟨rfl, tt_ok 4 (⟨l0, tt_ok 1 (⟨t0, tt_ok 1 trivial⟩)⟩)⟩)⟩)⟩)⟩)⟩)⟩)⟩)⟩)⟩)⟩))) (decide_eq_true rfl)
  have f0 := me_f e0
  by_cases e1 : mulE (toPt x1 y1 i1) = 0
  case neg =>
    have t1 := me_t e1
    exact can_bool (can_run STcok KGok Try.func3 (by kernel_rfl) (by kernel_rfl) (su_ooo_1 M M' z0 m0 z1 m1 z2 m2 x0 y0 i0 x1 y1 i1 x2 y2 i2) (by kernel_rfl) (tt_ok 1 (⟨rfl, tt_ok 1 (⟨rfl, tt_ok 4 (⟨rfl, tt_ok 4 (⟨rfl, tt_ok 4 (⟨rfl, tt_ok 1 (⟨rfl, tt_ok 2 (⟨rfl, tt_ok 4 (⟨l0, tt_ok 1 (⟨f0, tt_ok 3 (⟨l1, tt_ok 1 (⟨t1, tt_ok 2 (⟨rfl, tt_ok 4 (⟨l0, tt_ok 1 (⟨f0, tt_ok 4 (⟨l1, tt_ok 1 (⟨t1, tt_ok 1 trivial⟩)⟩)⟩)⟩)⟩)⟩)⟩)⟩)⟩)⟩)⟩)⟩)⟩)⟩)⟩)⟩))) (decide_eq_true rfl)
  have f1 := me_f e1
  by_cases e2 : mulE (toPt x2 y2 i2) = 0
  case neg =>
    have t2 := me_t e2
    exact can_bool (can_run STcok KGok Try.func3 (by kernel_rfl) (by kernel_rfl) (su_ooo_2 M M' z0 m0 z1 m1 z2 m2 x0 y0 i0 x1 y1 i1 x2 y2 i2) (by kernel_rfl) (tt_ok 1 (⟨rfl, tt_ok 1 (⟨rfl, tt_ok 4 (⟨rfl, tt_ok 4 (⟨rfl, tt_ok 4 (⟨rfl, tt_ok 1 (⟨rfl, tt_ok 2 (⟨rfl, tt_ok 4 (⟨l0, tt_ok 1 (⟨f0, tt_ok 3 (⟨l1, tt_ok 1 (⟨f1, tt_ok 3 (⟨l2, tt_ok 1 (⟨t2, tt_ok 2 (⟨rfl, tt_ok 4 (⟨l0, tt_ok 1 (⟨f0, tt_ok 4 (⟨l1, tt_ok 1 (⟨f1, tt_ok 4 (⟨l2, tt_ok 1 (⟨t2, tt_ok 1 trivial⟩)⟩)⟩)⟩)⟩)⟩)⟩)⟩)⟩)⟩)⟩)⟩)⟩)⟩)⟩)⟩)⟩)⟩)⟩)⟩))) (decide_eq_true rfl)
  have f2 := me_f e2
  exact can_val (can_run STcok KGok Try.func3 (by kernel_rfl) (by kernel_rfl) (su_ooo_n M M' z0 m0 z1 m1 z2 m2 x0 y0 i0 x1 y1 i1 x2 y2 i2) (by kernel_rfl) (tt_ok 1 (⟨rfl, tt_ok 1 (⟨rfl, tt_ok 4 (⟨rfl, tt_ok 4 (⟨rfl, tt_ok 4 (⟨rfl, tt_ok 1 (⟨rfl, tt_ok 2 (⟨rfl, tt_ok 4 (⟨l0, tt_ok 1 (⟨f0, tt_ok 3 (⟨l1, tt_ok 1 (⟨f1, tt_ok 3 (⟨l2, tt_ok 1 (⟨f2, ⟨rfl, tt_ok 2 (⟨rfl, tt_ok 4 (⟨l0, tt_ok 1 (⟨f0, tt_ok 4 (⟨l1, tt_ok 1 (⟨f1, tt_ok 4 (⟨l2, tt_ok 1 (⟨f2, tt_ok 1 (⟨rfl, ⟨eqP_rfl _, trivial⟩⟩)⟩)⟩)⟩)⟩)⟩)⟩)⟩)⟩⟩)⟩)⟩)⟩)⟩)⟩)⟩)⟩)⟩)⟩)⟩)⟩)⟩))) fun _ _ q => b_true q
theorem su_ooe_n (M M' : Nat) (z0 : List Int) (m0 : Nat) (z1 : List Int) (m1 : Nat) (a2 : Option Addr) (m2 : Nat) (x0 y0 : Nat) (i0 : Bool) (x1 y1 : Nat) (i1 : Bool) (x2 y2 : Nat) (i2 : Bool) : segOut Try.prog oTc gsF 1200 4 [] (entry gsF [slA 2 0 3 M, slA 3 0 3 M'] [(0, some (roB [.seq .u64 z0])), (1, some (roB [.seq .u64 z1])), (2, some (roB [.sl 0 0 1 m0, .sl 1 0 1 m1, .v (.slice a2 0 m2)])), (3, some (roB [.num 6 x0, .num 6 y0, .v (.bool i0), .num 6 x1, .num 6 y1, .v (.bool i1), .num 6 x2, .num 6 y2, .v (.bool i2)]))] 4 [false, false, true, false, true, false, true, false, false, false, true, false, true, false, true, false, false, false, true, false, true, false, true, false, false, true, true, true, true, true]) = some (tt 1 ((false, false) :: tt 1 ((false, false) :: tt 4 ((false, false) :: tt 4 ((false, false) :: tt 4 ((false, false) :: tt 1 ((false, false) :: tt 2 ((false, false) :: tt 4 ((Nat.ble (0 + 1) z0.length, true) :: tt 1 ((!decide (mulE (toPt x0 y0 i0) = 0), false) :: tt 3 ((Nat.ble (0 + 1) z1.length, true) :: tt 1 ((!decide (mulE (toPt x1 y1 i1) = 0), false) :: tt 3 ((!decide (mulE (toPt x2 y2 i2) = 0), false) :: (false, false) :: tt 2 ((false, false) :: tt 4 ((Nat.ble (0 + 1) z0.length, true) :: tt 1 ((!decide (mulE (toPt x0 y0 i0) = 0), false) :: tt 4 ((Nat.ble (0 + 1) z1.length, true) :: tt 1 ((!decide (mulE (toPt x1 y1 i1) = 0), false) :: tt 4 ((!decide (mulE (toPt x2 y2 i2) = 0), false) :: tt 1 ((false, false) :: (suE (add (toPt' (add (toPt' (add (toPt 0 0 true) (toPt' (mulP (natL (win z0 0 1)) (toPt x0 y0 i0))))) (toPt' (mulP (natL (win z1 0 1)) (toPt x1 y1 i1))))) (toPt' (mulP 0 (toPt x2 y2 i2)))), true) :: []))))))))))))))))))), [], tB, []) := by kernel_rfl
theorem su_ooe_0 (M M' : Nat) (z0 : List Int) (m0 : Nat) (z1 : List Int) (m1 : Nat) (a2 : Option Addr) (m2 : Nat) (x0 y0 : Nat) (i0 : Bool) (x1 y1 : Nat) (i1 : Bool) (x2 y2 : Nat) (i2 : Bool) : segOut Try.prog oTc gsF 1200 4 [] (entry gsF [slA 2 0 3 M, slA 3 0 3 M'] [(0, some (roB [.seq .u64 z0])), (1, some (roB [.seq .u64 z1])), (2, some (roB [.sl 0 0 1 m0, .sl 1 0 1 m1, .v (.slice a2 0 m2)])), (3, some (roB [.num 6 x0, .num 6 y0, .v (.bool i0), .num 6 x1, .num 6 y1, .v (.bool i1), .num 6 x2, .num 6 y2, .v (.bool i2)]))] 4 [false, false, true, false, true, false, true, false, false, false, true, true, false, true, true, true, true, true, true, true]) = some (tt 1 ((false, false) :: tt 1 ((false, false) :: tt 4 ((false, false) :: tt 4 ((false, false) :: tt 4 ((false, false) :: tt 1 ((false, false) :: tt 2 ((false, false) :: tt 4 ((Nat.ble (0 + 1) z0.length, true) :: tt 1 ((!decide (mulE (toPt x0 y0 i0) = 0), true) :: tt 2 ((false, false) :: tt 4 ((Nat.ble (0 + 1) z0.length, true) :: tt 1 ((!decide (mulE (toPt x0 y0 i0) = 0), true) :: tt 1 ([]))))))))))))), [], boolA (decide (mulE (toPt x0 y0 i0) = mulE (toPt x0 y0 i0))), []) := by kernel_rfl
theorem su_ooe_1 (M M' : Nat) (z0 : List Int) (m0 : Nat) (z1 : List Int) (m1 : Nat) (a2 : Option Addr) (m2 : Nat) (x0 y0 : Nat) (i0 : Bool) (x1 y1 : Nat) (i1 : Bool) (x2 y2 : Nat) (i2 : Bool) : segOut Try.prog oTc gsF 1200 4 [] (entry gsF [slA 2 0 3 M, slA 3 0 3 M'] [(0, some (roB [.seq .u64 z0])), (1, some (roB [.seq .u64 z1])), (2, some (roB [.sl 0 0 1 m0, .sl 1 0 1 m1, .v (.slice a2 0 m2)])), (3, some (roB [.num 6 x0, .num 6 y0, .v (.bool i0), .num 6 x1, .num 6 y1, .v (.bool i1), .num 6 x2, .num 6 y2, .v (.bool i2)]))] 4 [false, false, true, false, true, false, true, false, false, false, true, false, true, true, false, true, false, true, true, true, true, true, true, true]) = some (tt 1 ((false, false) :: tt 1 ((false, false) :: tt 4 ((false, false) :: tt 4 ((false, false) :: tt 4 ((false, false) :: tt 1 ((false, false) :: tt 2 ((false, false) :: tt 4 ((Nat.ble (0 + 1) z0.length, true) :: tt 1 ((!decide (mulE (toPt x0 y0 i0) = 0), false) :: tt 3 ((Nat.ble (0 + 1) z1.length, true) :: tt 1 ((!decide (mulE (toPt x1 y1 i1) = 0), true) :: tt 2 ((false, false) :: tt 4 ((Nat.ble (0 + 1) z0.length, true) :: tt 1 ((!decide (mulE (toPt x0 y0 i0) = 0), false) :: tt 4 ((Nat.ble (0 + 1) z1.length, true) :: tt 1 ((!decide (mulE (toPt x1 y1 i1) = 0), true) :: tt 1 ([]))))))))))))))))), [], boolA (decide (mulE (toPt x1 y1 i1) = mulE (toPt x1 y1 i1))), []) := by kernel_rfl
theorem su_ooe_2 (M M' : Nat) (z0 : List Int) (m0 : Nat) (z1 : List Int) (m1 : Nat) (a2 : Option Addr) (m2 : Nat) (x0 y0 : Nat) (i0 : Bool) (x1 y1 : Nat) (i1 : Bool) (x2 y2 : Nat) (i2 : Bool) : segOut Try.prog oTc gsF 1200 4 [] (entry gsF [slA 2 0 3 M, slA 3 0 3 M'] [(0, some (roB [.seq .u64 z0])), (1, some (roB [.seq .u64 z1])), (2, some (roB [.sl 0 0 1 m0, .sl 1 0 1 m1, .v (.slice a2 0 m2)])), (3, some (roB [.num 6 x0, .num 6 y0, .v (.bool i0), .num 6 x1, .num 6 y1, .v (.bool i1), .num 6 x2, .num 6 y2, .v (.bool i2)]))] 4 [false, false, true, false, true, false, true, false, false, false, true, false, true, false, true, true, false, true, false, true, false, true, true, true, true, true, true, true]) = some (tt 1 ((false, false) :: tt 1 ((false, false) :: tt 4 ((false, false) :: tt 4 ((false, false) :: tt 4 ((false, false) :: tt 1 ((false, false) :: tt 2 ((false, false) :: tt 4 ((Nat.ble (0 + 1) z0.length, true) :: tt 1 ((!decide (mulE (toPt x0 y0 i0) = 0), false) :: tt 3 ((Nat.ble (0 + 1) z1.length, true) :: tt 1 ((!decide (mulE (toPt x1 y1 i1) = 0), false) :: tt 3 ((!decide (mulE (toPt x2 y2 i2) = 0), true) :: tt 2 ((false, false) :: tt 4 ((Nat.ble (0 + 1) z0.length, true) :: tt 1 ((!decide (mulE (toPt x0 y0 i0) = 0), false) :: tt 4 ((Nat.ble (0 + 1) z1.length, true) :: tt 1 ((!decide (mulE (toPt x1 y1 i1) = 0), false) :: tt 4 ((!decide (mulE (toPt x2 y2 i2) = 0), true) :: tt 1 ([]))))))))))))))))))), [], boolA (decide (mulE (toPt x2 y2 i2) = mulE (toPt x2 y2 i2))), []) := by kernel_rfl
theorem su_ooe {M M' : Nat} {z0 : List Int} {m0 : Nat} {z1 : List Int} {m1 : Nat} {a2 : Option Addr} {m2 : Nat} {x0 y0 : Nat} {i0 : Bool} {x1 y1 : Nat} {i1 : Bool} {x2 y2 : Nat} {i2 : Bool} (h0 : 1 ≤ z0.length) (h1 : 1 ≤ z1.length) : CanOk Try.prog 3 [slA 2 0 3 M, slA 3 0 3 M'] [(0, some (roB [.seq .u64 z0])), (1, some (roB [.seq .u64 z1])), (2, some (roB [.sl 0 0 1 m0, .sl 1 0 1 m1, .v (.slice a2 0 m2)])), (3, some (roB [.num 6 x0, .num 6 y0, .v (.bool i0), .num 6 x1, .num 6 y1, .v (.bool i1), .num 6 x2, .num 6 y2, .v (.bool i2)]))] 4 [] (boolA true) [] := by
  have l0 : Nat.ble (0 + 1) z0.length = true := Nat.ble_eq_true_of_le h0
  have l1 : Nat.ble (0 + 1) z1.length = true := Nat.ble_eq_true_of_le h1
  by_cases e0 : mulE (toPt x0 y0 i0) = 0
  case neg =>
    have t0 := me_t e0
    exact can_bool (can_run STcok KGok Try.func3 (by kernel_rfl) (by kernel_rfl) (su_ooe_0 M M' z0 m0 z1 m1 a2 m2 x0 y0 i0 x1 y1 i1 x2 y2 i2) (by kernel_rfl) (tt_ok 1 (⟨rfl, tt_ok 1 (⟨rfl, tt_ok 4 (⟨rfl, tt_ok 4 (⟨rfl, tt_ok 4 (⟨rfl, tt_ok 1 (⟨rfl, tt_ok 2 (⟨rfl, tt_ok 4 (⟨l0, tt_ok 1 (⟨t0, tt_ok 2 (⟨rfl, tt_ok 4 (⟨l0, tt_ok 1 (⟨t0, tt_ok 1 trivial⟩)⟩)⟩)⟩)⟩)⟩)⟩)⟩)⟩)⟩)⟩)⟩))) (decide_eq_true rfl)
  have f0 := me_f e0
  by_cases e1 : mulE (toPt x1 y1 i1) = 0
  case neg =>
    have t1 := me_t e1
    exact can_bool (can_run STcok KGok Try.func3 (by kernel_rfl) (by kernel_rfl) (su_ooe_1 M M' z0 m0 z1 m1 a2 m2 x0 y0 i0 x1 y1 i1 x2 y2 i2) (by kernel_rfl) (tt_ok 1 (⟨rfl, tt_ok 1 (⟨rfl, tt_ok 4 (⟨rfl, tt_ok 4 (⟨rfl, tt_ok 4 (⟨rfl, tt_ok 1 (⟨rfl, tt_ok 2 (⟨rfl, tt_ok 4 (⟨l0, tt_ok 1 (⟨f0, tt_ok 3 (⟨l1, tt_ok 1 (⟨t1, tt_ok 2 (⟨rfl, tt_ok 4 (⟨l0, tt_ok 1 (⟨f0, tt_ok 4 (⟨l1, tt_ok 1 (⟨t1, tt_ok 1 trivial⟩)⟩)⟩)⟩)⟩)⟩)⟩)⟩)⟩)⟩)⟩)⟩)⟩)⟩)⟩)⟩))) (decide_eq_true rfl)
  have f1 := me_f e1
  by_cases e2 : mulE (toPt x2 y2 i2) = 0
  case neg =>
    have t2 := me_t e2
    exact can_bool (can_run STcok KGok Try.func3 (by kernel_rfl) (by kernel_rfl) (su_ooe_2 M M' z0 m0 z1 m1 a2 m2 x0 y0 i0 x1 y1 i1 x2 y2 i2) (by kernel_rfl) (tt_ok 1 (⟨rfl, tt_ok 1 (⟨rfl, tt_ok 4 (⟨rfl, tt_ok 4 (⟨rfl, tt_ok 4 (⟨rfl, tt_ok 1 (⟨rfl, tt_ok 2 (⟨rfl, tt_ok 4 (⟨l0, tt_ok 1 (⟨f0, tt_ok 3 (⟨l1, tt_ok 1 (⟨f1, tt_ok 3 (⟨t2, tt_ok 2 (⟨rfl, tt_ok 4 (⟨l0, tt_ok 1 (⟨f0, tt_ok 4 (⟨l1, tt_ok 1 (⟨f1, tt_ok 4 (⟨t2, tt_ok 1 trivial⟩)⟩)⟩)⟩)⟩)⟩)⟩)⟩)⟩)⟩)⟩)⟩)⟩)⟩)⟩)⟩)⟩)⟩))) (decide_eq_true rfl)
  have f2 := me_f e2
  exact can_val (can_run STcok KGok Try.func3 (by kernel_rfl) (by kernel_rfl) (su_ooe_n M M' z0 m0 z1 m1 a2 m2 x0 y0 i0 x1 y1 i1 x2 y2 i2) (by kernel_rfl) (tt_ok 1 (⟨rfl, tt_ok 1 (⟨rfl, tt_ok 4 (⟨rfl, tt_ok 4 (⟨rfl, tt_ok 4 (⟨rfl, tt_ok 1 (⟨rfl, tt_ok 2 (⟨rfl, tt_ok 4 (⟨l0, tt_ok 1 (⟨f0, tt_ok 3 (⟨l1, tt_ok 1 (⟨f1, tt_ok 3 (⟨f2, ⟨rfl, tt_ok 2 (⟨rfl, tt_ok 4 (⟨l0, tt_ok 1 (⟨f0, tt_ok 4 (⟨l1, tt_ok 1 (⟨f1, tt_ok 4 (⟨f2, tt_ok 1 (⟨rfl, ⟨eqP_rfl _, trivial⟩⟩)⟩)⟩)⟩)⟩)⟩)⟩)⟩⟩)⟩)⟩)⟩)⟩)⟩)⟩)⟩)⟩)⟩)⟩)⟩))) fun _ _ q => b_true q
theorem su_oeo_n (M M' : Nat) (z0 : List Int) (m0 : Nat) (a1 : Option Addr) (m1 : Nat) (z2 : List Int) (m2 : Nat) (x0 y0 : Nat) (i0 : Bool) (x1 y1 : Nat) (i1 : Bool) (x2 y2 : Nat) (i2 : Bool) : segOut Try.prog oTc gsF 1200 4 [] (entry gsF [slA 2 0 3 M, slA 3 0 3 M'] [(0, some (roB [.seq .u64 z0])), (1, some (roB [.seq .u64 z2])), (2, some (roB [.sl 0 0 1 m0, .v (.slice a1 0 m1), .sl 1 0 1 m2])), (3, some (roB [.num 6 x0, .num 6 y0, .v (.bool i0), .num 6 x1, .num 6 y1, .v (.bool i1), .num 6 x2, .num 6 y2, .v (.bool i2)]))] 4 [false, false, true, false, true, false, true, false, false, false, true, false, true, false, true, false, false, false, true, false, true, false, true, false, false, true, true, true, true, true]) = some (tt 1 ((false, false) :: tt 1 ((false, false) :: tt 4 ((false, false) :: tt 4 ((false, false) :: tt 4 ((false, false) :: tt 1 ((false, false) :: tt 2 ((false, false) :: tt 4 ((Nat.ble (0 + 1) z0.length, true) :: tt 1 ((!decide (mulE (toPt x0 y0 i0) = 0), false) :: tt 3 ((!decide (mulE (toPt x1 y1 i1) = 0), false) :: tt 3 ((Nat.ble (0 + 1) z2.length, true) :: tt 1 ((!decide (mulE (toPt x2 y2 i2) = 0), false) :: (false, false) :: tt 2 ((false, false) :: tt 4 ((Nat.ble (0 + 1) z0.length, true) :: tt 1 ((!decide (mulE (toPt x0 y0 i0) = 0), false) :: tt 4 ((!decide (mulE (toPt x1 y1 i1) = 0), false) :: tt 4 ((Nat.ble (0 + 1) z2.length, true) :: tt 1 ((!decide (mulE (toPt x2 y2 i2) = 0), false) :: tt 1 ((false, false) :: (suE (add (toPt' (add (toPt' (add (toPt 0 0 true) (toPt' (mulP (natL (win z0 0 1)) (toPt x0 y0 i0))))) (toPt' (mulP 0 (toPt x1 y1 i1))))) (toPt' (mulP (natL (win z2 0 1)) (toPt x2 y2 i2)))), true) :: []))))))))))))))))))), [], tB, []) := by kernel_rfl
theorem su_oeo_0 (M M' : Nat) (z0 : List Int) (m0 : Nat) (a1 : Option Addr) (m1 : Nat) (z2 : List Int) (m2 : Nat) (x0 y0 : Nat) (i0 : Bool) (x1 y1 : Nat) (i1 : Bool) (x2 y2 : Nat) (i2 : Bool) : segOut Try.prog oTc gsF 1200 4 [] (entry gsF [slA 2 0 3 M, slA 3 0 3 M'] [(0, some (roB [.seq .u64 z0])), (1, some (roB [.seq .u64 z2])), (2, some (roB [.sl 0 0 1 m0, .v (.slice a1 0 m1), .sl 1 0 1 m2])), (3, some (roB [.num 6 x0, .num 6 y0, .v (.bool i0), .num 6 x1, .num 6 y1, .v (.bool i1), .num 6 x2, .num 6 y2, .v (.bool i2)]))] 4 [false, false, true, false, true, false, true, false, false, false, true, true, false, true, true, true, true, true, true, true]) = some (tt 1 ((false, false) :: tt 1 ((false, false) :: tt 4 ((false, false) :: tt 4 ((false, false) :: tt 4 ((false, false) :: tt 1 ((false, false) :: tt 2 ((false, false) :: tt 4 ((Nat.ble (0 + 1) z0.length, true) :: tt 1 ((!decide (mulE (toPt x0 y0 i0) = 0), true) :: tt 2 ((false, false) :: tt 4 ((Nat.ble (0 + 1) z0.length, true) :: tt 1 ((!decide (mulE (toPt x0 y0 i0) = 0), true) :: tt 1 ([]))))))))))))), [], boolA (decide (mulE (toPt x0 y0 i0) = mulE (toPt x0 y0 i0))), []) := by kernel_rfl
theorem su_oeo_1 (M M' : Nat) (z0 : List Int) (m0 : Nat) (a1 : Option Addr) (m1 : Nat) (z2 : List Int) (m2 : Nat) (x0 y0 : Nat) (i0 : Bool) (x1 y1 : Nat) (i1 : Bool) (x2 y2 : Nat) (i2 : Bool) : segOut Try.prog oTc gsF 1200 4 [] (entry gsF [slA 2 0 3 M, slA 3 0 3 M'] [(0, some (roB [.seq .u64 z0])), (1, some (roB [.seq .u64 z2])), (2, some (roB [.sl 0 0 1 m0, .v (.slice a1 0 m1), .sl 1 0 1 m2])), (3, some (roB [.num 6 x0, .num 6 y0, .v (.bool i0), .num 6 x1, .num 6 y1, .v (.bool i1), .num 6 x2, .num 6 y2, .v (.bool i2)]))] 4 [false, false, true, false, true, false, true, false, false, false, true, false, true, true, false, true, false, true, true, true, true, true, true, true]) = some (tt 1 ((false, false) :: tt 1 ((false, false) :: tt 4 ((false, false) :: tt 4 ((false, false) :: tt 4 ((false, false) :: tt 1 ((false, false) :: tt 2 ((false, false) :: tt 4 ((Nat.ble (0 + 1) z0.length, true) :: tt 1 ((!decide (mulE (toPt x0 y0 i0) = 0), false) :: tt 3 ((!decide (mulE (toPt x1 y1 i1) = 0), true) :: tt 2 ((false, false) :: tt 4 ((Nat.ble (0 + 1) z0.length, true) :: tt 1 ((!decide (mulE (toPt x0 y0 i0) = 0), false) :: tt 4 ((!decide (mulE (toPt x1 y1 i1) = 0), true) :: tt 1 ([]))))))))))))))), [], boolA (decide (mulE (toPt x1 y1 i1) = mulE (toPt x1 y1 i1))), []) := by kernel_rfl
theorem su_oeo_2 (M M' : Nat) (z0 : List Int) (m0 : Nat) (a1 : Option Addr) (m1 : Nat) (z2 : List Int) (m2 : Nat) (x0 y0 : Nat) (i0 : Bool) (x1 y1 : Nat) (i1 : Bool) (x2 y2 : Nat) (i2 : Bool) : segOut Try.prog oTc gsF 1200 4 [] (entry gsF [slA 2 0 3 M, slA 3 0 3 M'] [(0, some (roB [.seq .u64 z0])), (1, some (roB [.seq .u64 z2])), (2, some (roB [.sl 0 0 1 m0, .v (.slice a1 0 m1), .sl 1 0 1 m2])), (3, some (roB [.num 6 x0, .num 6 y0, .v (.bool i0), .num 6 x1, .num 6 y1, .v (.bool i1), .num 6 x2, .num 6 y2, .v (.bool i2)]))] 4 [false, false, true, false, true, false, true, false, false, false, true, false, true, false, true, true, false, true, false, true, false, true, true, true, true, true, true, true]) = some (tt 1 ((false, false) :: tt 1 ((false, false) :: tt 4 ((false, false) :: tt 4 ((false, false) :: tt 4 ((false, false) :: tt 1 ((false, false) :: tt 2 ((false, false) :: tt 4 ((Nat.ble (0 + 1) z0.length, true) :: tt 1 ((!decide (mulE (toPt x0 y0 i0) = 0), false) :: tt 3 ((!decide (mulE (toPt x1 y1 i1) = 0), false) :: tt 3 ((Nat.ble (0 + 1) z2.length, true) :: tt 1 ((!decide (mulE (toPt x2 y2 i2) = 0), true) :: tt 2 ((false, false) :: tt 4 ((Nat.ble (0 + 1) z0.length, true) :: tt 1 ((!decide (mulE (toPt x0 y0 i0) = 0), false) :: tt 4 ((!decide (mulE (toPt x1 y1 i1) = 0), false) :: tt 4 ((Nat.ble (0 + 1) z2.length, true) :: tt 1 ((!decide (mulE (toPt x2 y2 i2) = 0), true) :: tt 1 ([]))))))))))))))))))), [], boolA (decide (mulE (toPt x2 y2 i2) = mulE (toPt x2 y2 i2))), []) := by kernel_rfl
theorem su_oeo {M M' : Nat} {z0 : List Int} {m0 : Nat} {a1 : Option Addr} {m1 : Nat} {z2 : List Int} {m2 : Nat} {x0 y0 : Nat} {i0 : Bool} {x1 y1 : Nat} {i1 : Bool} {x2 y2 : Nat} {i2 : Bool} (h0 : 1 ≤ z0.length) (h2 : 1 ≤ z2.length) : CanOk Try.prog 3 [slA 2 0 3 M, slA 3 0 3 M'] [(0, some (roB [.seq .u64 z0])), (1, some (roB [.seq .u64 z2])), (2, some (roB [.sl 0 0 1 m0, .v (.slice a1 0 m1), .sl 1 0 1 m2])), (3, some (roB [.num 6 x0, .num 6 y0, .v (.bool i0), .num 6 x1, .num 6 y1, .v (.bool i1), .num 6 x2, .num 6 y2, .v (.bool i2)]))] 4 [] (boolA true) [] := by
  have l0 : Nat.ble (0 + 1) z0.length = true := Nat.ble_eq_true_of_le h0
  have l2 : Nat.ble (0 + 1) z2.length = true := Nat.ble_eq_true_of_le h2
  by_cases e0 : mulE (toPt x0 y0 i0) = 0
  case neg =>
    have t0 := me_t e0
    exact can_bool (can_run STcok KGok Try.func3 (by kernel_rfl) (by kernel_rfl) (su_oeo_0 M M' z0 m0 a1 m1 z2 m2 x0 y0 i0 x1 y1 i1 x2 y2 i2) (by kernel_rfl) (tt_ok 1 (⟨rfl, tt_ok 1 (⟨rfl, tt_ok 4 (⟨rfl, tt_ok 4 (⟨rfl, tt_ok 4 (⟨rfl, tt_ok 1 (⟨rfl, tt_ok 2 (⟨rfl, tt_ok 4 (⟨l0, tt_ok 1 (⟨t0, tt_ok 2 (⟨rfl, tt_ok 4 (⟨l0, tt_ok 1 (⟨t0, tt_ok 1 trivial⟩)⟩)⟩)⟩)⟩)⟩)⟩)⟩)⟩)⟩)⟩)⟩))) (decide_eq_true rfl)
  have f0 := me_f e0
  by_cases e1 : mulE (toPt x1 y1 i1) = 0
  case neg =>
    have t1 := me_t e1
    exact can_bool (can_run STcok KGok Try.func3 (by kernel_rfl) (by kernel_rfl) (su_oeo_1 M M' z0 m0 a1 m1 z2 m2 x0 y0 i0 x1 y1 i1 x2 y2 i2) (by kernel_rfl) (tt_ok 1 (⟨rfl, tt_ok 1 (⟨rfl, tt_ok 4 (⟨rfl, tt_ok 4 (⟨rfl, tt_ok 4 (⟨rfl, tt_ok 1 (⟨rfl, tt_ok 2 (⟨rfl, tt_ok 4 (⟨l0, tt_ok 1 (⟨f0, tt_ok 3 (⟨t1, tt_ok 2 (⟨rfl, tt_ok 4 (⟨l0, tt_ok 1 (⟨f0, tt_ok 4 (⟨t1, tt_ok 1 trivial⟩)⟩)⟩)⟩)⟩)⟩)⟩)⟩)⟩)⟩)⟩)⟩)⟩)⟩))) (decide_eq_true rfl)
  have f1 := me_f e1
  by_cases e2 : mulE (toPt x2 y2 i2) = 0
  case neg =>
    have t2 := me_t e2
    exact can_bool (can_run STcok KGok Try.func3 (by kernel_rfl) (by kernel_rfl) (su_oeo_2 M M' z0 m0 a1 m1 z2 m2 x0 y0 i0 x1 y1 i1 x2 y2 i2) (by kernel_rfl) (tt_ok 1 (⟨rfl, tt_ok 1 (⟨rfl, tt_ok 4 (⟨rfl, tt_ok 4 (⟨rfl, tt_ok 4 (⟨rfl, tt_ok 1 (⟨rfl, tt_ok 2 (⟨rfl, tt_ok 4 (⟨l0, tt_ok 1 (⟨f0, tt_ok 3 (⟨f1, tt_ok 3 (⟨l2, tt_ok 1 (⟨t2, tt_ok 2 (⟨rfl, tt_ok 4 (⟨l0, tt_ok 1 (⟨f0, tt_ok 4 (⟨f1, tt_ok 4 (⟨l2, tt_ok 1 (⟨t2, tt_ok 1 trivial⟩)⟩)⟩)⟩)⟩)⟩)⟩)⟩)⟩)⟩)⟩)⟩)⟩)⟩)⟩)⟩)⟩)⟩))) (decide_eq_true rfl)
  have f2 := me_f e2
  exact can_val (can_run STcok KGok Try.func3 (by kernel_rfl) (by kernel_rfl) (su_oeo_n M M' z0 m0 a1 m1 z2 m2 x0 y0 i0 x1 y1 i1 x2 y2 i2) (by kernel_rfl) (tt_ok 1 (⟨rfl, tt_ok 1 (⟨rfl, tt_ok 4 (⟨rfl, tt_ok 4 (⟨rfl, tt_ok 4 (⟨rfl, tt_ok 1 (⟨rfl, tt_ok 2 (⟨rfl, tt_ok 4 (⟨l0, tt_ok 1 (⟨f0, tt_ok 3 (⟨f1, tt_ok 3 (⟨l2, tt_ok 1 (⟨f2, ⟨rfl, tt_ok 2 (⟨rfl, tt_ok 4 (⟨l0, tt_ok 1 (⟨f0, tt_ok 4 (⟨f1, tt_ok 4 (⟨l2, tt_ok 1 (⟨f2, tt_ok 1 (⟨rfl, ⟨eqP_rfl _, trivial⟩⟩)⟩)⟩)⟩)⟩)⟩)⟩)⟩⟩)⟩)⟩)⟩)⟩)⟩)⟩)⟩)⟩)⟩)⟩)⟩))) fun _ _ q => b_true q
theorem su_oee_n (M M' : Nat) (z0 : List Int) (m0 : Nat) (a1 : Option Addr) (m1 : Nat) (a2 : Option Addr) (m2 : Nat) (x0 y0 : Nat) (i0 : Bool) (x1 y1 : Nat) (i1 : Bool) (x2 y2 : Nat) (i2 : Bool) : segOut Try.prog oTc gsF 1200 3 [] (entry gsF [slA 1 0 3 M, slA 2 0 3 M'] [(0, some (roB [.seq .u64 z0])), (1, some (roB [.sl 0 0 1 m0, .v (.slice a1 0 m1), .v (.slice a2 0 m2)])), (2, some (roB [.num 6 x0, .num 6 y0, .v (.bool i0), .num 6 x1, .num 6 y1, .v (.bool i1), .num 6 x2, .num 6 y2, .v (.bool i2)]))] 3 [false, false, true, false, true, false, true, false, false, false, true, false, true, false, true, false, false, false, true, false, true, false, true, false, false, true, true, true, true, true]) = some (tt 1 ((false, false) :: tt 1 ((false, false) :: tt 4 ((false, false) :: tt 4 ((false, false) :: tt 4 ((false, false) :: tt 1 ((false, false) :: tt 2 ((false, false) :: tt 4 ((Nat.ble (0 + 1) z0.length, true) :: tt 1 ((!decide (mulE (toPt x0 y0 i0) = 0), false) :: tt 3 ((!decide (mulE (toPt x1 y1 i1) = 0), false) :: tt 3 ((!decide (mulE (toPt x2 y2 i2) = 0), false) :: (false, false) :: tt 2 ((false, false) :: tt 4 ((Nat.ble (0 + 1) z0.length, true) :: tt 1 ((!decide (mulE (toPt x0 y0 i0) = 0), false) :: tt 4 ((!decide (mulE (toPt x1 y1 i1) = 0), false) :: tt 4 ((!decide (mulE (toPt x2 y2 i2) = 0), false) :: tt 1 ((false, false) :: (suE (add (toPt' (add (toPt' (add (toPt 0 0 true) (toPt' (mulP (natL (win z0 0 1)) (toPt x0 y0 i0))))) (toPt' (mulP 0 (toPt x1 y1 i1))))) (toPt' (mulP 0 (toPt x2 y2 i2)))), true) :: []))))))))))))))))), [], tB, []) := by kernel_rfl
theorem su_oee_0 (M M' : Nat) (z0 : List Int) (m0 : Nat) (a1 : Option Addr) (m1 : Nat) (a2 : Option Addr) (m2 : Nat) (x0 y0 : Nat) (i0 : Bool) (x1 y1 : Nat) (i1 : Bool) (x2 y2 : Nat) (i2 : Bool) : segOut Try.prog oTc gsF 1200 3 [] (entry gsF [slA 1 0 3 M, slA 2 0 3 M'] [(0, some (roB [.seq .u64 z0])), (1, some (roB [.sl 0 0 1 m0, .v (.slice a1 0 m1), .v (.slice a2 0 m2)])), (2, some (roB [.num 6 x0, .num 6 y0, .v (.bool i0), .num 6 x1, .num 6 y1, .v (.bool i1), .num 6 x2, .num 6 y2, .v (.bool i2)]))] 3 [false, false, true, false, true, false, true, false, false, false, true, true, false, true, true, true, true, true, true, true]) = some (tt 1 ((false, false) :: tt 1 ((false, false) :: tt 4 ((false, false) :: tt 4 ((false, false) :: tt 4 ((false, false) :: tt 1 ((false, false) :: tt 2 ((false, false) :: tt 4 ((Nat.ble (0 + 1) z0.length, true) :: tt 1 ((!decide (mulE (toPt x0 y0 i0) = 0), true) :: tt 2 ((false, false) :: tt 4 ((Nat.ble (0 + 1) z0.length, true) :: tt 1 ((!decide (mulE (toPt x0 y0 i0) = 0), true) :: tt 1 ([]))))))))))))), [], boolA (decide (mulE (toPt x0 y0 i0) = mulE (toPt x0 y0 i0))), []) := by kernel_rfl
theorem su_oee_1 (M M' : Nat) (z0 : List Int) (m0 : Nat) (a1 : Option Addr) (m1 : Nat) (a2 : Option Addr) (m2 : Nat) (x0 y0 : Nat) (i0 : Bool) (x1 y1 : Nat) (i1 : Bool) (x2 y2 : Nat) (i2 : Bool) : segOut Try.prog oTc gsF 1200 3 [] (entry gsF [slA 1 0 3 M, slA 2 0 3 M'] [(0, some (roB [.seq .u64 z0])), (1, some (roB [.sl 0 0 1 m0, .v (.slice a1 0 m1), .v (.slice a2 0 m2)])), (2, some (roB [.num 6 x0, .num 6 y0, .v (.bool i0), .num 6 x1, .num 6 y1, .v (.bool i1), .num 6 x2, .num 6 y2, .v (.bool i2)]))] 3 [false, false, true, false, true, false, true, false, false, false, true, false, true, true, false, true, false, true, true, true, true, true, true, true]) = some (tt 1 ((false, false) :: tt 1 ((false, false) :: tt 4 ((false, false) :: tt 4 ((false, false) :: tt 4 ((false, false) :: tt 1 ((false, false) :: tt 2 ((false, false) :: tt 4 ((Nat.ble (0 + 1) z0.length, true) :: tt 1 ((!decide (mulE (toPt x0 y0 i0) = 0), false) :: tt 3 ((!decide (mulE (toPt x1 y1 i1) = 0), true) :: tt 2 ((false, false) :: tt 4 ((Nat.ble (0 + 1) z0.length, true) :: tt 1 ((!decide (mulE (toPt x0 y0 i0) = 0), false) :: tt 4 ((!decide (mulE (toPt x1 y1 i1) = 0), true) :: tt 1 ([]))))))))))))))), [], boolA (decide (mulE (toPt x1 y1 i1) = mulE (toPt x1 y1 i1))), []) := by kernel_rfl
theorem su_oee_2 (M M' : Nat) (z0 : List Int) (m0 : Nat) (a1 : Option Addr) (m1 : Nat) (a2 : Option Addr) (m2 : Nat) (x0 y0 : Nat) (i0 : Bool) (x1 y1 : Nat) (i1 : Bool) (x2 y2 : Nat) (i2 : Bool) : segOut Try.prog oTc gsF 1200 3 [] (entry gsF [slA 1 0 3 M, slA 2 0 3 M'] [(0, some (roB [.seq .u64 z0])), (1, some (roB [.sl 0 0 1 m0, .v (.slice a1 0 m1), .v (.slice a2 0 m2)])), (2, some (roB [.num 6 x0, .num 6 y0, .v (.bool i0), .num 6 x1, .num 6 y1, .v (.bool i1), .num 6 x2, .num 6 y2, .v (.bool i2)]))] 3 [false, false, true, false, true, false, true, false, false, false, true, false, true, false, true, true, false, true, false, true, false, true, true, true, true, true, true, true]) = some (tt 1 ((false, false) :: tt 1 ((false, false) :: tt 4 ((false, false) :: tt 4 ((false, false) :: tt 4 ((false, false) :: tt 1 ((false, false) :: tt 2 ((false, false) :: tt 4 ((Nat.ble (0 + 1) z0.length, true) :: tt 1 ((!decide (mulE (toPt x0 y0 i0) = 0), false) :: tt 3 ((!decide (mulE (toPt x1 y1 i1) = 0), false) :: tt 3 ((!decide (mulE (toPt x2 y2 i2) = 0), true) :: tt 2 ((false, false) :: tt 4 ((Nat.ble (0 + 1) z0.length, true) :: tt 1 ((!decide (mulE (toPt x0 y0 i0) = 0), false) :: tt 4 ((!decide (mulE (toPt x1 y1 i1) = 0), false) :: tt 4 ((!decide (mulE (toPt x2 y2 i2) = 0), true) :: tt 1 ([]))))))))))))))))), [], boolA (decide (mulE (toPt x2 y2 i2) = mulE (toPt x2 y2 i2))), []) := by kernel_rfl
theorem su_oee {M M' : Nat} {z0 : List Int} {m0 : Nat} {a1 : Option Addr} {m1 : Nat} {a2 : Option Addr} {m2 : Nat} {x0 y0 : Nat} {i0 : Bool} {x1 y1 : Nat} {i1 : Bool} {x2 y2 : Nat} {i2 : Bool} (h0 : 1 ≤ z0.length) : CanOk Try.prog 3 [slA 1 0 3 M, slA 2 0 3 M'] [(0, some (roB [.seq .u64 z0])), (1, some (roB [.sl 0 0 1 m0, .v (.slice a1 0 m1), .v (.slice a2 0 m2)])), (2, some (roB [.num 6 x0, .num 6 y0, .v (.bool i0), .num 6 x1, .num 6 y1, .v (.bool i1), .num 6 x2, .num 6 y2, .v (.bool i2)]))] 3 [] (boolA true) [] := by
  have l0 : Nat.ble (0 + 1) z0.length = true := Nat.ble_eq_true_of_le h0
  by_cases e0 : mulE (toPt x0 y0 i0) = 0
  case neg =>
    have t0 := me_t e0
    exact can_bool (can_run STcok KGok Try.func3 (by kernel_rfl) (by kernel_rfl) (su_oee_0 M M' z0 m0 a1 m1 a2 m2 x0 y0 i0 x1 y1 i1 x2 y2 i2) (by kernel_rfl) (tt_ok 1 (⟨rfl, tt_ok 1 (⟨rfl, tt_ok 4 (⟨rfl, tt_ok 4 (⟨rfl, tt_ok 4 (⟨rfl, tt_ok 1 (⟨rfl, tt_ok 2 (⟨rfl, tt_ok 4 (⟨l0, tt_ok 1 (⟨t0, tt_ok 2 (⟨rfl, tt_ok 4 (⟨l0, tt_ok 1 (⟨t0, tt_ok 1 trivial⟩)⟩)⟩)⟩)⟩)⟩)⟩)⟩)⟩)⟩)⟩)⟩))) (decide_eq_true rfl)
  have f0 := me_f e0
  by_cases e1 : mulE (toPt x1 y1 i1) = 0
  case neg =>
    have t1 := me_t e1
    exact can_bool (can_run STcok KGok Try.func3 (by kernel_rfl) (by kernel_rfl) (su_oee_1 M M' z0 m0 a1 m1 a2 m2 x0 y0 i0 x1 y1 i1 x2 y2 i2) (by kernel_rfl) (tt_ok 1 (⟨rfl, tt_ok 1 (⟨rfl, tt_ok 4 (⟨rfl, tt_ok 4 (⟨rfl, tt_ok 4 (⟨rfl, tt_ok 1 (⟨rfl, tt_ok 2 (⟨rfl, tt_ok 4 (⟨l0, tt_ok 1 (⟨f0, tt_ok 3 (⟨t1, tt_ok 2 (⟨rfl, tt_ok 4 (⟨l0, tt_ok 1 (⟨f0, tt_ok 4 (⟨t1, tt_ok 1 trivial⟩)⟩)⟩)⟩)⟩)⟩)⟩)⟩)⟩)⟩)⟩)⟩)⟩)⟩))) (decide_eq_true rfl)
  have f1 := me_f e1
  by_cases e2 : mulE (toPt x2 y2 i2) = 0
  case neg =>
    have t2 := me_t e2
    exact can_bool (can_run STcok KGok Try.func3 (by kernel_rfl) (by kernel_rfl) (su_oee_2 M M' z0 m0 a1 m1 a2 m2 x0 y0 i0 x1 y1 i1 x2 y2 i2) (by kernel_rfl) (tt_ok 1 (⟨rfl, tt_ok 1 (⟨rfl, tt_ok 4 (⟨rfl, tt_ok 4 (⟨rfl, tt_ok 4 (⟨rfl, tt_ok 1 (⟨rfl, tt_ok 2 (⟨rfl, tt_ok 4 (⟨l0, tt_ok 1 (⟨f0, tt_ok 3 (⟨f1, tt_ok 3 (⟨t2, tt_ok 2 (⟨rfl, tt_ok 4 (⟨l0, tt_ok 1 (⟨f0, tt_ok 4 (⟨f1, tt_ok 4 (⟨t2, tt_ok 1 trivial⟩)⟩)⟩)⟩)⟩)⟩)⟩)⟩)⟩)⟩)⟩)⟩)⟩)⟩)⟩)⟩))) (decide_eq_true rfl)
  have f2 := me_f e2
  exact can_val (can_run STcok KGok Try.func3 (by kernel_rfl) (by kernel_rfl) (su_oee_n M M' z0 m0 a1 m1 a2 m2 x0 y0 i0 x1 y1 i1 x2 y2 i2) (by kernel_rfl) (tt_ok 1 (⟨rfl, tt_ok 1 (⟨rfl, tt_ok 4 (⟨rfl, tt_ok 4 (⟨rfl, tt_ok 4 (⟨rfl, tt_ok 1 (⟨rfl, tt_ok 2 (⟨rfl, tt_ok 4 (⟨l0, tt_ok 1 (⟨f0, tt_ok 3 (⟨f1, tt_ok 3 (⟨f2, ⟨rfl, tt_ok 2 (⟨rfl, tt_ok 4 (⟨l0, tt_ok 1 (⟨f0, tt_ok 4 (⟨f1, tt_ok 4 (⟨f2, tt_ok 1 (⟨rfl, ⟨eqP_rfl _, trivial⟩⟩)⟩)⟩)⟩)⟩)⟩)⟩⟩)⟩)⟩)⟩)⟩)⟩)⟩)⟩)⟩)⟩)⟩))) fun _ _ q => b_true q
theorem su_eoo_n (M M' : Nat) (a0 : Option Addr) (m0 : Nat) (z1 : List Int) (m1 : Nat) (z2 : List Int) (m2 : Nat) (x0 y0 : Nat) (i0 : Bool) (x1 y1 : Nat) (i1 : Bool) (x2 y2 : Nat) (i2 : Bool) : segOut Try.prog oTc gsF 1200 4 [] (entry gsF [slA 2 0 3 M, slA 3 0 3 M'] [(0, some (roB [.seq .u64 z1])), (1, some (roB [.seq .u64 z2])), (2, some (roB [.v (.slice a0 0 m0), .sl 0 0 1 m1, .sl 1 0 1 m2])), (3, some (roB [.num 6 x0, .num 6 y0, .v (.bool i0), .num 6 x1, .num 6 y1, .v (.bool i1), .num 6 x2, .num 6 y2, .v (.bool i2)]))] 4 [false, false, true, false, true, false, true, false, false, false, true, false, true, false, true, false, false, false, true, false, true, false, true, false, false, true, true, true, true, true]) = some (tt 1 ((false, false) :: tt 1 ((false, false) :: tt 4 ((false, false) :: tt 4 ((false, false) :: tt 4 ((false, false) :: tt 1 ((false, false) :: tt 2 ((false, false) :: tt 4 ((!decide (mulE (toPt x0 y0 i0) = 0), false) :: tt 3 ((Nat.ble (0 + 1) z1.length, true) :: tt 1 ((!decide (mulE (toPt x1 y1 i1) = 0), false) :: tt 3 ((Nat.ble (0 + 1) z2.length, true) :: tt 1 ((!decide (mulE (toPt x2 y2 i2) = 0), false) :: (false, false) :: tt 2 ((false, false) :: tt 4 ((!decide (mulE (toPt x0 y0 i0) = 0), false) :: tt 4 ((Nat.ble (0 + 1) z1.length, true) :: tt 1 ((!decide (mulE (toPt x1 y1 i1) = 0), false) :: tt 4 ((Nat.ble (0 + 1) z2.length, true) :: tt 1 ((!decide (mulE (toPt x2 y2 i2) = 0), false) :: tt 1 ((false, false) :: (suE (add (toPt' (add (toPt' (add (toPt 0 0 true) (toPt' (mulP 0 (toPt x0 y0 i0))))) (toPt' (mulP (natL (win z1 0 1)) (toPt x1 y1 i1))))) (toPt' (mulP (natL (win z2 0 1)) (toPt x2 y2 i2)))), true) :: []))))))))))))))))))), [], tB, []) := by kernel_rfl
theorem su_eoo_0 (M M' : Nat) (a0 : Option Addr) (m0 : Nat) (z1 : List Int) (m1 : Nat) (z2 : List Int) (m2 : Nat) (x0 y0 : Nat) (i0 : Bool) (x1 y1 : Nat) (i1 : Bool) (x2 y2 : Nat) (i2 : Bool) : segOut Try.prog oTc gsF 1200 4 [] (entry gsF [slA 2 0 3 M, slA 3 0 3 M'] [(0, some (roB [.seq .u64 z1])), (1, some (roB [.seq .u64 z2])), (2, some (roB [.v (.slice a0 0 m0), .sl 0 0 1 m1, .sl 1 0 1 m2])), (3, some (roB [.num 6 x0, .num 6 y0, .v (.bool i0), .num 6 x1, .num 6 y1, .v (.bool i1), .num 6 x2, .num 6 y2, .v (.bool i2)]))] 4 [false, false, true, false, true, false, true, false, false, false, true, true, false, true, true, true, true, true, true, true]) = some (tt 1 ((false, false) :: tt 1 ((false, false) :: tt 4 ((false, false) :: tt 4 ((false, false) :: tt 4 ((false, false) :: tt 1 ((false, false) :: tt 2 ((false, false) :: tt 4 ((!decide (mulE (toPt x0 y0 i0) = 0), true) :: tt 2 ((false, false) :: tt 4 ((!decide (mulE (toPt x0 y0 i0) = 0), true) :: tt 1 ([]))))))))))), [], boolA (decide (mulE (toPt x0 y0 i0) = mulE (toPt x0 y0 i0))), []) := by kernel_rfl
theorem su_eoo_1 (M M' : Nat) (a0 : Option Addr) (m0 : Nat) (z1 : List Int) (m1 : Nat) (z2 : List Int) (m2 : Nat) (x0 y0 : Nat) (i0 : Bool) (x1 y1 : Nat) (i1 : Bool) (x2 y2 : Nat) (i2 : Bool) : segOut Try.prog oTc gsF 1200 4 [] (entry gsF [slA 2 0 3 M, slA 3 0 3 M'] [(0, some (roB [.seq .u64 z1])), (1, some (roB [.seq .u64 z2])), (2, some (roB [.v (.slice a0 0 m0), .sl 0 0 1 m1, .sl 1 0 1 m2])), (3, some (roB [.num 6 x0, .num 6 y0, .v (.bool i0), .num 6 x1, .num 6 y1, .v (.bool i1), .num 6 x2, .num 6 y2, .v (.bool i2)]))] 4 [false, false, true, false, true, false, true, false, false, false, true, false, true, true, false, true, false, true, true, true, true, true, true, true]) = some (tt 1 ((false, false) :: tt 1 ((false, false) :: tt 4 ((false, false) :: tt 4 ((false, false) :: tt 4 ((false, false) :: tt 1 ((false, false) :: tt 2 ((false, false) :: tt 4 ((!decide (mulE (toPt x0 y0 i0) = 0), false) :: tt 3 ((Nat.ble (0 + 1) z1.length, true) :: tt 1 ((!decide (mulE (toPt x1 y1 i1) = 0), true) :: tt 2 ((false, false) :: tt 4 ((!decide (mulE (toPt x0 y0 i0) = 0), false) :: tt 4 ((Nat.ble (0 + 1) z1.length, true) :: tt 1 ((!decide (mulE (toPt x1 y1 i1) = 0), true) :: tt 1 ([]))))))))))))))), [], boolA (decide (mulE (toPt x1 y1 i1) = mulE (toPt x1 y1 i1))), []) := by kernel_rfl
theorem su_eoo_2 (M M' : Nat) (a0 : Option Addr) (m0 : Nat) (z1 : List Int) (m1 : Nat) (z2 : List Int) (m2 : Nat) (x0 y0 : Nat) (i0 : Bool) (x1 y1 : Nat) (i1 : Bool) (x2 y2 : Nat) (i2 : Bool) : segOut Try.prog oTc gsF 1200 4 [] (entry gsF [slA 2 0 3 M, slA 3 0 3 M'] [(0, some (roB [.seq .u64 z1])), (1, some (roB [.seq .u64 z2])), (2, some (roB [.v (.slice a0 0 m0), .sl 0 0 1 m1, .sl 1 0 1 m2])), (3, some (roB [.num 6 x0, .num 6 y0, .v (.bool i0), .num 6 x1, .num 6 y1, .v (.bool i1), .num 6 x2, .num 6 y2, .v (.bool i2)]))] 4 [false, false, true, false, true, false, true, false, false, false, true, false, true, false, true, true, false, true, false, true, false, true, true, true, true, true, true, true]) = some (tt 1 ((false, false) :: tt 1 ((false, false) :: tt 4 ((false, false) :: tt 4 ((false, false) :: tt 4 ((false, false) :: tt 1 ((false, false) :: tt 2 ((false, false) :: tt 4 ((!decide (mulE (toPt x0 y0 i0) = 0), false) :: tt 3 ((Nat.ble (0 + 1) z1.length, true) :: tt 1 ((!decide (mulE (toPt x1 y1 i1) = 0), false) :: tt 3 ((Nat.ble (0 + 1) z2.length, true) :: tt 1 ((!decide (mulE (toPt x2 y2 i2) = 0), true) :: tt 2 ((false, false) :: tt 4 ((!decide (mulE (toPt x0 y0 i0) = 0), false) :: tt 4 ((Nat.ble (0 + 1) z1.length, true) :: tt 1 ((!decide (mulE (toPt x1 y1 i1) = 0), false) :: tt 4 ((Nat.ble (0 + 1) z2.length, true) :: tt 1 ((!decide (mulE (toPt x2 y2 i2) = 0), true) :: tt 1 ([]))))))))))))))))))), [], boolA (decide (mulE (toPt x2 y2 i2) = mulE (toPt x2 y2 i2))), []) := by kernel_rfl
theorem su_eoo {M M' : Nat} {a0 : Option Addr} {m0 : Nat} {z1 : List Int} {m1 : Nat} {z2 : List Int} {m2 : Nat} {x0 y0 : Nat} {i0 : Bool} {x1 y1 : Nat} {i1 : Bool} {x2 y2 : Nat} {i2 : Bool} (h1 : 1 ≤ z1.length) (h2 : 1 ≤ z2.length) : CanOk Try.prog 3 [slA 2 0 3 M, slA 3 0 3 M'] [(0, some (roB [.seq .u64 z1])), (1, some (roB [.seq .u64 z2])), (2, some (roB [.v (.slice a0 0 m0), .sl 0 0 1 m1, .sl 1 0 1 m2])), (3, some (roB [.num 6 x0, .num 6 y0, .v (.bool i0), .num 6 x1, .num 6 y1, .v (.bool i1), .num 6 x2, .num 6 y2, .v (.bool i2)]))] 4 [] (boolA true) [] := by
  have l1 : Nat.ble (0 + 1) z1.length = true := Nat.ble_eq_true_of_le h1
  have l2 : Nat.ble (0 + 1) z2.length = true := Nat.ble_eq_true_of_le h2
  by_cases e0 : mulE (toPt x0 y0 i0) = 0
  case neg =>
    have t0 := me_t e0
    exact can_bool (can_run STcok KGok Try.func3 (by kernel_rfl) (by kernel_rfl) (su_eoo_0 M M' a0 m0 z1 m1 z2 m2 x0 y0 i0 x1 y1 i1 x2 y2 i2) (by kernel_rfl) (tt_ok 1 (⟨rfl, tt_ok 1 (⟨rfl, tt_ok 4 (⟨rfl, tt_ok 4 (⟨rfl, tt_ok 4 (⟨rfl, tt_ok 1 (⟨rfl, tt_ok 2 (⟨rfl, tt_ok 4 (⟨t0, tt_ok 2 (⟨rfl, tt_ok 4 (⟨t0, tt_ok 1 trivial⟩)⟩)⟩)⟩)⟩)⟩)⟩)⟩)⟩)⟩))) (decide_eq_true rfl)
  have f0 := me_f e0
  by_cases e1 : mulE (toPt x1 y1 i1) = 0
  case neg =>
    have t1 := me_t e1
    exact can_bool (can_run STcok KGok Try.func3 (by kernel_rfl) (by kernel_rfl) (su_eoo_1 M M' a0 m0 z1 m1 z2 m2 x0 y0 i0 x1 y1 i1 x2 y2 i2) (by kernel_rfl) (tt_ok 1 (⟨rfl, tt_ok 1 (⟨rfl, tt_ok 4 (⟨rfl, tt_ok 4 (⟨rfl, tt_ok 4 (⟨rfl, tt_ok 1 (⟨rfl, tt_ok 2 (⟨rfl, tt_ok 4 (⟨f0, tt_ok 3 (⟨l1, tt_ok 1 (⟨t1, tt_ok 2 (⟨rfl, tt_ok 4 (⟨f0, tt_ok 4 (⟨l1, tt_ok 1 (⟨t1, tt_ok 1 trivial⟩)⟩)⟩)⟩)⟩)⟩)⟩)⟩)⟩)⟩)⟩)⟩)⟩)⟩))) (decide_eq_true rfl)
  have f1 := me_f e1
  by_cases e2 : mulE (toPt x2 y2 i2) = 0
  case neg =>
    have t2 := me_t e2
    exact can_bool (can_run STcok KGok Try.func3 (by kernel_rfl) (by kernel_rfl) (su_eoo_2 M M' a0 m0 z1 m1 z2 m2 x0 y0 i0 x1 y1 i1 x2 y2 i2) (by kernel_rfl) (tt_ok 1 (⟨rfl, tt_ok 1 (⟨rfl, tt_ok 4 (⟨rfl, tt_ok 4 (⟨rfl, tt_ok 4 (⟨rfl, tt_ok 1 (⟨rfl, tt_ok 2 (⟨rfl, tt_ok 4 (⟨f0, tt_ok 3 (⟨l1, tt_ok 1 (⟨f1, tt_ok 3 (⟨l2, tt_ok 1 (⟨t2, tt_ok 2 (⟨rfl, tt_ok 4 (⟨f0, tt_ok 4 (⟨l1, tt_ok 1 (⟨f1, tt_ok 4 (⟨l2, tt_ok 1 (⟨t2, tt_ok 1 trivial⟩)⟩)⟩)⟩)⟩)⟩)⟩)⟩)⟩)⟩)⟩)⟩)⟩)⟩)⟩)⟩)⟩)⟩))) (decide_eq_true rfl)
  have f2 := me_f e2
  exact can_val (can_run STcok KGok Try.func3 (by kernel_rfl) (by kernel_rfl) (su_eoo_n M M' a0 m0 z1 m1 z2 m2 x0 y0 i0 x1 y1 i1 x2 y2 i2) (by kernel_rfl) (tt_ok 1 (⟨rfl, tt_ok 1 (⟨rfl, tt_ok 4 (⟨rfl, tt_ok 4 (⟨rfl, tt_ok 4 (⟨rfl, tt_ok 1 (⟨rfl, tt_ok 2 (⟨rfl, tt_ok 4 (⟨f0, tt_ok 3 (⟨l1, tt_ok 1 (⟨f1, tt_ok 3 (⟨l2, tt_ok 1 (⟨f2, ⟨rfl, tt_ok 2 (⟨rfl, tt_ok 4 (⟨f0, tt_ok 4 (⟨l1, tt_ok 1 (⟨f1, tt_ok 4 (⟨l2, tt_ok 1 (⟨f2, tt_ok 1 (⟨rfl, ⟨eqP_rfl _, trivial⟩⟩)⟩)⟩)⟩)⟩)⟩)⟩)⟩⟩)⟩)⟩)⟩)⟩)⟩)⟩)⟩)⟩)⟩)⟩)⟩))) fun _ _ q => b_true q
theorem su_eoe_n (M M' : Nat) (a0 : Option Addr) (m0 : Nat) (z1 : List Int) (m1 : Nat) (a2 : Option Addr) (m2 : Nat) (x0 y0 : Nat) (i0 : Bool) (x1 y1 : Nat) (i1 : Bool) (x2 y2 : Nat) (i2 : Bool) : segOut Try.prog oTc gsF 1200 3 [] (entry gsF [slA 1 0 3 M, slA 2 0 3 M'] [(0, some (roB [.seq .u64 z1])), (1, some (roB [.v (.slice a0 0 m0), .sl 0 0 1 m1, .v (.slice a2 0 m2)])), (2, some (roB [.num 6 x0, .num 6 y0, .v (.bool i0), .num 6 x1, .num 6 y1, .v (.bool i1), .num 6 x2, .num 6 y2, .v (.bool i2)]))] 3 [false, false, true, false, true, false, true, false, false, false, true, false, true, false, true, false, false, false, true, false, true, false, true, false, false, true, true, true, true, true]) = some (tt 1 ((false, false) :: tt 1 ((false, false) :: tt 4 ((false, false) :: tt 4 ((false, false) :: tt 4 ((false, false) :: tt 1 ((false, false) :: tt 2 ((false, false) :: tt 4 ((!decide (mulE (toPt x0 y0 i0) = 0), false) :: tt 3 ((Nat.ble (0 + 1) z1.length, true) :: tt 1 ((!decide (mulE (toPt x1 y1 i1) = 0), false) :: tt 3 ((!decide (mulE (toPt x2 y2 i2) = 0), false) :: (false, false) :: tt 2 ((false, false) :: tt 4 ((!decide (mulE (toPt x0 y0 i0) = 0), false) :: tt 4 ((Nat.ble (0 + 1) z1.length, true) :: tt 1 ((!decide (mulE (toPt x1 y1 i1) = 0), false) :: tt 4 ((!decide (mulE (toPt x2 y2 i2) = 0), false) :: tt 1 ((false, false) :: (suE (add (toPt' (add (toPt' (add (toPt 0 0 true) (toPt' (mulP 0 (toPt x0 y0 i0))))) (toPt' (mulP (natL (win z1 0 1)) (toPt x1 y1 i1))))) (toPt' (mulP 0 (toPt x2 y2 i2)))), true) :: []))))))))))))))))), [], tB, []) := by kernel_rfl
theorem su_eoe_0 (M M' : Nat) (a0 : Option Addr) (m0 : Nat) (z1 : List Int) (m1 : Nat) (a2 : Option Addr) (m2 : Nat) (x0 y0 : Nat) (i0 : Bool) (x1 y1 : Nat) (i1 : Bool) (x2 y2 : Nat) (i2 : Bool) : segOut Try.prog oTc gsF 1200 3 [] (entry gsF [slA 1 0 3 M, slA 2 0 3 M'] [(0, some (roB [.seq .u64 z1])), (1, some (roB [.v (.slice a0 0 m0), .sl 0 0 1 m1, .v (.slice a2 0 m2)])), (2, some (roB [.num 6 x0, .num 6 y0, .v (.bool i0), .num 6 x1, .num 6 y1, .v (.bool i1), .num 6 x2, .num 6 y2, .v (.bool i2)]))] 3 [false, false, true, false, true, false, true, false, false, false, true, true, false, true, true, true, true, true, true, true]) = some (tt 1 ((false, false) :: tt 1 ((false, false) :: tt 4 ((false, false) :: tt 4 ((false, false) :: tt 4 ((false, false) :: tt 1 ((false, false) :: tt 2 ((false, false) :: tt 4 ((!decide (mulE (toPt x0 y0 i0) = 0), true) :: tt 2 ((false, false) :: tt 4 ((!decide (mulE (toPt x0 y0 i0) = 0), true) :: tt 1 ([]))))))))))), [], boolA (decide (mulE (toPt x0 y0 i0) = mulE (toPt x0 y0 i0))), []) := by kernel_rfl
theorem su_eoe_1 (M M' : Nat) (a0 : Option Addr) (m0 : Nat) (z1 : List Int) (m1 : Nat) (a2 : Option Addr) (m2 : Nat) (x0 y0 : Nat) (i0 : Bool) (x1 y1 : Nat) (i1 : Bool) (x2 y2 : Nat) (i2 : Bool) : segOut Try.prog oTc gsF 1200 3 [] (entry gsF [slA 1 0 3 M, slA 2 0 3 M'] [(0, some (roB [.seq .u64 z1])), (1, some (roB [.v (.slice a0 0 m0), .sl 0 0 1 m1, .v (.slice a2 0 m2)])), (2, some (roB [.num 6 x0, .num 6 y0, .v (.bool i0), .num 6 x1, .num 6 y1, .v (.bool i1), .num 6 x2, .num 6 y2, .v (.bool i2)]))] 3 [false, false, true, false, true, false, true, false, false, false, true, false, true, true, false, true, false, true, true, true, true, true, true, true]) = some (tt 1 ((false, false) :: tt 1 ((false, false) :: tt 4 ((false, false) :: tt 4 ((false, false) :: tt 4 ((false, false) :: tt 1 ((false, false) :: tt 2 ((false, false) :: tt 4 ((!decide (mulE (toPt x0 y0 i0) = 0), false) :: tt 3 ((Nat.ble (0 + 1) z1.length, true) :: tt 1 ((!decide (mulE (toPt x1 y1 i1) = 0), true) :: tt 2 ((false, false) :: tt 4 ((!decide (mulE (toPt x0 y0 i0) = 0), false) :: tt 4 ((Nat.ble (0 + 1) z1.length, true) :: tt 1 ((!decide (mulE (toPt x1 y1 i1) = 0), true) :: tt 1 ([]))))))))))))))), [], boolA (decide (mulE (toPt x1 y1 i1) = mulE (toPt x1 y1 i1))), []) := by kernel_rfl
theorem su_eoe_2 (M M' : Nat) (a0 : Option Addr) (m0 : Nat) (z1 : List Int) (m1 : Nat) (a2 : Option Addr) (m2 : Nat) (x0 y0 : Nat) (i0 : Bool) (x1 y1 : Nat) (i1 : Bool) (x2 y2 : Nat) (i2 : Bool) : segOut Try.prog oTc gsF 1200 3 [] (entry gsF [slA 1 0 3 M, slA 2 0 3 M'] [(0, some (roB [.seq .u64 z1])), (1, some (roB [.v (.slice a0 0 m0), .sl 0 0 1 m1, .v (.slice a2 0 m2)])), (2, some (roB [.num 6 x0, .num 6 y0, .v (.bool i0), .num 6 x1, .num 6 y1, .v (.bool i1), .num 6 x2, .num 6 y2, .v (.bool i2)]))] 3 [false, false, true, false, true, false, true, false, false, false, true, false, true, false, true, true, false, true, false, true, false, true, true, true, true, true, true, true]) = some (tt 1 ((false, false) :: tt 1 ((false, false) :: tt 4 ((false, false) :: tt 4 ((false, false) :: tt 4 ((false, false) :: tt 1 ((false, false) :: tt 2 ((false, false) :: tt 4 ((!decide (mulE (toPt x0 y0 i0) = 0), false) :: tt 3 ((Nat.ble (0 + 1) z1.length, true) :: tt 1 ((!decide (mulE (toPt x1 y1 i1) = 0), false) :: tt 3 ((!decide (mulE (toPt x2 y2 i2) = 0), true) :: tt 2 ((false, false) :: tt 4 ((!decide (mulE (toPt x0 y0 i0) = 0), false) :: tt 4 ((Nat.ble (0 + 1) z1.length, true) :: tt 1 ((!decide (mulE (toPt x1 y1 i1) = 0), false) :: tt 4 ((!decide (mulE (toPt x2 y2 i2) = 0), true) :: tt 1 ([]))))))))))))))))), [], boolA (decide (mulE (toPt x2 y2 i2) = mulE (toPt x2 y2 i2))), []) := by kernel_rfl
theorem su_eoe {M M' : Nat} {a0 : Option Addr} {m0 : Nat} {z1 : List Int} {m1 : Nat} {a2 : Option Addr} {m2 : Nat} {x0 y0 : Nat} {i0 : Bool} {x1 y1 : Nat} {i1 : Bool} {x2 y2 : Nat} {i2 : Bool} (h1 : 1 ≤ z1.length) : CanOk Try.prog 3 [slA 1 0 3 M, slA 2 0 3 M'] [(0, some (roB [.seq .u64 z1])), (1, some (roB [.v (.slice a0 0 m0), .sl 0 0 1 m1, .v (.slice a2 0 m2)])), (2, some (roB [.num 6 x0, .num 6 y0, .v (.bool i0), .num 6 x1, .num 6 y1, .v (.bool i1), .num 6 x2, .num 6 y2, .v (.bool i2)]))] 3 [] (boolA true) [] := by
  have l1 : Nat.ble (0 + 1) z1.length = true := Nat.ble_eq_true_of_le h1
  by_cases e0 : mulE (toPt x0 y0 i0) = 0
  case neg =>
    have t0 := me_t e0
    exact can_bool (can_run STcok KGok Try.func3 (by kernel_rfl) (by kernel_rfl) (su_eoe_0 M M' a0 m0 z1 m1 a2 m2 x0 y0 i0 x1 y1 i1 x2 y2 i2) (by kernel_rfl) (tt_ok 1 (⟨rfl, tt_ok 1 (⟨rfl, tt_ok 4 (⟨rfl, tt_ok 4 (⟨rfl, tt_ok 4 (⟨rfl, tt_ok 1 (⟨rfl, tt_ok 2 (⟨rfl, tt_ok 4 (⟨t0, tt_ok 2 (⟨rfl, tt_ok 4 (⟨t0, tt_ok 1 trivial⟩)⟩)⟩)⟩)⟩)⟩)⟩)⟩)⟩)⟩))) (decide_eq_true rfl)
  have f0 := me_f e0
  by_cases e1 : mulE (toPt x1 y1 i1) = 0
  case neg =>
    have t1 := me_t e1
    exact can_bool (can_run STcok KGok Try.func3 (by kernel_rfl) (by kernel_rfl) (su_eoe_1 M M' a0 m0 z1 m1 a2 m2 x0 y0 i0 x1 y1 i1 x2 y2 i2) (by kernel_rfl) (tt_ok 1 (⟨rfl, tt_ok 1 (⟨rfl, tt_ok 4 (⟨rfl, tt_ok 4 (⟨rfl, tt_ok 4 (⟨rfl, tt_ok 1 (⟨rfl, tt_ok 2 (⟨rfl, tt_ok 4 (⟨f0, tt_ok 3 (⟨l1, tt_ok 1 (⟨t1, tt_ok 2 (⟨rfl, tt_ok 4 (⟨f0, tt_ok 4 (⟨l1, tt_ok 1 (⟨t1, tt_ok 1 trivial⟩)⟩)⟩)⟩)⟩)⟩)⟩)⟩)⟩)⟩)⟩)⟩)⟩)⟩))) (decide_eq_true rfl)
  have f1 := me_f e1
  by_cases e2 : mulE (toPt x2 y2 i2) = 0
  case neg =>
    have t2 := me_t e2
    exact can_bool (can_run STcok KGok Try.func3 (by kernel_rfl) (by kernel_rfl) (su_eoe_2 M M' a0 m0 z1 m1 a2 m2 x0 y0 i0 x1 y1 i1 x2 y2 i2) (by kernel_rfl) (tt_ok 1 (⟨rfl, tt_ok 1 (⟨rfl, tt_ok 4 (⟨rfl, tt_ok 4 (⟨rfl, tt_ok 4 (⟨rfl, tt_ok 1 (⟨rfl, tt_ok 2 (⟨rfl, tt_ok 4 (⟨f0, tt_ok 3 (⟨l1, tt_ok 1 (⟨f1, tt_ok 3 (⟨t2, tt_ok 2 (⟨rfl, tt_ok 4 (⟨f0, tt_ok 4 (⟨l1, tt_ok 1 (⟨f1, tt_ok 4 (⟨t2, tt_ok 1 trivial⟩)⟩)⟩)⟩)⟩)⟩)⟩)⟩)⟩)⟩)⟩)⟩)⟩)⟩)⟩)⟩))) (decide_eq_true rfl)
  have f2 := me_f e2
  exact can_val (can_run STcok KGok Try.func3 (by kernel_rfl) (by kernel_rfl) (su_eoe_n M M' a0 m0 z1 m1 a2 m2 x0 y0 i0 x1 y1 i1 x2 y2 i2) (by kernel_rfl) (tt_ok 1 (⟨rfl, tt_ok 1 (⟨rfl, tt_ok 4 (⟨rfl, tt_ok 4 (⟨rfl, tt_ok 4 (⟨rfl, tt_ok 1 (⟨rfl, tt_ok 2 (⟨rfl, tt_ok 4 (⟨f0, tt_ok 3 (⟨l1, tt_ok 1 (⟨f1, tt_ok 3 (⟨f2, ⟨rfl, tt_ok 2 (⟨rfl, tt_ok 4 (⟨f0, tt_ok 4 (⟨l1, tt_ok 1 (⟨f1, tt_ok 4 (⟨f2, tt_ok 1 (⟨rfl, ⟨eqP_rfl _, trivial⟩⟩)⟩)⟩)⟩)⟩)⟩)⟩⟩)⟩)⟩)⟩)⟩)⟩)⟩)⟩)⟩)⟩)⟩))) fun _ _ q => b_true q
theorem su_eeo_n (M M' : Nat) (a0 : Option Addr) (m0 : Nat) (a1 : Option Addr) (m1 : Nat) (z2 : List Int) (m2 : Nat) (x0 y0 : Nat) (i0 : Bool) (x1 y1 : Nat) (i1 : Bool) (x2 y2 : Nat) (i2 : Bool) : segOut Try.prog oTc gsF 1200 3 [] (entry gsF [slA 1 0 3 M, slA 2 0 3 M'] [(0, some (roB [.seq .u64 z2])), (1, some (roB [.v (.slice a0 0 m0), .v (.slice a1 0 m1), .sl 0 0 1 m2])), (2, some (roB [.num 6 x0, .num 6 y0, .v (.bool i0), .num 6 x1, .num 6 y1, .v (.bool i1), .num 6 x2, .num 6 y2, .v (.bool i2)]))] 3 [false, false, true, false, true, false, true, false, false, false, true, false, true, false, true, false, false, false, true, false, true, false, true, false, false, true, true, true, true, true]) = some (tt 1 ((false, false) :: tt 1 ((false, false) :: tt 4 ((false, false) :: tt 4 ((false, false) :: tt 4 ((false, false) :: tt 1 ((false, false) :: tt 2 ((false, false) :: tt 4 ((!decide (mulE (toPt x0 y0 i0) = 0), false) :: tt 3 ((!decide (mulE (toPt x1 y1 i1) = 0), false) :: tt 3 ((Nat.ble (0 + 1) z2.length, true) :: tt 1 ((!decide (mulE (toPt x2 y2 i2) = 0), false) :: (false, false) :: tt 2 ((false, false) :: tt 4 ((!decide (mulE (toPt x0 y0 i0) = 0), false) :: tt 4 ((!decide (mulE (toPt x1 y1 i1) = 0), false) :: tt 4 ((Nat.ble (0 + 1) z2.length, true) :: tt 1 ((!decide (mulE (toPt x2 y2 i2) = 0), false) :: tt 1 ((false, false) :: (suE (add (toPt' (add (toPt' (add (toPt 0 0 true) (toPt' (mulP 0 (toPt x0 y0 i0))))) (toPt' (mulP 0 (toPt x1 y1 i1))))) (toPt' (mulP (natL (win z2 0 1)) (toPt x2 y2 i2)))), true) :: []))))))))))))))))), [], tB, []) := by kernel_rfl
theorem su_eeo_0 (M M' : Nat) (a0 : Option Addr) (m0 : Nat) (a1 : Option Addr) (m1 : Nat) (z2 : List Int) (m2 : Nat) (x0 y0 : Nat) (i0 : Bool) (x1 y1 : Nat) (i1 : Bool) (x2 y2 : Nat) (i2 : Bool) : segOut Try.prog oTc gsF 1200 3 [] (entry gsF [slA 1 0 3 M, slA 2 0 3 M'] [(0, some (roB [.seq .u64 z2])), (1, some (roB [.v (.slice a0 0 m0), .v (.slice a1 0 m1), .sl 0 0 1 m2])), (2, some (roB [.num 6 x0, .num 6 y0, .v (.bool i0), .num 6 x1, .num 6 y1, .v (.bool i1), .num 6 x2, .num 6 y2, .v (.bool i2)]))] 3 [false, false, true, false, true, false, true, false, false, false, true, true, false, true, true, true, true, true, true, true]) = some (tt 1 ((false, false) :: tt 1 ((false, false) :: tt 4 ((false, false) :: tt 4 ((false, false) :: tt 4 ((false, false) :: tt 1 ((false, false) :: tt 2 ((false, false) :: tt 4 ((!decide (mulE (toPt x0 y0 i0) = 0), true) :: tt 2 ((false, false) :: tt 4 ((!decide (mulE (toPt x0 y0 i0) = 0), true) :: tt 1 ([]))))))))))), [], boolA (decide (mulE (toPt x0 y0 i0) = mulE (toPt x0 y0 i0))), []) := by kernel_rfl
theorem su_eeo_1 (M M' : Nat) (a0 : Option Addr) (m0 : Nat) (a1 : Option Addr) (m1 : Nat) (z2 : List Int) (m2 : Nat) (x0 y0 : Nat) (i0 : Bool) (x1 y1 : Nat) (i1 : Bool) (x2 y2 : Nat) (i2 : Bool) : segOut Try.prog oTc gsF 1200 3 [] (entry gsF [slA 1 0 3 M, slA 2 0 3 M'] [(0, some (roB [.seq .u64 z2])), (1, some (roB [.v (.slice a0 0 m0), .v (.slice a1 0 m1), .sl 0 0 1 m2])), (2, some (roB [.num 6 x0, .num 6 y0, .v (.bool i0), .num 6 x1, .num 6 y1, .v (.bool i1), .num 6 x2, .num 6 y2, .v (.bool i2)]))] 3 [false, false, true, false, true, false, true, false, false, false, true, false, true, true, false, true, false, true, true, true, true, true, true, true]) = some (tt 1 ((false, false) :: tt 1 ((false, false) :: tt 4 ((false, false) :: tt 4 ((false, false) :: tt 4 ((false, false) :: tt 1 ((false, false) :: tt 2 ((false, false) :: tt 4 ((!decide (mulE (toPt x0 y0 i0) = 0), false) :: tt 3 ((!decide (mulE (toPt x1 y1 i1) = 0), true) :: tt 2 ((false, false) :: tt 4 ((!decide (mulE (toPt x0 y0 i0) = 0), false) :: tt 4 ((!decide (mulE (toPt x1 y1 i1) = 0), true) :: tt 1 ([]))))))))))))), [], boolA (decide (mulE (toPt x1 y1 i1) = mulE (toPt x1 y1 i1))), []) := by kernel_rfl
theorem su_eeo_2 (M M' : Nat) (a0 : Option Addr) (m0 : Nat) (a1 : Option Addr) (m1 : Nat) (z2 : List Int) (m2 : Nat) (x0 y0 : Nat) (i0 : Bool) (x1 y1 : Nat) (i1 : Bool) (x2 y2 : Nat) (i2 : Bool) : segOut Try.prog oTc gsF 1200 3 [] (entry gsF [slA 1 0 3 M, slA 2 0 3 M'] [(0, some (roB [.seq .u64 z2])), (1, some (roB [.v (.slice a0 0 m0), .v (.slice a1 0 m1), .sl 0 0 1 m2])), (2, some (roB [.num 6 x0, .num 6 y0, .v (.bool i0), .num 6 x1, .num 6 y1, .v (.bool i1), .num 6 x2, .num 6 y2, .v (.bool i2)]))] 3 [false, false, true, false, true, false, true, false, false, false, true, false, true, false, true, true, false, true, false, true, false, true, true, true, true, true, true, true]) = some (tt 1 ((false, false) :: tt 1 ((false, false) :: tt 4 ((false, false) :: tt 4 ((false, false) :: tt 4 ((false, false) :: tt 1 ((false, false) :: tt 2 ((false, false) :: tt 4 ((!decide (mulE (toPt x0 y0 i0) = 0), false) :: tt 3 ((!decide (mulE (toPt x1 y1 i1) = 0), false) :: tt 3 ((Nat.ble (0 + 1) z2.length, true) :: tt 1 ((!decide (mulE (toPt x2 y2 i2) = 0), true) :: tt 2 ((false, false) :: tt 4 ((!decide (mulE (toPt x0 y0 i0) = 0), false) :: tt 4 ((!decide (mulE (toPt x1 y1 i1) = 0), false) :: tt 4 ((Nat.ble (0 + 1) z2.length, true) :: tt 1 ((!decide (mulE (toPt x2 y2 i2) = 0), true) :: tt 1 ([]))))))))))))))))), [], boolA (decide (mulE (toPt x2 y2 i2) = mulE (toPt x2 y2 i2))), []) := by kernel_rfl
theorem su_eeo {M M' : Nat} {a0 : Option Addr} {m0 : Nat} {a1 : Option Addr} {m1 : Nat} {z2 : List Int} {m2 : Nat} {x0 y0 : Nat} {i0 : Bool} {x1 y1 : Nat} {i1 : Bool} {x2 y2 : Nat} {i2 : Bool} (h2 : 1 ≤ z2.length) : CanOk Try.prog 3 [slA 1 0 3 M, slA 2 0 3 M'] [(0, some (roB [.seq .u64 z2])), (1, some (roB [.v (.slice a0 0 m0), .v (.slice a1 0 m1), .sl 0 0 1 m2])), (2, some (roB [.num 6 x0, .num 6 y0, .v (.bool i0), .num 6 x1, .num 6 y1, .v (.bool i1), .num 6 x2, .num 6 y2, .v (.bool i2)]))] 3 [] (boolA true) [] := by
  have l2 : Nat.ble (0 + 1) z2.length = true := Nat.ble_eq_true_of_le h2
  by_cases e0 : mulE (toPt x0 y0 i0) = 0
  case neg =>
    have t0 := me_t e0
    exact can_bool (can_run STcok KGok Try.func3 (by kernel_rfl) (by kernel_rfl) (su_eeo_0 M M' a0 m0 a1 m1 z2 m2 x0 y0 i0 x1 y1 i1 x2 y2 i2) (by kernel_rfl) (tt_ok 1 (⟨rfl, tt_ok 1 (⟨rfl, tt_ok 4 (⟨rfl, tt_ok 4 (⟨rfl, tt_ok 4 (⟨rfl, tt_ok 1 (⟨rfl, tt_ok 2 (⟨rfl, tt_ok 4 (⟨t0, tt_ok 2 (⟨rfl, tt_ok 4 (⟨t0, tt_ok 1 trivial⟩)⟩)⟩)⟩)⟩)⟩)⟩)⟩)⟩)⟩))) (decide_eq_true rfl)
  have f0 := me_f e0
  by_cases e1 : mulE (toPt x1 y1 i1) = 0
  case neg =>
    have t1 := me_t e1
    exact can_bool (can_run STcok KGok Try.func3 (by kernel_rfl) (by kernel_rfl) (su_eeo_1 M M' a0 m0 a1 m1 z2 m2 x0 y0 i0 x1 y1 i1 x2 y2 i2) (by kernel_rfl) (tt_ok 1 (⟨rfl, tt_ok 1 (⟨rfl, tt_ok 4 (⟨rfl, tt_ok 4 (⟨rfl, tt_ok 4 (⟨rfl, tt_ok 1 (⟨rfl, tt_ok 2 (⟨rfl, tt_ok 4 (⟨f0, tt_ok 3 (⟨t1, tt_ok 2 (⟨rfl, tt_ok 4 (⟨f0, tt_ok 4 (⟨t1, tt_ok 1 trivial⟩)⟩)⟩)⟩)⟩)⟩)⟩)⟩)⟩)⟩)⟩)⟩))) (decide_eq_true rfl)
  have f1 := me_f e1
  by_cases e2 : mulE (toPt x2 y2 i2) = 0
  case neg =>
    have t2 := me_t e2
    exact can_bool (can_run STcok KGok Try.func3 (by kernel_rfl) (by kernel_rfl) (su_eeo_2 M M' a0 m0 a1 m1 z2 m2 x0 y0 i0 x1 y1 i1 x2 y2 i2) (by kernel_rfl) (tt_ok 1 (⟨rfl, tt_ok 1 (⟨rfl, tt_ok 4 (⟨rfl, tt_ok 4 (⟨rfl, tt_ok 4 (⟨rfl, tt_ok 1 (⟨rfl, tt_ok 2 (⟨rfl, tt_ok 4 (⟨f0, tt_ok 3 (⟨f1, tt_ok 3 (⟨l2, tt_ok 1 (⟨t2, tt_ok 2 (⟨rfl, tt_ok 4 (⟨f0, tt_ok 4 (⟨f1, tt_ok 4 (⟨l2, tt_ok 1 (⟨t2, tt_ok 1 trivial⟩)⟩)⟩)⟩)⟩)⟩)⟩)⟩)⟩)⟩)⟩)⟩)⟩)⟩)⟩)⟩))) (decide_eq_true rfl)
  have f2 := me_f e2
  exact can_val (can_run STcok KGok Try.func3 (by kernel_rfl) (by kernel_rfl) (su_eeo_n M M' a0 m0 a1 m1 z2 m2 x0 y0 i0 x1 y1 i1 x2 y2 i2) (by kernel_rfl) (tt_ok 1 (⟨rfl, tt_ok 1 (⟨rfl, tt_ok 4 (⟨rfl, tt_ok 4 (⟨rfl, tt_ok 4 (⟨rfl, tt_ok 1 (⟨rfl, tt_ok 2 (⟨rfl, tt_ok 4 (⟨f0, tt_ok 3 (⟨f1, tt_ok 3 (⟨l2, tt_ok 1 (⟨f2, ⟨rfl, tt_ok 2 (⟨rfl, tt_ok 4 (⟨f0, tt_ok 4 (⟨f1, tt_ok 4 (⟨l2, tt_ok 1 (⟨f2, tt_ok 1 (⟨rfl, ⟨eqP_rfl _, trivial⟩⟩)⟩)⟩)⟩)⟩)⟩)⟩⟩)⟩)⟩)⟩)⟩)⟩)⟩)⟩)⟩)⟩)⟩))) fun _ _ q => b_true q
theorem su_eee_n (M M' : Nat) (a0 : Option Addr) (m0 : Nat) (a1 : Option Addr) (m1 : Nat) (a2 : Option Addr) (m2 : Nat) (x0 y0 : Nat) (i0 : Bool) (x1 y1 : Nat) (i1 : Bool) (x2 y2 : Nat) (i2 : Bool) : segOut Try.prog oTc gsF 1200 2 [] (entry gsF [slA 0 0 3 M, slA 1 0 3 M'] [(0, some (roB [.v (.slice a0 0 m0), .v (.slice a1 0 m1), .v (.slice a2 0 m2)])), (1, some (roB [.num 6 x0, .num 6 y0, .v (.bool i0), .num 6 x1, .num 6 y1, .v (.bool i1), .num 6 x2, .num 6 y2, .v (.bool i2)]))] 2 [false, false, true, false, true, false, true, false, false, false, true, false, true, false, true, false, false, false, true, false, true, false, true, false, false, true, true, true, true, true]) = some (tt 1 ((false, false) :: tt 1 ((false, false) :: tt 4 ((false, false) :: tt 4 ((false, false) :: tt 4 ((false, false) :: tt 1 ((false, false) :: tt 2 ((false, false) :: tt 4 ((!decide (mulE (toPt x0 y0 i0) = 0), false) :: tt 3 ((!decide (mulE (toPt x1 y1 i1) = 0), false) :: tt 3 ((!decide (mulE (toPt x2 y2 i2) = 0), false) :: (false, false) :: tt 2 ((false, false) :: tt 4 ((!decide (mulE (toPt x0 y0 i0) = 0), false) :: tt 4 ((!decide (mulE (toPt x1 y1 i1) = 0), false) :: tt 4 ((!decide (mulE (toPt x2 y2 i2) = 0), false) :: tt 1 ((false, false) :: (suE (add (toPt' (add (toPt' (add (toPt 0 0 true) (toPt' (mulP 0 (toPt x0 y0 i0))))) (toPt' (mulP 0 (toPt x1 y1 i1))))) (toPt' (mulP 0 (toPt x2 y2 i2)))), true) :: []))))))))))))))), [], tB, []) := by kernel_rfl
theorem su_eee_0 (M M' : Nat) (a0 : Option Addr) (m0 : Nat) (a1 : Option Addr) (m1 : Nat) (a2 : Option Addr) (m2 : Nat) (x0 y0 : Nat) (i0 : Bool) (x1 y1 : Nat) (i1 : Bool) (x2 y2 : Nat) (i2 : Bool) : segOut Try.prog oTc gsF 1200 2 [] (entry gsF [slA 0 0 3 M, slA 1 0 3 M'] [(0, some (roB [.v (.slice a0 0 m0), .v (.slice a1 0 m1), .v (.slice a2 0 m2)])), (1, some (roB [.num 6 x0, .num 6 y0, .v (.bool i0), .num 6 x1, .num 6 y1, .v (.bool i1), .num 6 x2, .num 6 y2, .v (.bool i2)]))] 2 [false, false, true, false, true, false, true, false, false, false, true, true, false, true, true, true, true, true, true, true]) = some (tt 1 ((false, false) :: tt 1 ((false, false) :: tt 4 ((false, false) :: tt 4 ((false, false) :: tt 4 ((false, false) :: tt 1 ((false, false) :: tt 2 ((false, false) :: tt 4 ((!decide (mulE (toPt x0 y0 i0) = 0), true) :: tt 2 ((false, false) :: tt 4 ((!decide (mulE (toPt x0 y0 i0) = 0), true) :: tt 1 ([]))))))))))), [], boolA (decide (mulE (toPt x0 y0 i0) = mulE (toPt x0 y0 i0))), []) := by kernel_rfl
theorem su_eee_1 (M M' : Nat) (a0 : Option Addr) (m0 : Nat) (a1 : Option Addr) (m1 : Nat) (a2 : Option Addr) (m2 : Nat) (x0 y0 : Nat) (i0 : Bool) (x1 y1 : Nat) (i1 : Bool) (x2 y2 : Nat) (i2 : Bool) : segOut Try.prog oTc gsF 1200 2 [] (entry gsF [slA 0 0 3 M, slA 1 0 3 M'] [(0, some (roB [.v (.slice a0 0 m0), .v (.slice a1 0 m1), .v (.slice a2 0 m2)])), (1, some (roB [.num 6 x0, .num 6 y0, .v (.bool i0), .num 6 x1, .num 6 y1, .v (.bool i1), .num 6 x2, .num 6 y2, .v (.bool i2)]))] 2 [false, false, true, false, true, false, true, false, false, false, true, false, true, true, false, true, false, true, true, true, true, true, true, true]) = some (tt 1 ((false, false) :: tt 1 ((false, false) :: tt 4 ((false, false) :: tt 4 ((false, false) :: tt 4 ((false, false) :: tt 1 ((false, false) :: tt 2 ((false, false) :: tt 4 ((!decide (mulE (toPt x0 y0 i0) = 0), false) :: tt 3 ((!decide (mulE (toPt x1 y1 i1) = 0), true) :: tt 2 ((false, false) :: tt 4 ((!decide (mulE (toPt x0 y0 i0) = 0), false) :: tt 4 ((!decide (mulE (toPt x1 y1 i1) = 0), true) :: tt 1 ([]))))))))))))), [], boolA (decide (mulE (toPt x1 y1 i1) = mulE (toPt x1 y1 i1))), []) := by kernel_rfl
theorem su_eee_2 (M M' : Nat) (a0 : Option Addr) (m0 : Nat) (a1 : Option Addr) (m1 : Nat) (a2 : Option Addr) (m2 : Nat) (x0 y0 : Nat) (i0 : Bool) (x1 y1 : Nat) (i1 : Bool) (x2 y2 : Nat) (i2 : Bool) : segOut Try.prog oTc gsF 1200 2 [] (entry gsF [slA 0 0 3 M, slA 1 0 3 M'] [(0, some (roB [.v (.slice a0 0 m0), .v (.slice a1 0 m1), .v (.slice a2 0 m2)])), (1, some (roB [.num 6 x0, .num 6 y0, .v (.bool i0), .num 6 x1, .num 6 y1, .v (.bool i1), .num 6 x2, .num 6 y2, .v (.bool i2)]))] 2 [false, false, true, false, true, false, true, false, false, false, true, false, true, false, true, true, false, true, false, true, false, true, true, true, true, true, true, true]) = some (tt 1 ((false, false) :: tt 1 ((false, false) :: tt 4 ((false, false) :: tt 4 ((false, false) :: tt 4 ((false, false) :: tt 1 ((false, false) :: tt 2 ((false, false) :: tt 4 ((!decide (mulE (toPt x0 y0 i0) = 0), false) :: tt 3 ((!decide (mulE (toPt x1 y1 i1) = 0), false) :: tt 3 ((!decide (mulE (toPt x2 y2 i2) = 0), true) :: tt 2 ((false, false) :: tt 4 ((!decide (mulE (toPt x0 y0 i0) = 0), false) :: tt 4 ((!decide (mulE (toPt x1 y1 i1) = 0), false) :: tt 4 ((!decide (mulE (toPt x2 y2 i2) = 0), true) :: tt 1 ([]))))))))))))))), [], boolA (decide (mulE (toPt x2 y2 i2) = mulE (toPt x2 y2 i2))), []) := by kernel_rfl
theorem su_eee {M M' : Nat} {a0 : Option Addr} {m0 : Nat} {a1 : Option Addr} {m1 : Nat} {a2 : Option Addr} {m2 : Nat} {x0 y0 : Nat} {i0 : Bool} {x1 y1 : Nat} {i1 : Bool} {x2 y2 : Nat} {i2 : Bool}  : CanOk Try.prog 3 [slA 0 0 3 M, slA 1 0 3 M'] [(0, some (roB [.v (.slice a0 0 m0), .v (.slice a1 0 m1), .v (.slice a2 0 m2)])), (1, some (roB [.num 6 x0, .num 6 y0, .v (.bool i0), .num 6 x1, .num 6 y1, .v (.bool i1), .num 6 x2, .num 6 y2, .v (.bool i2)]))] 2 [] (boolA true) [] := by
  by_cases e0 : mulE (toPt x0 y0 i0) = 0
  case neg =>
    have t0 := me_t e0
    exact can_bool (can_run STcok KGok Try.func3 (by kernel_rfl) (by kernel_rfl) (su_eee_0 M M' a0 m0 a1 m1 a2 m2 x0 y0 i0 x1 y1 i1 x2 y2 i2) (by kernel_rfl) (tt_ok 1 (⟨rfl, tt_ok 1 (⟨rfl, tt_ok 4 (⟨rfl, tt_ok 4 (⟨rfl, tt_ok 4 (⟨rfl, tt_ok 1 (⟨rfl, tt_ok 2 (⟨rfl, tt_ok 4 (⟨t0, tt_ok 2 (⟨rfl, tt_ok 4 (⟨t0, tt_ok 1 trivial⟩)⟩)⟩)⟩)⟩)⟩)⟩)⟩)⟩)⟩))) (decide_eq_true rfl)
  have f0 := me_f e0
  by_cases e1 : mulE (toPt x1 y1 i1) = 0
  case neg =>
    have t1 := me_t e1
    exact can_bool (can_run STcok KGok Try.func3 (by kernel_rfl) (by kernel_rfl) (su_eee_1 M M' a0 m0 a1 m1 a2 m2 x0 y0 i0 x1 y1 i1 x2 y2 i2) (by kernel_rfl) (tt_ok 1 (⟨rfl, tt_ok 1 (⟨rfl, tt_ok 4 (⟨rfl, tt_ok 4 (⟨rfl, tt_ok 4 (⟨rfl, tt_ok 1 (⟨rfl, tt_ok 2 (⟨rfl, tt_ok 4 (⟨f0, tt_ok 3 (⟨t1, tt_ok 2 (⟨rfl, tt_ok 4 (⟨f0, tt_ok 4 (⟨t1, tt_ok 1 trivial⟩)⟩)⟩)⟩)⟩)⟩)⟩)⟩)⟩)⟩)⟩)⟩))) (decide_eq_true rfl)
  have f1 := me_f e1
  by_cases e2 : mulE (toPt x2 y2 i2) = 0
  case neg =>
    have t2 := me_t e2
    exact can_bool (can_run STcok KGok Try.func3 (by kernel_rfl) (by kernel_rfl) (su_eee_2 M M' a0 m0 a1 m1 a2 m2 x0 y0 i0 x1 y1 i1 x2 y2 i2) (by kernel_rfl) (tt_ok 1 (⟨rfl, tt_ok 1 (⟨rfl, tt_ok 4 (⟨rfl, tt_ok 4 (⟨rfl, tt_ok 4 (⟨rfl, tt_ok 1 (⟨rfl, tt_ok 2 (⟨rfl, tt_ok 4 (⟨f0, tt_ok 3 (⟨f1, tt_ok 3 (⟨t2, tt_ok 2 (⟨rfl, tt_ok 4 (⟨f0, tt_ok 4 (⟨f1, tt_ok 4 (⟨t2, tt_ok 1 trivial⟩)⟩)⟩)⟩)⟩)⟩)⟩)⟩)⟩)⟩)⟩)⟩)⟩)⟩))) (decide_eq_true rfl)
  have f2 := me_f e2
  exact can_val (can_run STcok KGok Try.func3 (by kernel_rfl) (by kernel_rfl) (su_eee_n M M' a0 m0 a1 m1 a2 m2 x0 y0 i0 x1 y1 i1 x2 y2 i2) (by kernel_rfl) (tt_ok 1 (⟨rfl, tt_ok 1 (⟨rfl, tt_ok 4 (⟨rfl, tt_ok 4 (⟨rfl, tt_ok 4 (⟨rfl, tt_ok 1 (⟨rfl, tt_ok 2 (⟨rfl, tt_ok 4 (⟨f0, tt_ok 3 (⟨f1, tt_ok 3 (⟨f2, ⟨rfl, tt_ok 2 (⟨rfl, tt_ok 4 (⟨f0, tt_ok 4 (⟨f1, tt_ok 4 (⟨f2, tt_ok 1 (⟨rfl, ⟨eqP_rfl _, trivial⟩⟩)⟩)⟩)⟩)⟩)⟩⟩)⟩)⟩)⟩)⟩)⟩)⟩)⟩)⟩)⟩))) fun _ _ q => b_true q
end Go.Proofs.Ytccmbnbphianbaa
