/- The executor's regions in any order: the check, and that it suffices. -/
import Derived.Test.YtoemaicabljpfaaExK
namespace Go.Proofs.Ytoemaicabljpfaa.Ex

def maskE (acc : List Nat) : List Edge → Nat
  | [] => 0
  | e :: r => match Region.binds .any e with
    | true => 2 ^ e.on ||| (acc.getD e.on 0 ||| maskE acc r)
    | false => maskE acc r
theorem maskE_bit {acc : List Nat} {k : Nat} : ∀ {es : List Edge}, (maskE acc es).testBit k = true → ∃ e ∈ es, Region.binds .any e = true ∧ (k = e.on ∨ (acc.getD e.on 0).testBit k = true)
  | [], h => by simp [maskE] at h
  | e :: r, h => by
    simp only [maskE] at h
    split at h
    · rename_i hb
      rw [Nat.testBit_or, Nat.testBit_or, Bool.or_eq_true, Bool.or_eq_true] at h
      rcases h with h | h | h
      · rw [Nat.testBit_two_pow] at h
        exact ⟨e, by simp, hb, .inl (by simpa using (of_decide_eq_true h).symm)⟩
      · exact ⟨e, by simp, hb, .inr h⟩
      · obtain ⟨e', h1, h2⟩ := maskE_bit h
        exact ⟨e', by simp [h1], h2⟩
    · obtain ⟨e', h1, h2⟩ := maskE_bit h
      exact ⟨e', by simp [h1], h2⟩
def masks : List Oper → List Nat → List Nat
  | [], acc => acc
  | o :: r, acc => masks r (acc ++ [maskE acc o.after.toList])
theorem masks_prefix : ∀ {l : List Oper} {acc : List Nat} {j : Nat}, j < acc.length → (masks l acc).getD j 0 = acc.getD j 0
  | [], _, _, _ => rfl
  | o :: r, acc, j, h => by
    simp only [masks]
    rw [masks_prefix (by simp; omega)]
    simp only [List.getD_eq_getElem?_getD]
    rw [List.getElem?_append_left h]
theorem masks_length : ∀ {l : List Oper} {acc : List Nat}, (masks l acc).length = acc.length + l.length
  | [], _ => rfl
  | o :: r, acc => by simp only [masks]; rw [masks_length]; simp; omega
theorem masks_spec : ∀ {l : List Oper} {acc : List Nat} {j k : Nat} {o : Oper}, l[j]? = some o → ((masks l acc).getD (acc.length + j) 0).testBit k = true →
    ∃ e ∈ o.after.toList, Region.binds .any e = true ∧ (k = e.on ∨ ((masks l acc).getD e.on 0).testBit k = true)
  | [], _, _, _, _, h, _ => by simp at h
  | o :: r, acc, 0, k, o', h, hb => by
    simp only [List.getElem?_cons_zero, Option.some.injEq] at h
    subst h
    simp only [masks, Nat.add_zero] at hb ⊢
    rw [masks_prefix (by simp)] at hb
    have : (acc ++ [maskE acc o.after.toList]).getD acc.length 0 = maskE acc o.after.toList := by simp [List.getD_eq_getElem?_getD]
    rw [this] at hb
    obtain ⟨e, h1, h2, h3⟩ := maskE_bit hb
    refine ⟨e, h1, h2, h3.imp id fun h => ?_⟩
    rcases Nat.lt_or_ge e.on acc.length with hlt | hge
    · rw [masks_prefix (by simp; omega)]
      have : (acc ++ [maskE acc o.after.toList]).getD e.on 0 = acc.getD e.on 0 := by
        simp only [List.getD_eq_getElem?_getD]
        rw [List.getElem?_append_left hlt]
      rw [this]; exact h
    · have : acc.getD e.on 0 = 0 := by simp [List.getD_eq_getElem?_getD, List.getElem?_eq_none hge]
      rw [this] at h; simp at h
  | o :: r, acc, j + 1, k, o', h, hb => by
    simp only [masks] at hb ⊢
    have e1 : acc.length + (j + 1) = (acc ++ [maskE acc o.after.toList]).length + j := by simp; omega
    rw [e1] at hb
    exact masks_spec (by simpa using h) hb

def edgesOk : List Edge → Nat → Bool
  | [], _ => true
  | e :: r, i => match Region.binds .any e with
    | true => match Nat.blt e.on i with | true => edgesOk r i | false => false
    | false => edgesOk r i
theorem edgesOk_spec : ∀ {es : List Edge} {i : Nat}, edgesOk es i = true → ∀ e ∈ es, Region.binds .any e = true → e.on < i
  | [], _, _, e, h, _ => by cases h
  | e' :: r, i, h, e, he, hb => by
    simp only [edgesOk] at h
    split at h
    · split at h
      · rename_i hlt
        rcases List.mem_cons.1 he with rfl | he
        · unfold Nat.blt at hlt; exact Nat.le_of_ble_eq_true hlt
        · exact edgesOk_spec h e he hb
      · cases h
    · rename_i hnb
      rcases List.mem_cons.1 he with rfl | he
      · rw [hb] at hnb; cases hnb
      · exact edgesOk_spec h e he hb
def allEdges : List Oper → Nat → Bool
  | [], _ => true
  | o :: r, i => match edgesOk o.after.toList i with | true => allEdges r (i + 1) | false => false
theorem allEdges_spec : ∀ {l : List Oper} {i j : Nat} {o : Oper}, allEdges l i = true → l[j]? = some o → ∀ e ∈ o.after.toList, Region.binds .any e = true → e.on < i + j
  | [], _, _, _, _, h => by simp at h
  | o :: r, i, 0, o', h, hj => by
    simp only [List.getElem?_cons_zero, Option.some.injEq] at hj
    subst hj
    simp only [allEdges] at h
    split at h
    · rename_i he; exact edgesOk_spec he
    · cases h
  | o :: r, i, j + 1, o', h, hj => by
    simp only [allEdges] at h
    split at h
    · have := allEdges_spec h (by simpa using hj)
      intro e he hb
      have := this e he hb
      omega
    · cases h

/- which pairs of operations do not disturb one another -/
def disj : List Nat → List Nat → Bool
  | [], _ => true
  | x :: r, l => match mem x l with | true => false | false => disj r l
theorem disj_spec : ∀ {a b : List Nat}, disj a b = true → ∀ x ∈ a, x ∉ b
  | [], _, _, x, h => by cases h
  | y :: r, b, h, x, hx => by
    simp only [disj] at h
    split at h
    · cases h
    · rename_i hm
      rcases List.mem_cons.1 hx with rfl | hx
      · intro hb; rw [mem_iff.2 hb] at hm; cases hm
      · exact disj_spec h x hx
def dstL (d : Option Nat) : List Nat := match d with | some d => [d] | none => []
def indepB' (r s : Rec) : Bool :=
  disj (dstL r.dst) s.ts && (disj (dstL s.dst) r.ts && (disj (dstL r.dst) (dstL s.dst) && (disj (updKeys r.r.upd) s.ks && (disj (updKeys s.r.upd) r.ks && disj (updKeys r.r.upd) (updKeys s.r.upd)))))
def outside (l : List Nat) (fr nw : Nat) : Bool := match l with
  | [] => true
  | k :: r => match Nat.ble fr k && Nat.blt k (fr + nw) with | true => false | false => outside r fr nw
theorem outside_spec : ∀ {l : List Nat} {fr nw : Nat}, outside l fr nw = true → ∀ k ∈ l, fr ≤ k → ¬ k < fr + nw
  | [], _, _, _, k, h, _ => by cases h
  | x :: r, fr, nw, h, k, hk, h1 => by
    intro h2
    simp only [outside] at h
    split at h
    · cases h
    · rename_i hb
      rcases List.mem_cons.1 hk with rfl | hk
      · have e1 := Nat.ble_eq_true_of_le h1
        have e2 : Nat.blt k (fr + nw) = true := by unfold Nat.blt; exact Nat.ble_eq_true_of_le h2
        rw [e1, e2] at hb; cases hb
      · exact outside_spec h k hk h1 h2
def indepB (r s : Rec) : Bool :=
  outside s.ks r.fr r.r.nw && indepB' r s
def bit (m i : Nat) : Bool := Nat.testBit m i
def chkOne (i : Nat) (r : Rec) : List Rec → List Nat → Bool
  | [], _ => true
  | s :: L, m :: ms => match bit m i with
    | true => chkOne i r L ms
    | false => match indepB r s with | true => chkOne i r L ms | false => false
  | _ :: _, [] => false
def chkAll : List Rec → List Nat → Nat → Bool
  | [], _, _ => true
  | r :: L, _ :: ms, i => match chkOne i r L ms with | true => chkAll L ms (i + 1) | false => false
  | _ :: _, [], _ => false
theorem chkOne_spec {i : Nat} {r : Rec} : ∀ {L : List Rec} {ms : List Nat} {j : Nat} {s : Rec}, chkOne i r L ms = true → L[j]? = some s → (ms.getD j 0).testBit i = false → indepB r s = true
  | [], _, _, _, _, h, _ => by simp at h
  | s :: L, [], j, s', h, _, _ => by simp [chkOne] at h
  | s :: L, m :: ms, 0, s', h, hj, hb => by
    simp only [List.getElem?_cons_zero, Option.some.injEq] at hj
    subst hj
    simp only [chkOne, bit] at h
    have hb' : m.testBit i = false := by simpa using hb
    rw [hb'] at h
    simp only at h
    split at h
    · assumption
    · cases h
  | s :: L, m :: ms, j + 1, s', h, hj, hb => by
    simp only [chkOne] at h
    have key : chkOne i r L ms = true := by
      split at h
      · exact h
      · split at h
        · exact h
        · cases h
    exact chkOne_spec key (by simpa using hj) (by simpa using hb)
theorem chkAll_spec : ∀ {L : List Rec} {ms : List Nat} {i j j' : Nat} {r s : Rec}, chkAll L ms i = true → L[j]? = some r → L[j']? = some s → j < j' → (ms.getD j' 0).testBit (i + j) = false → indepB r s = true
  | [], _, _, _, _, _, _, _, h, _, _, _ => by simp at h
  | q :: L, [], _, _, _, _, _, h, _, _, _, _ => by simp [chkAll] at h
  | q :: L, m :: ms, i, 0, j' + 1, r, s, h, hj, hj', _, hb => by
    simp only [List.getElem?_cons_zero, Option.some.injEq] at hj
    subst hj
    simp only [chkAll] at h
    split at h
    · rename_i h1
      exact chkOne_spec h1 (by simpa using hj') (by simpa using hb)
    · cases h
  | q :: L, m :: ms, i, j + 1, j' + 1, r, s, h, hj, hj', hlt, hb => by
    simp only [chkAll] at h
    split at h
    · exact chkAll_spec h (by simpa using hj) (by simpa using hj') (by omega) (by rw [show i + 1 + j = i + (j + 1) by omega]; simpa using hb)
    · cases h
  | q :: L, m :: ms, i, j, 0, r, s, h, hj, hj', hlt, hb => by omega

theorem indep_parts {r s : Rec} (h : indepB r s = true) :
    (∀ d, r.dst = some d → d ∉ s.ts) ∧ (∀ d, s.dst = some d → d ∉ r.ts) ∧ (∀ d, r.dst = some d → s.dst ≠ some d) ∧ (∀ k y, (k, y) ∈ r.r.upd → k ∉ s.ks) ∧ (∀ k y, (k, y) ∈ s.r.upd → k ∉ r.ks) ∧ (∀ k y y', (k, y) ∈ r.r.upd → (k, y') ∉ s.r.upd) := by
  have h := (Bool.and_eq_true_iff.1 h).2
  unfold indepB' at h
  simp only [Bool.and_eq_true] at h
  obtain ⟨h1, h2, h3, h4, h5, h6⟩ := h
  refine ⟨fun d hd => disj_spec h1 d (by simp [dstL, hd]), fun d hd => disj_spec h2 d (by simp [dstL, hd]), fun d hd he => disj_spec h3 d (by simp [dstL, hd]) (by simp [dstL, he]),
    fun k y hk => disj_spec h4 k (updKeys_mem.2 ⟨y, hk⟩), fun k y hk => disj_spec h5 k (updKeys_mem.2 ⟨y, hk⟩), fun k y y' hk hk' => disj_spec h6 k (updKeys_mem.2 ⟨y, hk⟩) (updKeys_mem.2 ⟨y', hk'⟩)⟩

theorem restrict_mem {H : Heap} {b : Nat} : ∀ {ks : List Nat}, (hget (restrict H ks) b).isSome = true → b ∈ ks
  | [], h => by simp [restrict, hget] at h
  | k :: r, h => by
    simp only [restrict] at h
    split at h
    · simp only [hget] at h
      split at h
      · rename_i e; rw [← nbeq.1 e]; simp
      · exact List.mem_cons_of_mem _ (restrict_mem h)
    · exact List.mem_cons_of_mem _ (restrict_mem h)
theorem opEff_keys {P : Program} {O : Orc} {ops : Array Oper} {i : Nat} {o : Oper} {ts : List Nat} {τ : Nat → AV} {H : Heap} {fr : Nat} {path : List Bool} {r : R} (h : opEff P O ops i o ts τ H fr path = some r) :
    ∀ k y, (k, y) ∈ r.upd → k ∈ foot o (restrT τ ts) ts H ∨ (fr ≤ k ∧ k < fr + r.nw) := by
  have key : ∀ (r0 : R), updOk (restrict H (foot o (restrT τ ts) ts H)) fr r0.nw r0.upd = true → ∀ k y, (k, y) ∈ r0.upd → k ∈ foot o (restrT τ ts) ts H ∨ (fr ≤ k ∧ k < fr + r0.nw) := by
    intro r0 hu k y hk
    rcases (updOk_spec hu).1 k y hk with h | ⟨h1, h2, _⟩
    · exact .inl (restrict_mem h)
    · exact .inr ⟨h1, h2⟩
  unfold opEff at h
  split at h
  · injection h with h; subst h
    intro k y hk; cases hk
  · split at h
    · rename_i r0 ha
      split at h
      · rename_i hu
        unfold resolveR at h
        split at h
        · split at h
          · injection h with h; subst h; exact key r0 hu
          · cases h
        · injection h with h; subst h; exact key r0 hu
      · cases h
    · cases h
  · cases h

theorem dstF_none {d : Option Nat} {v : AV} {t : Nat} (h : d ≠ some t) : dstF d v t = none := by
  unfold dstF
  cases d with
  | none => rfl
  | some d => simp only; rw [nbeq_ne (fun e => h (by rw [e]))]
theorem look_none {u : Heap} {b : Nat} (h : ∀ y, (b, y) ∉ u) : look u b = none := by
  cases hl : look u b with
  | none => rfl
  | some y => exact absurd (look_spec.1 y hl) (h y)

/- how many are still to come -/
def left (listed : Array Bool) (m : Nat) : Nat := (List.range m).countP fun i => !listed.getD i true
theorem countP_le_of {α : Type} (p q : α → Bool) : ∀ (l : List α), (∀ x ∈ l, q x = true → p x = true) → l.countP q ≤ l.countP p
  | [], _ => Nat.le_refl _
  | x :: l, h => by
    have ih := countP_le_of p q l (fun y hy => h y (by simp [hy]))
    rw [List.countP_cons, List.countP_cons]
    cases hq : q x with
    | false => simp; cases p x <;> simp <;> omega
    | true => rw [h x (by simp) hq]; simp; exact ih
theorem countP_lt_of {α : Type} (p q : α → Bool) : ∀ (l : List α) (y : α), y ∈ l → p y = true → q y = false → (∀ x ∈ l, q x = true → p x = true) → l.countP q < l.countP p
  | x :: l, y, hy, hp, hq, h => by
    rw [List.countP_cons, List.countP_cons]
    rcases List.mem_cons.1 hy with rfl | hy'
    · have := countP_le_of p q l (fun z hz => h z (by simp [hz]))
      rw [hp, hq]; simp; omega
    · have := countP_lt_of p q l y hy' hp hq (fun z hz => h z (by simp [hz]))
      cases hqx : q x with
      | false => simp; cases p x <;> simp <;> omega
      | true => rw [h x (by simp) hqx]; simp; exact this

section
variable {P : Program} {O : Orc} (hO : OrcOk P O) {ops : Array Oper} {β0 : Env} {w0 : World} {W : List Nat} {n : Nat}
include hO

theorem any_ok {Q : Exit → Act → World → Prop} {s s' : St} {recs : List Rec} (hrun : runOps P O ops ops.toList 0 s = some (recs, s')) (hchk : chkAll recs (masks ops.toList []) 0 = true) (hedge : allEdges ops.toList 0 = true)
    (hc : okConds (recConds recs)) (hfH : ∀ b, s.fr ≤ b → hget s.H b = none) (hn : s.T.length = n) (hW : ∀ k ∈ recKeys recs, k ∈ W)
    (hQ : ∀ β a w, Inv β0 w0 W n β (tget s'.T) s'.H a w → (∀ b, s'.fr ≤ b → β b = none) → Q .normal a w) :
    ∀ (fuel : Nat) (listed : Array Bool) (β : Env) (a : Act) (w : World), listed.size = ops.size → left listed ops.size ≤ fuel →
      Inv β0 w0 W n β (stG (fun i => listed.getD i false) 0 (LT recs) (tget s.T)) (hD (fun i => listed.getD i false) 0 recs s.H) a w →
      (∀ b, s'.fr ≤ b → β b = none) → (∀ j r, recs[j]? = some r → listed.getD j false = false → ∀ b, r.fr ≤ b → b < r.fr + r.r.nw → β b = none) →
      (∀ j, listed.getD j false = true → ∀ k, ((masks ops.toList []).getD j 0).testBit k = true → listed.getD k false = true) →
      wpAny P .any ops Q fuel listed a w := by
  obtain ⟨r1, r2, r3, r4, r5, r6⟩ := runOps_all hrun hfH
  have hlen : recs.length = ops.size := by rw [r1]; simp
  -- when nothing is ready all has been done
  have done : ∀ (listed : Array Bool), listed.size = ops.size → Region.ready .any ops listed = [] → ∀ i, i < ops.size → listed.getD i false = true := by
    intro listed hsz hr i
    induction i using Nat.strongRecOn with
    | _ i ih =>
      intro hi
      cases hl : listed.getD i false with
      | true => rfl
      | false =>
        exfalso
        have ho : ops[i]? = some ops[i] := Array.getElem?_eq_getElem hi
        have hmem : i ∈ Region.ready .any ops listed := by
          unfold Region.ready
          rw [List.mem_filter]
          refine ⟨List.mem_range.2 hi, ?_⟩
          have hl' : listed.getD i true = false := by
            rw [Array.getD_eq_getD_getElem?] at hl ⊢
            rw [Array.getElem?_eq_getElem (by omega)] at hl ⊢
            simpa using hl
          rw [ho]
          simp only [hl', Bool.not_false, Bool.true_and, Option.map_some, Option.getD_some]
          rw [Array.all_eq_true_iff_forall_mem]
          intro e he
          cases hb : Region.binds .any e with
          | false => rfl
          | true =>
            have := allEdges_spec hedge (j := i) (o := ops[i]) (by simp) e (by simpa using he) hb
            rw [ih e.on (by omega) (by omega)]
            rfl
        rw [hr] at hmem
        cases hmem
  have fin : ∀ (listed : Array Bool) (β : Env) (a : Act) (w : World), listed.size = ops.size → Region.ready .any ops listed = [] →
      Inv β0 w0 W n β (stG (fun i => listed.getD i false) 0 (LT recs) (tget s.T)) (hD (fun i => listed.getD i false) 0 recs s.H) a w → (∀ b, s'.fr ≤ b → β b = none) → Q .normal a w := by
    intro listed β a w hsz hr hi hf
    have hd := done listed hsz hr
    refine hQ β a w (hi.congr (fun t => ?_) (fun b => ?_)) hf
    · rw [r3]
      refine stG_agree (fun j f hj hne => ?_) rfl
      have : j < ops.size := by
        have := (List.getElem?_eq_some_iff.1 hj).1
        simp [LT] at this; omega
      rw [Nat.zero_add, hd j this] at hne
      exact absurd rfl hne
    · rw [r4, hD_get r2]
      refine stG_agree (fun j f hj hne => ?_) rfl
      have : j < ops.size := by
        have := (List.getElem?_eq_some_iff.1 hj).1
        simp [LH] at this; omega
      rw [Nat.zero_add, hd j this] at hne
      exact absurd rfl hne
  intro fuel
  induction fuel with
  | zero =>
    intro listed β a w hsz hleft hi hf _ _
    have hr : Region.ready .any ops listed = [] := by
      apply List.eq_nil_iff_forall_not_mem.2
      intro i hm
      unfold Region.ready at hm
      rw [List.mem_filter] at hm
      have h1 : (!listed.getD i true) = true := (Bool.and_eq_true_iff.1 hm.2).1
      have : 0 < left listed ops.size := List.countP_pos_iff.2 ⟨i, hm.1, h1⟩
      omega
    exact ⟨hr, fin listed β a w hsz hr hi hf⟩
  | succ fuel ih =>
    intro listed β a w hsz hleft hi hf hfr hclosed
    refine ⟨fun hr => fin listed β a w hsz hr hi hf, fun i hmem => ?_⟩
    unfold Region.ready at hmem
    rw [List.mem_filter] at hmem
    obtain ⟨hrange, hready⟩ := hmem
    have hilt := List.mem_range.1 hrange
    obtain ⟨hnl, hedges⟩ := Bool.and_eq_true_iff.1 hready
    have hnl' : listed.getD i false = false := by
      rw [Array.getD_eq_getD_getElem?] at hnl ⊢
      rw [Array.getElem?_eq_getElem (by omega)] at hnl ⊢
      simpa using hnl
    have ho : ops[i]? = some ops[i] := Array.getElem?_eq_getElem hilt
    rw [ho] at hedges
    simp only [Option.map_some, Option.getD_some] at hedges
    have hdeps : ∀ e ∈ ops[i].after.toList, Region.binds .any e = true → listed.getD e.on false = true := by
      intro e he hb
      have := Array.all_eq_true_iff_forall_mem.1 hedges e (by simpa using he)
      rw [hb] at this
      simpa using this
    have hbits : ∀ k, ((masks ops.toList []).getD i 0).testBit k = true → listed.getD k false = true := by
      intro k hk
      obtain ⟨e, h1, h2, h3⟩ := masks_spec (l := ops.toList) (acc := []) (j := i) (k := k) (o := ops[i]) (by simp) (by simpa using hk)
      have := hdeps e h1 h2
      rcases h3 with h3 | h3
      · rw [h3]; exact this
      · exact hclosed e.on this k h3
    have hrec : recs[i]? = some recs[i] := List.getElem?_eq_getElem (by omega)
    obtain ⟨o, T, H, path, q1, q2, q3, q4, q5, q6, q7, q8, q9, q10, q11⟩ := r5 i _ hrec
    have ho' : o = ops[i] := by
      rw [Array.getElem?_toList, ho] at q1
      injection q1 with q1; exact q1.symm
    subst ho'
    rw [Nat.zero_add] at q2
    -- pairs that the schedule has turned round are independent
    have later : ∀ j r, recs[j]? = some r → i < j → listed.getD j false = true → indepB recs[i] r = true := by
      intro j r hj hlt hl
      refine chkAll_spec hchk hrec hj hlt ?_
      rw [Nat.zero_add]
      cases hb : ((masks ops.toList []).getD j 0).testBit i with
      | false => rfl
      | true => rw [hclosed j hl i hb] at hnl'; cases hnl'
    have earlier : ∀ j r, recs[j]? = some r → j < i → listed.getD j false = false → indepB r recs[i] = true := by
      intro j r hj hlt hl
      refine chkAll_spec hchk hj hrec hlt ?_
      rw [Nat.zero_add]
      cases hb : ((masks ops.toList []).getD i 0).testBit j with
      | false => rfl
      | true => rw [hbits j hb] at hl; cases hl
    have blt : ∀ j, Nat.blt j i = true ↔ j < i := fun j => by unfold Nat.blt; exact ⟨Nat.le_of_ble_eq_true, Nat.ble_eq_true_of_le⟩
    have side : ∀ j r, recs[j]? = some r → (fun x => Nat.blt x i) (0 + j) ≠ (fun i => listed.getD i false) (0 + j) → (∀ t ∈ recs[i].ts, r.dst ≠ some t) ∧ (∀ k ∈ recs[i].ks, ∀ y, (k, y) ∉ r.r.upd) := by
      intro j r hj hne
      simp only [Nat.zero_add] at hne
      rcases Nat.lt_trichotomy j i with hlt | rfl | hlt
      · have hb := (blt j).2 hlt
        rw [hb] at hne
        have hl : listed.getD j false = false := by cases h : listed.getD j false with | false => rfl | true => rw [h] at hne; exact absurd rfl hne
        obtain ⟨p1, _, _, p4, _, _⟩ := indep_parts (earlier j r hj hlt hl)
        exact ⟨fun t ht hd => p1 t hd ht, fun k hk y hy => p4 k y hy hk⟩
      · have hb : Nat.blt j j = false := by cases h : Nat.blt j j with | false => rfl | true => exact absurd ((blt j).1 h) (by omega)
        rw [hb, hnl'] at hne; exact absurd rfl hne
      · have hb : Nat.blt j i = false := by cases h : Nat.blt j i with | false => rfl | true => exact absurd ((blt j).1 h) (by omega)
        rw [hb] at hne
        have hl : listed.getD j false = true := by cases h : listed.getD j false with | true => rfl | false => rw [h] at hne; exact absurd rfl hne
        obtain ⟨_, p2, _, _, p5, _⟩ := indep_parts (later j r hj hlt hl)
        exact ⟨fun t ht hd => p2 t hd ht, fun k hk y hy => p5 k y hy hk⟩
    have agT : ∀ t ∈ tsOf ops ops[i], tget T t = stG (fun i => listed.getD i false) 0 (LT recs) (tget s.T) t := by
      intro t ht
      rw [q6]
      refine stG_agree (fun j f hj hne => ?_) rfl
      simp only [LT, List.getElem?_map, Option.map_eq_some_iff] at hj
      obtain ⟨r, hr, rfl⟩ := hj
      exact dstF_none ((side j r hr hne).1 t (by rw [q4]; exact ht))
    have agH : ∀ k ∈ foot ops[i] (restrT (tget T) (tsOf ops ops[i])) (tsOf ops ops[i]) H, hget H k = hget (hD (fun i => listed.getD i false) 0 recs s.H) k := by
      intro k hk
      rw [q7, hD_get r2]
      refine stG_agree (fun j f hj hne => ?_) rfl
      simp only [LH, List.getElem?_map, Option.map_eq_some_iff] at hj
      obtain ⟨r, hr, rfl⟩ := hj
      exact look_none fun y => (side j r hr hne).2 k (by rw [q5, q4]; exact hk) y
    rw [opEff_congr agT agH] at q2
    have hcr : okConds recs[i].r.conds := by
      have : ∀ (L : List Rec) (j : Nat) (r : Rec), okConds (recConds L) → L[j]? = some r → okConds r.r.conds := by
        intro L
        induction L with
        | nil => intro j r _ h; simp at h
        | cons q L ihL =>
          intro j r hcL hj
          obtain ⟨c1, c2⟩ := okConds_append.1 hcL
          cases j with
          | zero => simp at hj; subst hj; exact c1
          | succ j => exact ihL j r c2 (by simpa using hj)
      exact this recs i _ hc hrec
    have keysW : ∀ k y, (k, y) ∈ recs[i].r.upd → k ∈ W := by
      intro k y hk
      refine hW k ?_
      have : ∀ (L : List Rec) (r : Rec), r ∈ L → k ∈ updKeys r.r.upd → k ∈ recKeys L := by
        intro L
        induction L with
        | nil => intro r h; cases h
        | cons q L ihL =>
          intro r hr hkr
          simp only [recKeys, cat_eq, List.mem_append]
          rcases List.mem_cons.1 hr with rfl | hr
          · exact .inl hkr
          · exact .inr (ihL r hr hkr)
      exact this recs _ (List.getElem_mem _) (updKeys_mem.2 ⟨y, hk⟩)
    -- the keys that are to come are free
    have freeH : ∀ b, recs[i].fr ≤ b → b < recs[i].fr + recs[i].r.nw → hget (hD (fun i => listed.getD i false) 0 recs s.H) b = none := by
      intro b h1 h2
      have e := q11 b h1
      rw [q7] at e
      rw [hD_get r2, ← e]
      refine stG_agree (fun j f hj hne => ?_) rfl
      simp only [LH, List.getElem?_map, Option.map_eq_some_iff] at hj
      obtain ⟨r, hr, rfl⟩ := hj
      refine look_none fun y hy => ?_
      obtain ⟨o2, T2, H2, path2, w1, w2, _, w4, w5, _, _, _, w9, w10, w11⟩ := r5 j r hr
      have hu2 := opEff_upd w2 (fun b h1 _ => w11 b h1)
      simp only [Nat.zero_add] at hne
      rcases Nat.lt_trichotomy j i with hlt | rfl | hlt
      · have := r6 j i r _ hr hrec hlt
        rcases (updOk_spec hu2).1 b y hy with hh | ⟨_, hh, _⟩
        · rw [w11 b (by omega)] at hh; cases hh
        · omega
      · have hb : Nat.blt j j = false := by cases h : Nat.blt j j with | false => rfl | true => exact absurd ((blt j).1 h) (by omega)
        rw [hb, hnl'] at hne; exact absurd rfl hne
      · have hb : Nat.blt j i = false := by cases h : Nat.blt j i with | false => rfl | true => exact absurd ((blt j).1 h) (by omega)
        rw [hb] at hne
        have hl : listed.getD j false = true := by cases h : listed.getD j false with | true => rfl | false => rw [h] at hne; exact absurd rfl hne
        have hind := later j r hr hlt hl
        have h6 := r6 i j _ r hrec hr hlt
        rcases opEff_keys w2 b y hy with hh | ⟨hh, _⟩
        · rw [← w4, ← w5] at hh
          exact outside_spec (Bool.and_eq_true_iff.1 hind).1 b hh h1 h2
        · omega
    refine opEff_wp hO hi.tmp hi.good q2 hcr (hfr i _ hrec hnl') freeH ho fun u w' β' hE hG => ?_
    have hset : ∀ j, (listed.setIfInBounds i true).getD j false = if j = i then true else listed.getD j false := by
      intro j
      rw [Array.getD_eq_getD_getElem?, Array.getD_eq_getD_getElem?]
      by_cases hji : j = i
      · subst hji; rw [Array.getElem?_setIfInBounds_self_of_lt (by omega)]; simp
      · rw [Array.getElem?_setIfInBounds_ne (Ne.symm hji), if_neg hji]
    have hst := hi.step hE hG keysW (d := ops[i].dst) (fun t ht => by rw [← hn]; exact q8 t ht)
    refine ih _ β' _ w' (by simpa using hsz) ?_ (hst.congr (fun t => ?_) (fun b => ?_)) ?_ ?_ ?_
    · have hlt : left (listed.setIfInBounds i true) ops.size < left listed ops.size := by
        refine countP_lt_of _ _ _ i hrange hnl ?_ ?_
        · rw [Array.getD_eq_getD_getElem?, Array.getElem?_setIfInBounds_self_of_lt (by omega)]; rfl
        · intro j _ hj
          by_cases hji : j = i
          · subst hji; exact hnl
          · rw [Array.getD_eq_getD_getElem?, Array.getElem?_setIfInBounds_ne (Ne.symm hji), ← Array.getD_eq_getD_getElem?] at hj; exact hj
      omega
    · rw [upT_upd1]
      have hf : (LT recs)[i]? = some (dstF ops[i].dst recs[i].r.val) := by simp [LT, hrec, q3]
      refine (stG_insert hf (by rw [Nat.zero_add]; exact hnl') (by rw [Nat.zero_add, hset, if_pos rfl]) (fun j hj => by rw [Nat.zero_add, hset, if_neg hj]) ?_).symm
      intro j g hg hlt hl
      simp only [LT, List.getElem?_map, Option.map_eq_some_iff] at hg
      obtain ⟨r, hr, rfl⟩ := hg
      rw [Nat.zero_add] at hl
      obtain ⟨_, _, p3, _⟩ := indep_parts (later j r hr hlt hl)
      by_cases hd : ops[i].dst = some t
      · exact .inl (dstF_none (p3 t (by rw [q3]; exact hd)))
      · exact .inr (dstF_none hd)
    · rw [hget_happly_upd1 (r2 _ (List.getElem_mem _)), hD_get r2]
      have hf : (LH recs)[i]? = some (look recs[i].r.upd) := by simp [LH, hrec]
      have hfun : hget (hD (fun i => listed.getD i false) 0 recs s.H) = stG (fun i => listed.getD i false) 0 (LH recs) (hget s.H) := funext (hD_get r2)
      rw [hfun]
      refine (stG_insert hf (by rw [Nat.zero_add]; exact hnl') (by rw [Nat.zero_add, hset, if_pos rfl]) (fun j hj => by rw [Nat.zero_add, hset, if_neg hj]) ?_).symm
      intro j g hg hlt hl
      simp only [LH, List.getElem?_map, Option.map_eq_some_iff] at hg
      obtain ⟨r, hr, rfl⟩ := hg
      rw [Nat.zero_add] at hl
      obtain ⟨_, _, _, _, _, p6⟩ := indep_parts (later j r hr hlt hl)
      by_cases hk : ∃ y, (b, y) ∈ recs[i].r.upd
      · obtain ⟨y, hy⟩ := hk
        exact .inl (look_none fun y' hy' => p6 b y y' hy hy')
      · exact .inr (look_none fun y hy => hk ⟨y, hy⟩)
    · intro b hb
      cases hβ : β' b with
      | none => rfl
      | some X =>
        rcases hE.new b X hβ with h | ⟨_, h, _⟩
        · rw [hf b hb] at h; cases h
        · omega
    · intro j r hj hl b h1 h2
      rw [hset] at hl
      by_cases hji : j = i
      · rw [if_pos hji] at hl; cases hl
      · rw [if_neg hji] at hl
        cases hβ : β' b with
        | none => rfl
        | some X =>
          rcases hE.new b X hβ with h | ⟨h3, h4, _⟩
          · rw [hfr j r hj hl b h1 h2] at h; cases h
          · rcases Nat.lt_or_ge j i with hlt | hge
            · have := r6 j i r _ hj hrec hlt; omega
            · have := r6 i j _ r hrec hj (by omega); omega
    · intro j hj k hk
      rw [hset] at hj ⊢
      by_cases hki : k = i
      · rw [if_pos hki]
      · rw [if_neg hki]
        by_cases hji : j = i
        · subst hji; exact hbits k hk
        · rw [if_neg hji] at hj; exact hclosed j hj k hk
end
end Go.Proofs.Ytoemaicabljpfaa.Ex
