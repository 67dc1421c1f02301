/- The executor's regions, whole: in the text's order, and in any order that the edges allow. -/
import Derived.Test.YtoemaicabljpfaaExJ
namespace Go.Proofs.Ytoemaicabljpfaa.Ex

structure Rec where
  dst : Option Nat
  r : R
  ts : List Nat
  ks : List Nat
  fr : Nat
structure St where
  T : List AV
  H : Heap
  fr : Nat
  path : List Bool

structure Inv (β0 : Env) (w0 : World) (W : List Nat) (n : Nat) (β : Env) (τ : Nat → AV) (H : Heap) (a : Act) (w : World) : Prop where
  tmp : ∀ t, relA β (τ t) (a.tmps.getD t undef)
  good : Good β H w
  sz : a.tmps.size = n
  dfr : a.defers = []
  new : ∀ b X, β b = some X → β0 b = some X ∨ ∀ B m, X = .at_ B m → w0.heap.size ≤ B ∨ ∃ k m', k ∈ W ∧ β0 k = some (.at_ B m')
  ext : Env.le β0 β
  frame : ∀ B, B < w0.heap.size → (∀ k m, k ∈ W → β0 k ≠ some (.at_ B m)) → w.heap[B]? = w0.heap[B]?
  size : w0.heap.size ≤ w.heap.size
  os : w.os = w0.os
  tape : w.tape = w0.tape
  output : w.output = w0.output

theorem Good.congr {β : Env} {H H' : Heap} {w : World} (g : Good β H w) (h : ∀ b, hget H b = hget H' b) : Good β H' w where
  heap := fun b blk hb => g.heap b blk (by rw [h]; exact hb)
  inj := fun b b' B n n' h1 h2 => g.inj b b' B n n' (by rw [h]; exact h1) (by rw [h]; exact h2)
  lt := g.lt
theorem Inv.congr {β0 : Env} {w0 : World} {W : List Nat} {n : Nat} {β : Env} {τ τ' : Nat → AV} {H H' : Heap} {a : Act} {w : World} (i : Inv β0 w0 W n β τ H a w) (h1 : ∀ t, τ t = τ' t) (h2 : ∀ b, hget H b = hget H' b) :
    Inv β0 w0 W n β τ' H' a w :=
  { i with tmp := fun t => by rw [← h1]; exact i.tmp t, good := i.good.congr h2 }
theorem Inv.drew {β0 : Env} {w0 : World} {W : List Nat} {n : Nat} {β : Env} {τ : Nat → AV} {H : Heap} {a : Act} {w : World} (i : Inv β0 w0 W n β τ H a w) : Inv β0 w0 W n β τ H a { w with drawn := w.drawn + 1 } :=
  { i with good := ⟨i.good.heap, i.good.inj, i.good.lt⟩ }

def upT (τ : Nat → AV) (d : Option Nat) (v : AV) : Nat → AV := fun t => match d with
  | some d => match Nat.beq d t with | true => v | false => τ t
  | none => τ t

theorem Inv.step {β0 : Env} {w0 : World} {W : List Nat} {n : Nat} {β β' : Env} {τ : Nat → AV} {H : Heap} {a : Act} {w w' : World} {fr : Nat} {r : R} {u : Value} {d : Option Nat} (i : Inv β0 w0 W n β τ H a w)
    (he : Eff β fr r w u w' β') (hg : Good β' (happly H r.upd) w') (hW : ∀ k y, (k, y) ∈ r.upd → k ∈ W) (hd : ∀ t, d = some t → t < n) :
    Inv β0 w0 W n β' (upT τ d r.val) (happly H r.upd) (a.put d u) w' where
  tmp := fun t => by
    cases d with
    | none => exact relA_mono he.ext (i.tmp t)
    | some d =>
      simp only [upT, Act.put]
      have hlt := hd d rfl
      split
      · rename_i e
        have := nbeq.1 e
        subst this
        rw [Array.getD_eq_getD_getElem?, Array.getElem?_setIfInBounds_self_of_lt (by rw [i.sz]; exact hlt)]
        exact he.val
      · rename_i e
        have := nbeq_false e
        rw [Array.getD_eq_getD_getElem?, Array.getElem?_setIfInBounds_ne this, ← Array.getD_eq_getD_getElem?]
        exact relA_mono he.ext (i.tmp t)
  good := hg
  sz := by cases d <;> simp [Act.put, i.sz]
  dfr := by cases d <;> simp [Act.put, i.dfr]
  new := fun b X hb => by
    rcases he.new b X hb with h | ⟨_, _, h3⟩
    · exact i.new b X h
    · refine .inr fun B m e => ?_
      rcases h3 B m e with h | ⟨k, m', hk, hk2⟩
      · exact .inl (Nat.le_trans i.size h)
      · rcases i.new k _ hk2 with h | h
        · exact .inr ⟨k, m', hW _ _ hk, h⟩
        · exact h B m' rfl
  ext := Env.le_trans i.ext he.ext
  frame := fun B hB hno => by
    rw [he.frame B (Nat.lt_of_lt_of_le hB i.size) ?_, i.frame B hB hno]
    intro k y m hky hk
    rcases i.new k _ hk with h | h
    · exact hno k m (hW _ _ hky) h
    · rcases h B m rfl with h | ⟨k', m', h1, h2⟩
      · omega
      · exact hno k' m' h1 h2
  size := Nat.le_trans i.size he.size
  os := by rw [he.os, i.os]
  tape := by rw [he.tape, i.tape]
  output := by rw [he.output, i.output]

def applyT (T : List AV) (d : Option Nat) (v : AV) : List AV := match d with
  | some d => tset T d v
  | none => T
theorem tget_tset : ∀ {T : List AV} {d t : Nat} {v : AV}, d < T.length → tget (tset T d v) t = match Nat.beq d t with | true => v | false => tget T t
  | [], d, t, v, h => by simp at h
  | x :: r, 0, 0, v, _ => rfl
  | x :: r, 0, t + 1, v, _ => by simp [tset, tget, nbeq_ne (a := 0) (b := t + 1) (by omega)]
  | x :: r, d + 1, 0, v, _ => by simp [tset, tget, nbeq_ne (a := d + 1) (b := 0) (by omega)]
  | x :: r, d + 1, t + 1, v, h => by
    simp only [tset, tget]
    rw [tget_tset (T := r) (d := d) (t := t) (v := v) (by simpa using h)]
    by_cases e : d = t
    · subst e; rfl
    · rw [nbeq_ne e, nbeq_ne (a := d + 1) (b := t + 1) (by omega)]
theorem tset_length : ∀ {T : List AV} {d : Nat} {v : AV}, (tset T d v).length = T.length
  | [], _, _ => rfl
  | _ :: _, 0, _ => rfl
  | _ :: r, d + 1, v => by simp [tset, tset_length (T := r)]
def lenLt (d : Nat) : List AV → Bool
  | [] => false
  | _ :: r => match d with | 0 => true | d + 1 => lenLt d r
theorem lenLt_spec : ∀ {T : List AV} {d : Nat}, lenLt d T = true → d < T.length
  | [], d, h => by simp [lenLt] at h
  | x :: r, 0, _ => by simp
  | x :: r, d + 1, h => by simp only [lenLt] at h; simp [lenLt_spec h]
def dstOk (d : Option Nat) (T : List AV) : Bool := match d with
  | some d => lenLt d T
  | none => true
theorem applyT_get {T : List AV} {d : Option Nat} {v : AV} (h : dstOk d T = true) (t : Nat) : tget (applyT T d v) t = upT (tget T) d v t := by
  cases d with
  | none => rfl
  | some d => exact tget_tset (lenLt_spec h)
theorem applyT_length {T : List AV} {d : Option Nat} {v : AV} : (applyT T d v).length = T.length := by
  cases d with
  | none => rfl
  | some d => exact tset_length

def runOps (P : Program) (O : Orc) (ops : Array Oper) : List Oper → Nat → St → Option (List Rec × St)
  | [], _, s => some ([], s)
  | o :: rest, i, s =>
    match opEff P O ops i o (tsOf ops o) (tget s.T) s.H s.fr s.path with
    | some e => match dstOk o.dst s.T with
      | true => match runOps P O ops rest (i + 1) ⟨applyT s.T o.dst e.val, happly s.H e.upd, s.fr + e.nw, e.path⟩ with
        | some (recs, s') => some (⟨o.dst, e, tsOf ops o, foot o (restrT (tget s.T) (tsOf ops o)) (tsOf ops o) s.H, s.fr⟩ :: recs, s')
        | none => none
      | false => none
    | none => none

def recConds : List Rec → List (Bool × Bool)
  | [] => []
  | r :: L => r.r.conds ++ recConds L
def updKeys : Heap → List Nat
  | [] => []
  | (k, _) :: r => k :: updKeys r
def recKeys : List Rec → List Nat
  | [] => []
  | r :: L => cat (updKeys r.r.upd) (recKeys L)
theorem updKeys_mem {u : Heap} {k : Nat} : k ∈ updKeys u ↔ ∃ y, (k, y) ∈ u := by
  induction u with
  | nil => simp [updKeys]
  | cons e u ih =>
    obtain ⟨j, y⟩ := e
    simp only [updKeys, List.mem_cons, ih, Prod.mk.injEq]
    constructor
    · rintro (rfl | ⟨z, hz⟩)
      · exact ⟨y, .inl ⟨rfl, rfl⟩⟩
      · exact ⟨z, .inr hz⟩
    · rintro ⟨z, ⟨rfl, _⟩ | hz⟩
      · exact .inl rfl
      · exact .inr ⟨z, hz⟩

theorem opEff_upd {P : Program} {O : Orc} {ops : Array Oper} {i : Nat} {o : Oper} {ts : List Nat} {τ : Nat → AV} {H : Heap} {fr : Nat} {path : List Bool} {r : R} (h : opEff P O ops i o ts τ H fr path = some r) (hfH : ∀ b, fr ≤ b → b < fr + r.nw → hget H b = none) :
    updOk H fr r.nw r.upd = true := by
  unfold opEff at h
  split at h
  · injection h with h; subst h; rfl
  · split at h
    · rename_i r0 ha
      split at h
      · rename_i hu
        unfold resolveR at h
        split at h
        · split at h
          · injection h with h; subst h; exact updOk_restrict hu hfH
          · cases h
        · injection h with h; subst h; exact updOk_restrict hu hfH
      · cases h
    · cases h
  · cases h

theorem fresh_happly {H : Heap} {fr nw : Nat} {u : Heap} (hu : updOk H fr nw u = true) (hf : ∀ b, fr ≤ b → hget H b = none) : ∀ b, fr + nw ≤ b → hget (happly H u) b = none := by
  intro b hb
  obtain ⟨u1, u2⟩ := updOk_spec hu
  by_cases hk : ∃ y, (b, y) ∈ u
  · obtain ⟨y, hy⟩ := hk
    rcases u1 _ _ hy with h | ⟨_, h, _⟩
    · rw [hf b (by omega)] at h; cases h
    · omega
  · rw [(hget_happly u2).2 (fun y hy => hk ⟨y, hy⟩)]
    exact hf b (by omega)

section
variable {P : Program} {O : Orc} (hO : OrcOk P O) {ops : Array Oper} {β0 : Env} {w0 : World} {W : List Nat} {n : Nat}
include hO

omit hO in
theorem runOps_fresh : ∀ {rest : List Oper} {i : Nat} {s s' : St} {recs : List Rec}, runOps P O ops rest i s = some (recs, s') → (∀ b, s.fr ≤ b → hget s.H b = none) →
    (∀ b, s'.fr ≤ b → hget s'.H b = none) ∧ s.fr ≤ s'.fr ∧ s'.T.length = s.T.length
  | [], i, s, s', recs, h, hf => by simp only [runOps, Option.some.injEq, Prod.mk.injEq] at h; obtain ⟨rfl, rfl⟩ := h; exact ⟨hf, Nat.le_refl _, rfl⟩
  | o :: rest, i, s, s', recs, h, hf => by
    simp only [runOps] at h
    split at h
    · rename_i e he
      split at h
      · rename_i hd
        split at h
        · rename_i recs' s'' hr
          injection h with h; injection h with h1 h2; subst h1; subst h2
          have hu := opEff_upd he (fun b h1 _ => hf b h1)
          obtain ⟨j1, j2, j3⟩ := runOps_fresh hr (fresh_happly hu hf)
          exact ⟨j1, by simp at j2; omega, by rw [j3]; exact applyT_length⟩
        · cases h
      · cases h
    · cases h

theorem seq_ok {Q : Exit → Act → World → Prop} : ∀ (rest : List Oper) (i : Nat) (s s' : St) (recs : List Rec) (β : Env) (a : Act) (w : World), ops.toList.drop i = rest → runOps P O ops rest i s = some (recs, s') → okConds (recConds recs) →
    Inv β0 w0 W n β (tget s.T) s.H a w → (∀ b, s.fr ≤ b → β b = none) → (∀ b, s.fr ≤ b → hget s.H b = none) → s.T.length = n → (∀ k ∈ recKeys recs, k ∈ W) →
    (∀ β a w, Inv β0 w0 W n β (tget s'.T) s'.H a w → (∀ b, s'.fr ≤ b → β b = none) → Q .normal a w) → wpOps P ops Q (List.range' i rest.length) a w
  | [], i, s, s', recs, β, a, w, _, h, _, hi, hf, _, _, _, hQ => by
    simp only [runOps, Option.some.injEq, Prod.mk.injEq] at h
    obtain ⟨rfl, rfl⟩ := h
    exact hQ β a w hi hf
  | o :: rest, i, s, s', recs, β, a, w, hdrop, h, hc, hi, hf, hfH, hn, hW, hQ => by
    simp only [runOps] at h
    split at h
    · rename_i e he
      split at h
      · rename_i hd
        split at h
        · rename_i recs' s'' hr
          injection h with h; injection h with h1 h2; subst h1; subst h2
          obtain ⟨c1, c2⟩ := okConds_append.1 hc
          have ho : ops[i]? = some o := by
            have := congrArg (·[0]?) hdrop
            simpa using this
          have hdrop' : ops.toList.drop (i + 1) = rest := by
            rw [← List.drop_drop, hdrop]; rfl
          have hu := opEff_upd he (fun b h1 _ => hfH b h1)
          rw [List.length_cons, List.range'_succ, wpOps_cons]
          refine opEff_wp hO hi.tmp hi.good he c1 (fun b h1 _ => hf b h1) (fun b h1 _ => hfH b h1) ho fun u w' β' hE hG => ?_
          have hi' := hi.step hE hG (fun k y hk => hW k (by simp only [recKeys, cat_eq, List.mem_append]; exact .inl (updKeys_mem.2 ⟨y, hk⟩))) (d := o.dst) (fun t ht => by
            rw [ht] at hd
            have := lenLt_spec hd
            omega)
          refine seq_ok rest (i + 1) _ _ recs' β' _ w' hdrop' hr c2 (hi'.congr (fun t => (applyT_get hd t).symm) (fun _ => rfl)) ?_ (fresh_happly hu hfH) (by rw [← hn]; exact applyT_length) (fun k hk => hW k (by simp only [recKeys, cat_eq, List.mem_append]; exact .inr hk)) hQ
          intro b hb
          cases hβ : β' b with
          | none => rfl
          | some X =>
            simp only at hb
            rcases hE.new b X hβ with h | ⟨_, h, _⟩
            · rw [hf b (by omega)] at h; cases h
            · omega
        · cases h
      · cases h
    · cases h
end

/- any order -/
def upd1 {X : Type} (f : Nat → Option X) (s : Nat → X) : Nat → X := fun k => match f k with | some x => x | none => s k
def stG {X : Type} (D : Nat → Bool) : Nat → List (Nat → Option X) → (Nat → X) → (Nat → X)
  | _, [], s => s
  | i, f :: L, s => stG D (i + 1) L (match D i with | true => upd1 f s | false => s)
theorem stG_agree {X : Type} {D D' : Nat → Bool} {k : Nat} : ∀ {L : List (Nat → Option X)} {i : Nat} {s s' : Nat → X}, (∀ j f, L[j]? = some f → D (i + j) ≠ D' (i + j) → f k = none) → s k = s' k → stG D i L s k = stG D' i L s' k
  | [], _, _, _, _, h => h
  | f :: L, i, s, s', h1, h2 => by
    simp only [stG]
    refine stG_agree (fun j g hg hne => h1 (j + 1) g (by simpa using hg) (by rw [show i + (j + 1) = i + 1 + j by omega]; exact hne)) ?_
    have h0 := h1 0 f rfl
    simp only [Nat.add_zero] at h0
    cases hD : D i <;> cases hD' : D' i <;> simp only
    · exact h2
    · have := h0 (by rw [hD, hD']; simp); simp [upd1, this, h2]
    · have := h0 (by rw [hD, hD']; simp); simp [upd1, this, h2]
    · simp only [upd1]; cases f k <;> simp [h2]
theorem stG_insert {X : Type} {D D' : Nat → Bool} {k : Nat} : ∀ {L : List (Nat → Option X)} {i j0 : Nat} {s : Nat → X} {f : Nat → Option X}, L[j0]? = some f → D (i + j0) = false → D' (i + j0) = true → (∀ j, j ≠ j0 → D' (i + j) = D (i + j)) →
    (∀ j g, L[j]? = some g → j0 < j → D (i + j) = true → g k = none ∨ f k = none) → stG D' i L s k = upd1 f (stG D i L s) k
  | [], _, _, _, _, h, _, _, _, _ => by simp at h
  | g :: L, i, 0, s, f, h, hD, hD', hsame, hno => by
    simp only [List.getElem?_cons_zero, Option.some.injEq] at h
    subst h
    simp only [Nat.add_zero] at hD hD'
    simp only [stG, hD, hD']
    cases hf : g k with
    | none =>
      simp only [upd1, hf]
      refine stG_agree (fun j q hq hne => absurd ?_ hne) (by simp [upd1, hf])
      have := hsame (j + 1) (by omega)
      rwa [show i + (j + 1) = i + 1 + j by omega] at this
    | some x =>
      simp only [upd1, hf]
      have e1 : stG D' (i + 1) L (upd1 g s) k = stG (fun _ => false) (i + 1) L (upd1 g s) k := by
        refine stG_agree (fun j q hq hne => ?_) rfl
        have h1 : D' (i + 1 + j) = true := by cases h : D' (i + 1 + j) <;> simp_all
        have h2 : D (i + (j + 1)) = true := by
          rw [← hsame (j + 1) (by omega), show i + (j + 1) = i + 1 + j by omega]; exact h1
        rcases hno (j + 1) q (by simpa using hq) (by omega) h2 with h | h
        · exact h
        · rw [hf] at h; cases h
      have e2 : ∀ (L : List (Nat → Option X)) (i : Nat) (s : Nat → X), stG (fun _ => false) i L s = s := by
        intro L
        induction L with
        | nil => intro i s; rfl
        | cons f L ih => intro i s; simp only [stG]; exact ih _ _
      have e3 : upd1 g s k = x := by simp [upd1, hf]
      show stG D' (i + 1) L (upd1 g s) k = x
      rw [e1, e2, e3]
  | g :: L, i, j0 + 1, s, f, h, hD, hD', hsame, hno => by
    simp only [stG]
    have h0 := hsame 0 (by omega)
    simp only [Nat.add_zero] at h0
    rw [h0]
    exact stG_insert (L := L) (i := i + 1) (j0 := j0) (by simpa using h) (by rw [show i + 1 + j0 = i + (j0 + 1) by omega]; exact hD) (by rw [show i + 1 + j0 = i + (j0 + 1) by omega]; exact hD')
      (fun j hj => by rw [show i + 1 + j = i + (j + 1) by omega]; exact hsame (j + 1) (by omega))
      (fun j q hq hlt hd => hno (j + 1) q (by simpa using hq) (by omega) (by rw [show i + (j + 1) = i + 1 + j by omega]; exact hd))

def look : Heap → Nat → Option (Option Blk)
  | [], _ => none
  | (k, y) :: r, b => match Nat.beq k b with | true => some y | false => look r b
theorem look_spec {b : Nat} : ∀ {u : Heap}, (∀ y, look u b = some y → (b, y) ∈ u) ∧ (look u b = none → ∀ y, (b, y) ∉ u)
  | [] => ⟨by simp [look], by simp⟩
  | (k, z) :: r => by
    simp only [look]
    split
    · rename_i h; have := nbeq.1 h; subst this
      exact ⟨fun y hy => by injection hy with hy; simp [hy], fun h => by cases h⟩
    · rename_i h
      have := nbeq_false h
      refine ⟨fun y hy => by simp [(look_spec (u := r)).1 y hy], fun hn y hy => ?_⟩
      simp only [List.mem_cons, Prod.mk.injEq] at hy
      rcases hy with ⟨e, _⟩ | hy
      · exact this e.symm
      · exact (look_spec (u := r)).2 hn y hy
theorem hget_happly_upd1 {u H : Heap} (hu : ∀ k y y', (k, y) ∈ u → (k, y') ∈ u → y = y') (b : Nat) : hget (happly H u) b = upd1 (look u) (hget H) b := by
  obtain ⟨h1, h2⟩ := hget_happly (b := b) (H := H) hu
  simp only [upd1]
  cases hl : look u b with
  | none => exact h2 (look_spec.2 hl)
  | some y => exact h1 y (look_spec.1 y hl)

def dstF (d : Option Nat) (v : AV) : Nat → Option AV := fun t => match d with
  | some d => match Nat.beq d t with | true => some v | false => none
  | none => none
theorem upT_upd1 (τ : Nat → AV) (d : Option Nat) (v : AV) (t : Nat) : upT τ d v t = upd1 (dstF d v) τ t := by
  unfold upT upd1 dstF
  cases d with
  | none => rfl
  | some d => simp only; cases Nat.beq d t <;> rfl

def hD (D : Nat → Bool) : Nat → List Rec → Heap → Heap
  | _, [], H => H
  | i, r :: L, H => hD D (i + 1) L (match D i with | true => happly H r.r.upd | false => H)
def LT (L : List Rec) : List (Nat → Option AV) := L.map fun r => dstF r.dst r.r.val
def LH (L : List Rec) : List (Nat → Option (Option Blk)) := L.map fun r => look r.r.upd
theorem hD_get {D : Nat → Bool} : ∀ {L : List Rec} {i : Nat} {H : Heap}, (∀ r ∈ L, ∀ k y y', (k, y) ∈ r.r.upd → (k, y') ∈ r.r.upd → y = y') → ∀ b, hget (hD D i L H) b = stG D i (LH L) (hget H) b
  | [], _, _, _, _ => rfl
  | r :: L, i, H, hu, b => by
    simp only [hD, LH, List.map_cons, stG]
    rw [hD_get (L := L) (fun q hq => hu q (by simp [hq]))]
    have hfun : hget (match D i with | true => happly H r.r.upd | false => H) = (match D i with | true => upd1 (look r.r.upd) (hget H) | false => hget H) := by
      funext x
      cases D i
      · rfl
      · exact hget_happly_upd1 (hu r (by simp)) x
    rw [hfun]; rfl

/- what the run in the text's order says of each operation -/
theorem runOps_all {P : Program} {O : Orc} {ops : Array Oper} : ∀ {rest : List Oper} {i : Nat} {s s' : St} {recs : List Rec}, runOps P O ops rest i s = some (recs, s') → (∀ b, s.fr ≤ b → hget s.H b = none) →
    recs.length = rest.length ∧ (∀ r ∈ recs, ∀ k y y', (k, y) ∈ r.r.upd → (k, y') ∈ r.r.upd → y = y') ∧
    (∀ t, tget s'.T t = stG (fun _ => true) 0 (LT recs) (tget s.T) t) ∧ (∀ b, hget s'.H b = stG (fun _ => true) 0 (LH recs) (hget s.H) b) ∧
    (∀ (j : Nat) (r : Rec), recs[j]? = some r → ∃ (o : Oper) (T : List AV) (H : Heap) (path : List Bool), rest[j]? = some o ∧ opEff P O ops (i + j) o (tsOf ops o) (tget T) H r.fr path = some r.r ∧ r.dst = o.dst ∧ r.ts = tsOf ops o ∧ r.ks = foot o (restrT (tget T) r.ts) r.ts H ∧
      (∀ t, tget T t = stG (fun x => Nat.blt x j) 0 (LT recs) (tget s.T) t) ∧ (∀ b, hget H b = stG (fun x => Nat.blt x j) 0 (LH recs) (hget s.H) b) ∧ (∀ t, o.dst = some t → t < s.T.length) ∧ s.fr ≤ r.fr ∧ r.fr + r.r.nw ≤ s'.fr ∧ (∀ b, r.fr ≤ b → hget H b = none)) ∧
    (∀ (j j' : Nat) (r r' : Rec), recs[j]? = some r → recs[j']? = some r' → j < j' → r.fr + r.r.nw ≤ r'.fr)
  | [], i, s, s', recs, h, hf => by
    simp only [runOps, Option.some.injEq, Prod.mk.injEq] at h
    obtain ⟨rfl, rfl⟩ := h
    exact ⟨rfl, by simp, fun _ => rfl, fun _ => rfl, by simp, by simp⟩
  | o :: rest, i, s, s', recs, h, hf => by
    simp only [runOps] at h
    split at h
    · rename_i e he
      split at h
      · rename_i hd
        split at h
        · rename_i recs' s'' hr
          injection h with h; injection h with h1 h2; subst h1; subst h2
          have hu := opEff_upd he (fun b h1 _ => hf b h1)
          have hf' := fresh_happly hu hf
          obtain ⟨_, u2⟩ := updOk_spec hu
          obtain ⟨i1, i2, i3, i4, i5, i6⟩ := runOps_all hr hf'
          have shift : ∀ {X : Type} (D : Nat → Bool) (L : List (Nat → Option X)) (q : Nat) (x : Nat → X), stG D (q + 1) L x = stG (fun y => D (y + 1)) q L x := by
            intro X D L
            induction L with
            | nil => intro q x; rfl
            | cons f L ih => intro q x; simp only [stG]; rw [ih]
          have tT : ∀ t, tget (applyT s.T o.dst e.val) t = upd1 (dstF o.dst e.val) (tget s.T) t := fun t => by rw [applyT_get hd, upT_upd1]
          have tTf : tget (applyT s.T o.dst e.val) = upd1 (dstF o.dst e.val) (tget s.T) := funext tT
          have tHf : hget (happly s.H e.upd) = upd1 (look e.upd) (hget s.H) := funext (hget_happly_upd1 u2)
          have frs : s.fr + e.nw ≤ s''.fr := by
            have : ∀ {rest : List Oper} {i : Nat} {s s' : St} {recs : List Rec}, runOps P O ops rest i s = some (recs, s') → s.fr ≤ s'.fr := by
              intro rest
              induction rest with
              | nil => intro i s s' recs h; simp only [runOps, Option.some.injEq, Prod.mk.injEq] at h; rw [← h.2]; exact Nat.le_refl _
              | cons o rest ih =>
                intro i s s' recs h
                simp only [runOps] at h
                split at h
                · split at h
                  · split at h
                    · rename_i hq
                      injection h with h; injection h with h1 h2; subst h2
                      have := ih hq
                      simp at this; omega
                    · cases h
                  · cases h
                · cases h
            exact this hr
          refine ⟨by simp [i1], ?_, ?_, ?_, ?_, ?_⟩
          · intro r hr'
            rcases List.mem_cons.1 hr' with rfl | hr'
            · exact u2
            · exact i2 r hr'
          · intro t
            rw [i3]
            simp only [LT, List.map_cons, stG]
            rw [shift, tTf]
          · intro b
            rw [i4]
            simp only [LH, List.map_cons, stG]
            rw [shift, tHf]
          · intro j r hj
            cases j with
            | zero =>
              simp only [List.getElem?_cons_zero, Option.some.injEq] at hj
              subst hj
              have e2 : ∀ {X : Type} (L : List (Nat → Option X)) (i : Nat) (s : Nat → X), stG (fun x => Nat.blt x 0) i L s = s := by
                intro X L
                induction L with
                | nil => intro i s; rfl
                | cons f L ih =>
                  intro i s
                  simp only [stG]
                  have : Nat.blt i 0 = false := by cases i <;> rfl
                  rw [this]; exact ih _ _
              refine ⟨o, s.T, s.H, s.path, rfl, he, rfl, rfl, rfl, fun t => by rw [e2], fun b => by rw [e2], ?_, Nat.le_refl _, frs, hf⟩
              intro t ht
              rw [ht] at hd
              exact lenLt_spec hd
            | succ j =>
              obtain ⟨o', T, H, path, q1, q2, q3, q4, q5, q6, q7, q8, q9, q10, q11⟩ := i5 j r (by simpa using hj)
              refine ⟨o', T, H, path, by simpa using q1, by rw [show i + (j + 1) = i + 1 + j by omega]; exact q2, q3, q4, q5, ?_, ?_, ?_, ?_, q10, q11⟩
              · intro t
                rw [q6]
                simp only [LT, List.map_cons, stG]
                rw [shift, tTf]
                have : Nat.blt 0 (j + 1) = true := rfl
                rw [this]
                rfl
              · intro b
                rw [q7]
                simp only [LH, List.map_cons, stG]
                rw [shift, tHf]
                have : Nat.blt 0 (j + 1) = true := rfl
                rw [this]
                rfl
              · intro t ht
                have := q8 t ht
                rwa [applyT_length] at this
              · simp at q9; omega
          · intro j j' r r' hj hj' hlt
            cases j' with
            | zero => omega
            | succ j' =>
              cases j with
              | zero =>
                simp only [List.getElem?_cons_zero, Option.some.injEq] at hj
                subst hj
                obtain ⟨_, _, _, _, _, _, _, _, _, _, _, _, q9, _⟩ := i5 j' r' (by simpa using hj')
                exact q9
              | succ j => exact i6 j j' r r' (by simpa using hj) (by simpa using hj') (by omega)
        · cases h
      · cases h
    · cases h
end Go.Proofs.Ytoemaicabljpfaa.Ex
