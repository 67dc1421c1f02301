/- The executor's regions: their operations in the text's order, and in any order that the edges allow. -/
import Derived.Test.YtoemaicabljpfaaExI
namespace Go.Proofs.Ytoemaicabljpfaa.Ex

def tget : List AV → Nat → AV
  | [], _ => .any
  | x :: _, 0 => x
  | _ :: r, n + 1 => tget r n
def tset : List AV → Nat → AV → List AV
  | [], _, _ => []
  | _ :: r, 0, v => v :: r
  | x :: r, n + 1, v => x :: tset r n v
def mem (k : Nat) : List Nat → Bool
  | [] => false
  | x :: r => match Nat.beq x k with | true => true | false => mem k r
theorem mem_iff {k : Nat} : ∀ {l : List Nat}, mem k l = true ↔ k ∈ l
  | [] => by simp [mem]
  | x :: r => by
    simp only [mem]
    split
    · rename_i h; simp [nbeq.1 h]
    · rename_i h
      have := nbeq_false h
      rw [mem_iff (l := r)]
      simp [Ne.symm this]
def cat : List Nat → List Nat → List Nat
  | [], l => l
  | x :: r, l => x :: cat r l
theorem cat_eq : ∀ (a b : List Nat), cat a b = a ++ b
  | [], _ => rfl
  | x :: r, b => by simp [cat, cat_eq r b]

def chKeys : Ch → List Nat
  | .p b _ => [b]
  | .sl b _ _ _ => [b]
  | .sx b _ _ => [b]
  | .clo _ caps => caps.map (·.1)
  | _ => []
def chsKeys : List Ch → List Nat
  | [] => []
  | c :: r => cat (chKeys c) (chsKeys r)
def tupKeys : List (Bool × List Ch) → List Nat
  | [] => []
  | (_, cs) :: r => cat (chsKeys cs) (tupKeys r)
def avKeys : AV → List Nat
  | .val _ cs => chsKeys cs
  | .tup xs => tupKeys xs
  | .any => []
def tKeys (τ : Nat → AV) : List Nat → List Nat
  | [] => []
  | t :: r => cat (avKeys (τ t)) (tKeys τ r)
def hKeys (H : Heap) : List Nat → List Nat
  | [] => []
  | k :: r => match hget H k with
    | some blk => cat (chsKeys blk.cs) (hKeys H r)
    | none => hKeys H r
def isCall : Op → Bool
  | .call _ => true
  | _ => false
def foot (o : Oper) (τ : Nat → AV) (ts : List Nat) (H : Heap) : List Nat :=
  match isCall o.op with
  | false => tKeys τ ts
  | true => cat (tKeys τ ts) (cat (hKeys H (tKeys τ ts)) (hKeys H (hKeys H (tKeys τ ts))))
def restrict (H : Heap) : List Nat → Heap
  | [] => []
  | k :: r => match hget H k with
    | some blk => (k, some blk) :: restrict H r
    | none => restrict H r
def restrT (τ : Nat → AV) (ts : List Nat) : Nat → AV := fun t => match mem t ts with | true => τ t | false => .any

theorem restrict_get {H : Heap} {b : Nat} {blk : Blk} : ∀ {ks : List Nat}, hget (restrict H ks) b = some blk → hget H b = some blk
  | [], h => by simp [restrict, hget] at h
  | k :: r, h => by
    simp only [restrict] at h
    split at h
    · rename_i blk' hk
      simp only [hget] at h
      split at h
      · rename_i e; rw [← nbeq.1 e, hk]; exact h
      · exact restrict_get h
    · exact restrict_get h
theorem restrict_congr {H H' : Heap} : ∀ {ks : List Nat}, (∀ k ∈ ks, hget H k = hget H' k) → restrict H ks = restrict H' ks
  | [], _ => rfl
  | k :: r, h => by
    simp only [restrict, h k (by simp)]
    rw [restrict_congr (fun x hx => h x (by simp [hx]))]
theorem hKeys_congr {H H' : Heap} : ∀ {ks : List Nat}, (∀ k ∈ ks, hget H k = hget H' k) → hKeys H ks = hKeys H' ks
  | [], _ => rfl
  | k :: r, h => by
    simp only [hKeys, h k (by simp)]
    rw [hKeys_congr (fun x hx => h x (by simp [hx]))]
theorem foot_congr {o : Oper} {τ : Nat → AV} {ts : List Nat} {H H' : Heap} (h : ∀ k ∈ foot o τ ts H, hget H k = hget H' k) : foot o τ ts H = foot o τ ts H' := by
  unfold foot at h ⊢
  split
  · rfl
  · rename_i hc
    simp only [hc, cat_eq, List.mem_append] at h
    have h1 := hKeys_congr (H := H) (H' := H') (ks := tKeys τ ts) (fun k hk => h k (.inl hk))
    have h2 := hKeys_congr (H := H) (H' := H') (ks := hKeys H (tKeys τ ts)) (fun k hk => h k (.inr (.inl hk)))
    rw [h2, ← h1]
theorem restrT_congr {τ τ' : Nat → AV} {ts : List Nat} (h : ∀ t ∈ ts, τ t = τ' t) : restrT τ ts = restrT τ' ts := by
  funext t
  unfold restrT
  split
  · rename_i hm; exact h t (mem_iff.1 hm)
  · rfl
theorem restrT_rel {β : Env} {τ : Nat → AV} {ts : List Nat} {a : Act} (h : ∀ t, relA β (τ t) (a.tmps.getD t undef)) : ∀ t, relA β (restrT τ ts t) (a.tmps.getD t undef) := by
  intro t
  unfold restrT
  split
  · exact h t
  · trivial
theorem Good.restrict {β : Env} {H : Heap} {w : World} (g : Good β H w) (ks : List Nat) : Good β (restrict H ks) w where
  heap := fun b blk h => g.heap b blk (restrict_get h)
  inj := fun b b' B n n' h h' => g.inj b b' B n n' (by
    obtain ⟨x, hx⟩ := Option.isSome_iff_exists.1 h
    rw [restrict_get hx]; rfl) (by
    obtain ⟨x, hx⟩ := Option.isSome_iff_exists.1 h'
    rw [restrict_get hx]; rfl)
  lt := g.lt

/- guards -/
def wantA (ops : Array Oper) (o : Oper) (τ : Nat → AV) : Option Bool :=
  match o.guard with
  | none => some true
  | some (j, want) => match ops[j]? with
    | some oj => match oj.dst with
      | some t => match τ t with
        | .val false [.b x] => some (match x, want with | true, true => true | false, false => true | _, _ => false)
        | .tup [] => some false
        | _ => none
      | none => none
    | none => none
def guardT (ops : Array Oper) (o : Oper) : List Nat :=
  match o.guard with
  | none => []
  | some (j, _) => match ops[j]? with
    | some oj => match oj.dst with
      | some t => [t]
      | none => []
    | none => []
theorem wantA_spec {β : Env} {ops : Array Oper} {o : Oper} {τ : Nat → AV} {a : Act} {z : Bool} (ht : ∀ t, relA β (τ t) (a.tmps.getD t undef)) (h : wantA ops o τ = some z) :
    Region.wanted o (yielded ops a.tmps) = z := by
  unfold wantA at h
  unfold Region.wanted
  split at h
  · rename_i hg; injection h with h; subst h; simp [hg]
  · rename_i j want hg
    simp only [hg]
    split at h
    · rename_i oj hj
      split at h
      · rename_i t hd
        have hr := ht t
        split at h
        · rename_i x hτ
          injection h with h
          rw [hτ] at hr
          have hv := rel_one hr
          simp only [relC, List.cons.injEq, and_true] at hv
          have hsome : a.tmps[t]? = some (.bool x) := by
            rw [Array.getD_eq_getD_getElem?] at hv
            cases hq : a.tmps[t]? with
            | none => rw [hq] at hv; simp [undef] at hv
            | some q => rw [hq] at hv; simpa using hv
          simp only [yielded, hj, Option.bind_some, hd, hsome]
          rw [← h]
          cases x <;> cases want <;> rfl
        · rename_i hτ
          injection h with h
          rw [hτ] at hr
          obtain ⟨us, h1, h2⟩ := hr
          simp only [relT] at h1
          subst h1
          have : ∀ b, a.tmps[t]? ≠ some (.bool b) := by
            intro b hb
            rw [Array.getD_eq_getD_getElem?, hb] at h2
            simp at h2
          have hy : yielded ops a.tmps j = none := by
            unfold yielded
            rw [hj, Option.bind_some, hd, Option.bind_some]
            cases hq : a.tmps[t]? with
            | none => rfl
            | some q => cases q <;> first | rfl | exact absurd hq (this _)
          rw [hy, ← h]
          rfl
        · cases h
      · cases h
    · cases h

/- what an operation may turn -/
def keyIn (k : Nat) : Heap → Bool
  | [] => false
  | (j, _) :: r => match Nat.beq j k with | true => true | false => keyIn k r
theorem keyIn_iff {k : Nat} : ∀ {u : Heap}, keyIn k u = true ↔ ∃ y, (k, y) ∈ u
  | [] => by simp [keyIn]
  | (j, y) :: r => by
    simp only [keyIn]
    split
    · rename_i h; have := nbeq.1 h; subst this; exact ⟨fun _ => ⟨y, by simp⟩, fun _ => rfl⟩
    · rename_i h
      have := nbeq_false h
      rw [keyIn_iff (u := r)]
      constructor
      · rintro ⟨z, hz⟩; exact ⟨z, by simp [hz]⟩
      · rintro ⟨z, hz⟩
        simp only [List.mem_cons, Prod.mk.injEq] at hz
        rcases hz with ⟨e, _⟩ | hz
        · exact absurd e.symm this
        · exact ⟨z, hz⟩
def updOk (H : Heap) (fr nw : Nat) : Heap → Bool
  | [] => true
  | (k, y) :: r => match keyIn k r with
    | true => false
    | false => match hget H k, y with
      | some _, _ => updOk H fr nw r
      | none, some _ => match Nat.ble fr k && Nat.blt k (fr + nw) with
        | true => updOk H fr nw r
        | false => false
      | none, none => false
theorem updOk_spec {H : Heap} {fr nw : Nat} : ∀ {u : Heap}, updOk H fr nw u = true →
    (∀ k y, (k, y) ∈ u → (hget H k).isSome = true ∨ (fr ≤ k ∧ k < fr + nw ∧ y ≠ none)) ∧ (∀ k y y', (k, y) ∈ u → (k, y') ∈ u → y = y')
  | [], _ => ⟨by simp, by simp⟩
  | (k, y) :: r, h => by
    simp only [updOk] at h
    split at h
    · cases h
    · rename_i hk
      have hk' : ∀ z, (k, z) ∉ r := fun z hz => by
        rw [keyIn_iff.2 ⟨z, hz⟩] at hk; cases hk
      have fin : updOk H fr nw r = true → ((hget H k).isSome = true ∨ (fr ≤ k ∧ k < fr + nw ∧ y ≠ none)) →
          (∀ k' y', (k', y') ∈ (k, y) :: r → (hget H k').isSome = true ∨ (fr ≤ k' ∧ k' < fr + nw ∧ y' ≠ none)) ∧ (∀ k' y1 y2, (k', y1) ∈ (k, y) :: r → (k', y2) ∈ (k, y) :: r → y1 = y2) := by
        intro hr hh
        obtain ⟨i1, i2⟩ := updOk_spec hr
        refine ⟨fun k' y' hm => ?_, fun k' y1 y2 h1 h2 => ?_⟩
        · simp only [List.mem_cons, Prod.mk.injEq] at hm
          rcases hm with ⟨rfl, rfl⟩ | hm
          · exact hh
          · exact i1 _ _ hm
        · simp only [List.mem_cons, Prod.mk.injEq] at h1 h2
          rcases h1 with ⟨rfl, rfl⟩ | h1
          · rcases h2 with ⟨_, rfl⟩ | h2
            · rfl
            · exact absurd h2 (hk' _)
          · rcases h2 with ⟨rfl, rfl⟩ | h2
            · exact absurd h1 (hk' _)
            · exact i2 _ _ _ h1 h2
      split at h
      · rename_i hg; exact fin h (.inl (by rw [hg]; rfl))
      · rename_i z hg hb
        split at h
        · rename_i hb
          have hb' := Bool.and_eq_true_iff.1 hb
          refine fin h (.inr ⟨Nat.le_of_ble_eq_true hb'.1, ?_, by simp⟩)
          have := hb'.2
          unfold Nat.blt at this
          exact Nat.le_of_ble_eq_true this
        · cases h
      · cases h

theorem hget_happly {b : Nat} : ∀ {u H : Heap}, (∀ k y y', (k, y) ∈ u → (k, y') ∈ u → y = y') → (∀ y, (b, y) ∈ u → hget (happly H u) b = y) ∧ ((∀ y, (b, y) ∉ u) → hget (happly H u) b = hget H b)
  | [], H, _ => ⟨by simp, fun _ => rfl⟩
  | (k, y) :: r, H, hu => by
    have hu' : ∀ k y y', (k, y) ∈ r → (k, y') ∈ r → y = y' := fun k y y' h h' => hu k y y' (by simp [h]) (by simp [h'])
    simp only [happly]
    obtain ⟨i1, i2⟩ := hget_happly (b := b) (u := r) (H := hput H k y) hu'
    constructor
    · intro z hz
      by_cases hr : ∃ z', (b, z') ∈ r
      · obtain ⟨z', hz'⟩ := hr
        rw [i1 z' hz']
        exact hu b _ _ (by simp [hz']) hz
      · rw [i2 (fun z' hz' => hr ⟨z', hz'⟩)]
        simp only [List.mem_cons, Prod.mk.injEq] at hz
        rcases hz with ⟨rfl, rfl⟩ | hz
        · exact hget_hput_same _ _ _
        · exact absurd ⟨z, hz⟩ hr
    · intro hno
      rw [i2 (fun z hz => hno z (by simp [hz]))]
      exact hget_hput_other _ _ _ _ (fun e => hno y (by simp [e]))

theorem Good.step {β β' : Env} {H : Heap} {fr : Nat} {r : R} {w w' : World} {u : Value} (g : Good β H w) (he : Eff β fr r w u w' β') (hu : updOk H fr r.nw r.upd = true) (hf : ∀ b, fr ≤ b → b < fr + r.nw → β b = none) :
    Good β' (happly H r.upd) w' := by
  obtain ⟨u1, u2⟩ := updOk_spec hu
  have old : ∀ b B n, β b = some (.at_ B n) → (hget (happly H r.upd) b).isSome = true → (hget H b).isSome = true := by
    intro b B n hb hs
    by_cases hk : ∃ y, (b, y) ∈ r.upd
    · obtain ⟨y, hy⟩ := hk
      rcases u1 _ _ hy with h | ⟨h1, h2, _⟩
      · exact h
      · rw [hf b h1 h2] at hb; cases hb
    · rw [(hget_happly u2).2 (fun y hy => hk ⟨y, hy⟩)] at hs; exact hs
  have clash : ∀ b b' B n n', (hget (happly H r.upd) b).isSome = true → β b = some (.at_ B n) → (∀ B' m, some (Loc.at_ B n') = some (Loc.at_ B' m) → w.heap.size ≤ B' ∨ ∃ k m', (k, none) ∈ r.upd ∧ β k = some (.at_ B' m')) → b = b' := by
    intro b b' B n n' hs hb hnew
    rcases hnew B n' rfl with h | ⟨k, m', hk, hk2⟩
    · have := g.lt _ _ _ hb; omega
    · have hbl := old b B n hb hs
      have hkl : (hget H k).isSome = true := by
        rcases u1 _ _ hk with h | ⟨_, _, h⟩
        · exact h
        · exact absurd rfl h
      have e := g.inj _ _ _ _ _ hbl hkl hb hk2
      subst e
      rw [(hget_happly u2).1 none hk] at hs
      cases hs
  refine ⟨?_, ?_, he.lt⟩
  · intro b blk hb
    by_cases hk : ∃ y, (b, y) ∈ r.upd
    · obtain ⟨y, hy⟩ := hk
      rw [(hget_happly u2).1 y hy] at hb
      subst hb
      exact he.upd _ _ hy
    · rw [(hget_happly u2).2 (fun y hy => hk ⟨y, hy⟩)] at hb
      have hrel := g.heap _ _ hb
      refine relB_mono he.ext ?_
      rcases hrel with ⟨B, n, l, t, e1, e2, e3, e4⟩ | h
      · refine .inl ⟨B, n, l, t, e1, e2, ?_, e4⟩
        rw [he.frame B (g.lt _ _ _ e1) ?_]
        · exact e3
        · intro k y m hky hkm
          rcases u1 _ _ hky with h | ⟨h1, h2, _⟩
          · have e := g.inj _ _ _ _ _ h (by rw [hb]; rfl) hkm e1
            subst e
            exact hk ⟨y, hky⟩
          · rw [hf k h1 h2] at hkm; cases hkm
      · exact .inr h
  · intro b b' B n n' hs hs' hb hb'
    rcases he.new _ _ hb with h | ⟨h1, h2, h3⟩
    · rcases he.new _ _ hb' with h' | ⟨h1', h2', h3'⟩
      · exact g.inj _ _ _ _ _ (old _ _ _ h hs) (old _ _ _ h' hs') h h'
      · exact clash b b' B n n' hs h (fun B' m e => h3' B' m (by injection e))
    · rcases he.new _ _ hb' with h' | ⟨h1', h2', h3'⟩
      · exact (clash b' b B n' n hs' h' (fun B' m e => h3 B' m (by injection e))).symm
      · exact he.inj _ _ _ _ _ h1 h1' h2 h2' hb hb'

/- a truth value that others hang on is decided at once -/
def usedB (i : Nat) : List Oper → Bool
  | [] => false
  | o :: r => match o.guard with
    | some (j, _) => match Nat.beq j i with | true => true | false => usedB i r
    | none => usedB i r
def resolveR (used : Bool) (r : R) : Option R :=
  match used, r.val with
  | true, .val false [.v (.bool x)] => match r.path with
    | d :: rest => some ⟨.val false [.b d], r.upd, r.nw, (x, d) :: r.conds, rest⟩
    | [] => none
  | _, _ => some r
theorem resolveR_ok {used : Bool} {r r' : R} (h : resolveR used r = some r') (hc : okConds r'.conds) : okConds r.conds ∧ r'.upd = r.upd ∧ r'.nw = r.nw ∧
    (∀ {β : Env} {fr : Nat} {w : World} {u : Value} {w' : World} {β' : Env}, Eff β fr r w u w' β' → Eff β fr r' w u w' β') := by
  unfold resolveR at h
  split at h
  · rename_i x hv
    split at h
    · rename_i d rest hp
      injection h with h; subst h
      obtain ⟨h1, h2⟩ := hc
      subst h1
      refine ⟨h2, rfl, rfl, fun he => ⟨he.ext, he.new, he.lt, he.inj, ?_, he.upd, he.frame, he.size, he.os, he.tape, he.output⟩⟩
      have := he.val
      rw [hv] at this
      have := (rel_one this).1
      injection this with this _; subst this
      exact rel_one' rfl
    · cases h
  · injection h with h; subst h
    exact ⟨hc, rfl, rfl, id⟩

def opTs : List Operand → List Nat
  | [] => []
  | .tmp t :: r => t :: opTs r
  | _ :: r => opTs r
def tsOf (ops : Array Oper) (o : Oper) : List Nat := cat (guardT ops o) (opTs o.op.operands.toList)

def opEff (P : Program) (O : Orc) (ops : Array Oper) (i : Nat) (o : Oper) (ts : List Nat) (τ : Nat → AV) (H : Heap) (fr : Nat) (path : List Bool) : Option R :=
  match wantA ops o (restrT τ ts) with
  | some false => some ⟨.tup [], [], 0, [], path⟩
  | some true => match aop P O o (restrT τ ts) (restrict H (foot o (restrT τ ts) ts H)) fr path with
    | some r => match updOk (restrict H (foot o (restrT τ ts) ts H)) fr r.nw r.upd with
      | true => resolveR (usedB i ops.toList) r
      | false => none
    | none => none
  | none => none

theorem opEff_congr {P : Program} {O : Orc} {ops : Array Oper} {i : Nat} {o : Oper} {ts : List Nat} {τ τ' : Nat → AV} {H H' : Heap} {fr : Nat} {path : List Bool}
    (h1 : ∀ t ∈ ts, τ t = τ' t) (h2 : ∀ k ∈ foot o (restrT τ ts) ts H, hget H k = hget H' k) : opEff P O ops i o ts τ H fr path = opEff P O ops i o ts τ' H' fr path := by
  unfold opEff
  rw [← restrT_congr h1, ← foot_congr h2, ← restrict_congr h2]

theorem updOk_restrict {H : Heap} {ks : List Nat} {fr nw : Nat} : ∀ {u : Heap}, updOk (restrict H ks) fr nw u = true → (∀ k, fr ≤ k → k < fr + nw → hget H k = none) → updOk H fr nw u = true
  | [], _, _ => rfl
  | (k, y) :: r, h, hn => by
    simp only [updOk] at h ⊢
    split at h
    · cases h
    · split at h
      · rename_i b hg
        rw [restrict_get hg]
        exact updOk_restrict h hn
      · rename_i z hg
        split at h
        · rename_i hb
          have hb' := Bool.and_eq_true_iff.1 hb
          have h2 : k < fr + nw := by
            have := hb'.2
            unfold Nat.blt at this
            exact Nat.le_of_ble_eq_true this
          rw [hn k (Nat.le_of_ble_eq_true hb'.1) h2]
          exact updOk_restrict h hn
        · cases h
      · cases h

theorem opEff_wp {P : Program} {O : Orc} (hO : OrcOk P O) {ops : Array Oper} {i : Nat} {o : Oper} {ts : List Nat} {τ : Nat → AV} {H : Heap} {fr : Nat} {path : List Bool} {r : R} {β : Env} {a : Act} {w : World}
    (ht : ∀ t, relA β (τ t) (a.tmps.getD t undef)) (g : Good β H w) (h : opEff P O ops i o ts τ H fr path = some r) (hc : okConds r.conds) (hf : ∀ b, fr ≤ b → b < fr + r.nw → β b = none)
    (hfH : ∀ b, fr ≤ b → b < fr + r.nw → hget H b = none) {K : Act → World → Prop} {Q : Exit → Act → World → Prop} (ho : ops[i]? = some o)
    (hn : ∀ u w' β', Eff β fr r w u w' β' → Good β' (happly H r.upd) w' → K (a.put o.dst u) w') : wpOp P ops Q i K a w := by
  have ht' := restrT_rel (ts := ts) ht
  unfold opEff at h
  unfold wpOp
  simp only [ho]
  split at h
  · rename_i hw
    injection h with h; subst h
    rw [wantA_spec ht' hw]
    have he : Eff β fr ⟨.tup [], [], 0, [], path⟩ w undef w β := Eff.pure_ g ⟨[], rfl, rfl⟩
    exact hn _ _ _ he (by simpa [happly] using g)
  · rename_i hw
    rw [wantA_spec ht' hw]
    split at h
    · rename_i r0 ha
      split at h
      · rename_i hu
        obtain ⟨c1, c2, c3, c4⟩ := resolveR_ok h hc
        have hf0 : ∀ b, fr ≤ b → b < fr + r0.nw → β b = none := by rw [← c3]; exact hf
        have hfH0 : ∀ b, fr ≤ b → b < fr + r0.nw → hget H b = none := by rw [← c3]; exact hfH
        refine .inl (aop_wp hO ht' (g.restrict _) ha c1 hf0 fun u w' β' he => ?_)
        have hu' := updOk_restrict hu hfH0
        exact hn _ _ _ (c4 he) (g.step (c4 he) (by rw [c2, c3]; exact hu') hf)
      · cases h
    · cases h
  · cases h
end Go.Proofs.Ytoemaicabljpfaa.Ex
