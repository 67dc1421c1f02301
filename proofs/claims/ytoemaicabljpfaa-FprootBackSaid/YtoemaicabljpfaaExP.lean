/- Contracts of functions that take memory: from the keys of the proof to the caller's keys. -/
import Derived.Test.YtoemaicabljpfaaExO
namespace Go.Proofs.Ytoemaicabljpfaa.Ex

def renP (κ : Nat → Nat) : List (Nat × Nat) → List (Nat × Nat)
  | [] => []
  | (b, o) :: r => (κ b, o) :: renP κ r
def renC (κ : Nat → Nat) : Ch → Ch
  | .p b o => .p (κ b) o
  | .sl b o l c => .sl (κ b) o l c
  | .sx b l s => .sx (κ b) l s
  | .clo f caps => .clo f (renP κ caps)
  | .n k i => .n k i
  | .b x => .b x
  | .v x => .v x
  | .num k x => .num k x
  | .seq k l => .seq k l
def renL (κ : Nat → Nat) : List Ch → List Ch
  | [] => []
  | c :: r => renC κ c :: renL κ r
def renT (κ : Nat → Nat) : List (Bool × List Ch) → List (Bool × List Ch)
  | [] => []
  | (g, cs) :: r => (g, renL κ cs) :: renT κ r
def renA (κ : Nat → Nat) : AV → AV
  | .val g cs => .val g (renL κ cs)
  | .tup xs => .tup (renT κ xs)
  | .any => .any
section
variable {β β' : Env} {κ : Nat → Nat}
theorem relP_ren : ∀ {caps : List (Nat × Nat)} {l : List Value}, (∀ k ∈ caps.map (·.1), ∀ X, β k = some X → β' (κ k) = some X) → relP β caps l → relP β' (renP κ caps) l
  | [], _, _, h => h
  | (b, o) :: r, l, hk, ⟨B, n, l', h1, h2, h3⟩ => ⟨B, n, l', hk b (by simp) _ h1, relP_ren (fun k h => hk k (by simp at h ⊢; exact .inr h)) h2, h3⟩
theorem relC_ren {c : Ch} {l : List Value} (hk : ∀ k ∈ chKeys c, ∀ X, β k = some X → β' (κ k) = some X) (h : relC β c l) : relC β' (renC κ c) l := by
  cases c <;> simp only [chKeys] at hk <;> simp only [renC, relC] at h ⊢
  case n => exact h
  case b => exact h
  case v => exact h
  case p => obtain ⟨B, n, h1, h2⟩ := h; exact ⟨B, n, hk _ (by simp) _ h1, h2⟩
  case sl => obtain ⟨B, n, h1, h2⟩ := h; exact ⟨B, n, hk _ (by simp) _ h1, h2⟩
  case sx =>
    rcases h with ⟨B, n, cap, h1, h2⟩ | ⟨h1, h2⟩
    · exact .inl ⟨B, n, cap, hk _ (by simp) _ h1, h2⟩
    · exact .inr ⟨hk _ (by simp) _ h1, h2⟩
  case num => exact h
  case seq => exact h
  case clo => obtain ⟨ps, h1, h2⟩ := h; exact ⟨ps, relP_ren hk h1, h2⟩
theorem relL_ren : ∀ {cs : List Ch} {l : List Value}, (∀ k ∈ chsKeys cs, ∀ X, β k = some X → β' (κ k) = some X) → relL β cs l → relL β' (renL κ cs) l
  | [], _, _, h => h
  | c :: cs, l, hk, ⟨l1, l2, h1, h2, h3⟩ => by
    simp only [chsKeys, cat_eq, List.mem_append] at hk
    exact ⟨l1, l2, relC_ren (fun k h => hk k (.inl h)) h1, relL_ren (fun k h => hk k (.inr h)) h2, h3⟩
theorem relG_ren {g : Bool} {cs : List Ch} {u : Value} (hk : ∀ k ∈ chsKeys cs, ∀ X, β k = some X → β' (κ k) = some X) (h : relG β g cs u) : relG β' g (renL κ cs) u := by
  cases g
  · exact relL_ren hk h
  · obtain ⟨l, h1, h2⟩ := h; exact ⟨l, relL_ren hk h1, h2⟩
theorem relT_ren : ∀ {xs : List (Bool × List Ch)} {l : List Value}, (∀ k ∈ tupKeys xs, ∀ X, β k = some X → β' (κ k) = some X) → relT β xs l → relT β' (renT κ xs) l
  | [], _, _, h => h
  | (g, cs) :: xs, l, hk, ⟨u, l', h1, h2, h3⟩ => by
    simp only [tupKeys, cat_eq, List.mem_append] at hk
    exact ⟨u, l', relG_ren (fun k h => hk k (.inl h)) h1, relT_ren (fun k h => hk k (.inr h)) h2, h3⟩
theorem relA_ren {x : AV} {u : Value} (hk : ∀ k ∈ avKeys x, ∀ X, β k = some X → β' (κ k) = some X) (h : relA β x u) : relA β' (renA κ x) u := by
  cases x with
  | val g cs => exact relG_ren hk h
  | tup xs => obtain ⟨us, h1, h2⟩ := h; exact ⟨us, relT_ren hk h1, h2⟩
  | any => trivial
end

/-- The contract of a function, with the keys of its proof: below k0 those that come in. -/
def CanOk (P : Program) (f : FuncId) (args0 : List AV) (H0 : Heap) (k0 : Nat) (W : List Nat) (val : AV) (H1 : Heap) : Prop :=
  ∀ (β : Env) (us : List Value) (w : World), relAs β args0 us → Good β H0 w → (∀ b, k0 ≤ b → β b = none) → Calls P f ⟨us⟩ w (Outs β w W val H1)

def nth : List Nat → Nat → Nat
  | [], _ => 0
  | x :: _, 0 => x
  | _ :: r, n + 1 => nth r n
/-- The caller's key of a key of the proof. -/
def kap (ρ : List Nat) (k0 fr : Nat) : Nat → Nat := fun k => match Nat.blt k k0 with | true => nth ρ k | false => fr + (k - k0)
def inEnv (β : Env) (ρ : List Nat) (k0 : Nat) : Env := fun k => match Nat.blt k k0 with | true => β (nth ρ k) | false => none

def oldUpd (κ : Nat → Nat) (H1 : Heap) : List Nat → Heap
  | [] => []
  | k :: r => (κ k, (hget H1 k).map fun b => ⟨b.ty, renL κ b.cs, b.opn⟩) :: oldUpd κ H1 r
def newKeys (k0 : Nat) : Heap → List Nat
  | [] => []
  | (k, _) :: r => match Nat.blt k k0, mem k (newKeys k0 r) with
    | false, false => k :: newKeys k0 r
    | _, _ => newKeys k0 r
theorem newKeys_spec {k0 k : Nat} : ∀ {H : Heap}, k ∈ newKeys k0 H → k0 ≤ k
  | [], h => by cases h
  | (j, y) :: r, h => by
    simp only [newKeys] at h
    split at h
    · rename_i hb _
      rcases List.mem_cons.1 h with rfl | h
      · rcases Nat.lt_or_ge k k0 with hlt | hge
        · rw [nblt.2 hlt] at hb; cases hb
        · exact hge
      · exact newKeys_spec h
    · exact newKeys_spec h
def allLive (H : Heap) : List Nat → Bool
  | [] => true
  | k :: r => match hget H k with | some _ => allLive H r | none => false
theorem allLive_spec {H : Heap} : ∀ {l : List Nat}, allLive H l = true → ∀ k ∈ l, (hget H k).isSome = true
  | [], _, k, h => by cases h
  | x :: r, h, k, hk => by
    simp only [allLive] at h
    split at h
    · rename_i b hb
      rcases List.mem_cons.1 hk with rfl | hk
      · rw [hb]; rfl
      · exact allLive_spec h k hk
    · cases h
/-- Keys in a value or a block must be known: come in, or live. -/
def keysOk (k0 : Nat) (H1 : Heap) : List Nat → Bool
  | [] => true
  | k :: r => match Nat.blt k k0, hget H1 k with
    | true, _ => keysOk k0 H1 r
    | false, some _ => keysOk k0 H1 r
    | false, none => false
theorem keysOk_spec {k0 : Nat} {H1 : Heap} : ∀ {l : List Nat}, keysOk k0 H1 l = true → ∀ k ∈ l, k < k0 ∨ (hget H1 k).isSome = true
  | [], _, k, h => by cases h
  | x :: r, h, k, hk => by
    simp only [keysOk] at h
    split at h
    · rename_i hb
      rcases List.mem_cons.1 hk with rfl | hk
      · exact .inl (nblt.1 hb)
      · exact keysOk_spec h k hk
    · rename_i b hb hg
      rcases List.mem_cons.1 hk with rfl | hk
      · exact .inr (by rw [hg]; rfl)
      · exact keysOk_spec h k hk
    · cases h
def blksOk (k0 : Nat) (H1 : Heap) : List Nat → Bool
  | [] => true
  | k :: r => match hget H1 k with
    | some b => match keysOk k0 H1 (chsKeys b.cs) with | true => blksOk k0 H1 r | false => false
    | none => false
theorem blksOk_spec {k0 : Nat} {H1 : Heap} : ∀ {l : List Nat}, blksOk k0 H1 l = true → ∀ k ∈ l, ∃ b, hget H1 k = some b ∧ keysOk k0 H1 (chsKeys b.cs) = true
  | [], _, k, h => by cases h
  | x :: r, h, k, hk => by
    simp only [blksOk] at h
    split at h
    · rename_i b hb
      split at h
      · rename_i hok
        rcases List.mem_cons.1 hk with rfl | hk
        · exact ⟨b, hb, hok⟩
        · exact blksOk_spec h k hk
      · cases h
    · cases h
/-- What the caller is told: nw new keys are set apart. -/
def trR (ρ : List Nat) (k0 fr nw : Nat) (W : List Nat) (val : AV) (H1 : Heap) (conds : List (Bool × Bool)) (path : List Bool) : R :=
  ⟨renA (kap ρ k0 fr) val, oldUpd (kap ρ k0 fr) H1 (cat W (newKeys k0 H1)), nw, conds, path⟩
def canB (k0 nw : Nat) (W : List Nat) (val : AV) (H1 : Heap) : Bool :=
  allLt k0 W && (keysOk k0 H1 (avKeys val) && (blksOk k0 H1 (cat W (newKeys k0 H1)) && hLt (k0 + nw) H1))

theorem oldUpd_mem {κ : Nat → Nat} {H1 : Heap} {k : Nat} {y : Option Blk} : ∀ {l : List Nat}, (k, y) ∈ oldUpd κ H1 l → ∃ j ∈ l, k = κ j ∧ y = (hget H1 j).map fun b => ⟨b.ty, renL κ b.cs, b.opn⟩
  | [], h => by cases h
  | x :: r, h => by
    simp only [oldUpd, List.mem_cons, Prod.mk.injEq] at h
    rcases h with ⟨h1, h2⟩ | h
    · exact ⟨x, by simp, h1, h2⟩
    · obtain ⟨j, h1, h2⟩ := oldUpd_mem h
      exact ⟨j, by simp [h1], h2⟩
theorem mem_oldUpd {κ : Nat → Nat} {H1 : Heap} {j : Nat} : ∀ {l : List Nat}, j ∈ l → (κ j, (hget H1 j).map fun b => (⟨b.ty, renL κ b.cs, b.opn⟩ : Blk)) ∈ oldUpd κ H1 l
  | x :: r, h => by
    simp only [oldUpd, List.mem_cons]
    rcases List.mem_cons.1 h with rfl | h
    · exact .inl rfl
    · exact .inr (mem_oldUpd h)

theorem tr_eff {β : Env} {w w' : World} {ρ : List Nat} {k0 fr nw : Nat} {W : List Nat} {val : AV} {H H1 : Heap} {u : Value} {β1 : Env} {conds : List (Bool × Bool)} {path : List Bool} (g : Good β H w)
    (ho : Out (inEnv β ρ k0) w W val H1 u w' β1) (hb : canB k0 nw W val H1 = true) (hf : ∀ b, fr ≤ b → b < fr + nw → β b = none) (hdef : ∀ k, k < k0 → ∃ X, β (nth ρ k) = some X) : ∃ β', Eff β fr (trR ρ k0 fr nw W val H1 conds path) w u w' β' := by
  unfold canB at hb
  simp only [Bool.and_eq_true] at hb
  obtain ⟨c1, c2, c3, c4⟩ := hb
  have hW := allLt_spec c1
  have hlive : ∀ k, (hget H1 k).isSome = true → k < k0 + nw := by
    intro k hk
    obtain ⟨b, hb⟩ := Option.isSome_iff_exists.1 hk
    exact (hLt_get c4 hb).1
  -- the caller's environment behind the call
  let β' : Env := fun b => match Nat.ble fr b && Nat.blt b (fr + nw), hget H1 (k0 + (b - fr)) with
    | true, some _ => β1 (k0 + (b - fr))
    | true, none => none
    | false, _ => β b
  have out : ∀ b, ¬ (fr ≤ b ∧ b < fr + nw) → β' b = β b := by
    intro b hb
    have : (Nat.ble fr b && Nat.blt b (fr + nw)) = false := by
      cases h : Nat.ble fr b && Nat.blt b (fr + nw) with
      | false => rfl
      | true =>
        have := Bool.and_eq_true_iff.1 h
        exact absurd ⟨Nat.le_of_ble_eq_true this.1, nblt.1 this.2⟩ hb
    show (match Nat.ble fr b && Nat.blt b (fr + nw), hget H1 (k0 + (b - fr)) with | true, some _ => β1 (k0 + (b - fr)) | true, none => none | false, _ => β b) = β b
    rw [this]
  have inn : ∀ b, fr ≤ b → b < fr + nw → ∀ X, β' b = some X → (hget H1 (k0 + (b - fr))).isSome = true ∧ β1 (k0 + (b - fr)) = some X := by
    intro b h1 h2 X hX
    have : (Nat.ble fr b && Nat.blt b (fr + nw)) = true := by rw [Nat.ble_eq_true_of_le h1, nblt.2 h2]; rfl
    change (match Nat.ble fr b && Nat.blt b (fr + nw), hget H1 (k0 + (b - fr)) with | true, some _ => β1 (k0 + (b - fr)) | true, none => none | false, _ => β b) = some X at hX
    rw [this] at hX
    cases hq : hget H1 (k0 + (b - fr)) with
    | none => rw [hq] at hX; cases hX
    | some y => rw [hq] at hX; exact ⟨rfl, hX⟩
  have new1 : ∀ k, k0 ≤ k → (hget H1 k).isSome = true → ∀ X, β1 k = some X → β' (fr + (k - k0)) = some X := by
    intro k hk hl X hX
    have h2 := hlive k hl
    have e : k0 + (fr + (k - k0) - fr) = k := by omega
    have : (Nat.ble fr (fr + (k - k0)) && Nat.blt (fr + (k - k0)) (fr + nw)) = true := by rw [Nat.ble_eq_true_of_le (by omega), nblt.2 (by omega)]; rfl
    show (match Nat.ble fr (fr + (k - k0)) && Nat.blt (fr + (k - k0)) (fr + nw), hget H1 (k0 + (fr + (k - k0) - fr)) with | true, some _ => β1 (k0 + (fr + (k - k0) - fr)) | true, none => none | false, _ => β (fr + (k - k0))) = some X
    rw [this, e]
    obtain ⟨y, hy⟩ := Option.isSome_iff_exists.1 hl
    rw [hy]; exact hX
  have ext0 : Env.le β β' := by
    intro b X hb
    rw [out b (fun h => by rw [hf b h.1 h.2] at hb; cases hb)]
    exact hb
  have inE : ∀ k, k < k0 → inEnv β ρ k0 k = β (nth ρ k) := fun k hk => by simp [inEnv, nblt.2 hk]
  -- keys that came in mean what they meant
  have oldk : ∀ k, k < k0 → ∀ X, β1 k = some X → β (nth ρ k) = some X := by
    intro k hk X hX
    obtain ⟨Y, hq⟩ := hdef k hk
    have := ho.ext k Y (by rw [inE k hk]; exact hq)
    rw [this] at hX; injection hX with hX; subst hX
    exact hq
  have kapk : ∀ k, (k < k0 ∨ (hget H1 k).isSome = true) → ∀ X, β1 k = some X → β' (kap ρ k0 fr k) = some X := by
    intro k hk X hX
    unfold kap
    rcases Nat.lt_or_ge k k0 with hlt | hge
    · rw [nblt.2 hlt]; exact ext0 _ _ (oldk k hlt X hX)
    · have : Nat.blt k k0 = false := by cases h : Nat.blt k k0 with | false => rfl | true => have := nblt.1 h; omega
      rw [this]
      rcases hk with hk | hk
      · omega
      · exact new1 k hge hk X hX
  refine ⟨β', ext0, ?_, ?_, ?_, ?_, ?_, ?_, ho.size, ho.os, ho.tape, ho.output⟩
  · intro b X hX
    by_cases hr : fr ≤ b ∧ b < fr + nw
    · obtain ⟨hl, h1⟩ := inn b hr.1 hr.2 X hX
      refine .inr ⟨hr.1, hr.2, fun B n e => ?_⟩
      subst e
      rcases ho.new _ _ h1 with h | h
      · have : Nat.blt (k0 + (b - fr)) k0 = false := by cases h : Nat.blt (k0 + (b - fr)) k0 with | false => rfl | true => have := nblt.1 h; omega
        simp [inEnv, this] at h
      · rcases h B n rfl with h | ⟨k, m', hk, hk2⟩
        · exact .inl h
        · have hk0 := hW k hk
          obtain ⟨bb, hbb, _⟩ := blksOk_spec c3 k (by rw [cat_eq, List.mem_append]; exact .inl hk)
          have := ho.good.inj _ _ _ _ _ (by rw [hbb]; rfl) hl (ho.ext k _ hk2) h1
          omega
    · rw [out b hr] at hX; exact .inl hX
  · intro b B n hX
    by_cases hr : fr ≤ b ∧ b < fr + nw
    · exact ho.good.lt _ _ _ (inn b hr.1 hr.2 _ hX).2
    · rw [out b hr] at hX
      exact Nat.lt_of_lt_of_le (g.lt _ _ _ hX) ho.size
  · intro b b' B n n' h1 h2 h3 h4 h5 h6
    obtain ⟨l1, q1⟩ := inn b h1 h3 _ h5
    obtain ⟨l2, q2⟩ := inn b' h2 h4 _ h6
    have := ho.good.inj _ _ _ _ _ l1 l2 q1 q2
    omega
  · exact relA_ren (fun k hk X hX => kapk k (keysOk_spec c2 k hk) X hX) ho.val
  · intro k y hk
    obtain ⟨j, hj, e1, e2⟩ := oldUpd_mem hk
    obtain ⟨bb, hbb, hok⟩ := blksOk_spec c3 j hj
    rw [hbb] at e2
    simp only [Option.map_some, Option.some.injEq] at e2
    subst e1; subst e2
    have hkj : j < k0 ∨ (hget H1 j).isSome = true := .inr (by rw [hbb]; rfl)
    rcases ho.good.heap j bb hbb with ⟨B, n, l, t, q1, q2, q3⟩ | ⟨q1, q2, q3⟩
    · exact .inl ⟨B, n, l, t, kapk j hkj _ q1, relL_ren (fun k hk X hX => kapk k (keysOk_spec hok k hk) X hX) q2, q3⟩
    · exact .inr ⟨kapk j hkj _ q1, q2, relL_ren (fun k hk X hX => kapk k (keysOk_spec hok k hk) X hX) q3⟩
  · intro B hB hno
    refine ho.frame B hB fun k m hk hk2 => ?_
    have hk0 := hW k hk
    rw [inE k hk0] at hk2
    have hmem := mem_oldUpd (κ := kap ρ k0 fr) (H1 := H1) (j := k) (l := cat W (newKeys k0 H1)) (by rw [cat_eq, List.mem_append]; exact .inl hk)
    have e : kap ρ k0 fr k = nth ρ k := by simp [kap, nblt.2 hk0]
    rw [e] at hmem
    exact hno _ _ m hmem hk2

section
variable {P : Program} {O : Orc} {f : FuncId} {fn : Func}
/-- A contract on offer, out of contracts with the keys of their proofs. -/
theorem can_spec (hfn : P.funcs[f]? = some fn) (hbd : fn.body.isSome = true) (hname : (fn.name == "runtime.NumGoroutine") = false) {s : ASpec}
    (h : ∀ args H fr path r, s args H fr path = some r → ∃ (ρ : List Nat) (args0 : List AV) (H0 : Heap) (k0 nw : Nat) (W : List Nat) (val : AV) (H1 : Heap) (conds : List (Bool × Bool)) (path' : List Bool),
      r = trR ρ k0 fr nw W val H1 conds path' ∧ (∀ β us w, relAs β args us → Good β H w → okConds conds → CanOk P f args0 H0 k0 W val H1 ∧ canB k0 nw W val H1 = true ∧ relAs (inEnv β ρ k0) args0 us ∧ Good (inEnv β ρ k0) H0 w ∧ (∀ k, k < k0 → ∃ X, β (nth ρ k) = some X))) : SpecOk P f s := by
  intro args H fr path r β us w hs hc ha hg hf
  obtain ⟨ρ, args0, H0, k0, nw, W, val, H1, conds, path', rfl, hh⟩ := h args H fr path r hs
  obtain ⟨hcan, hb, ha0, hg0, hdef⟩ := hh β us w ha hg hc
  refine callX_of_calls hfn hbd hname (Calls.mono (hcan (inEnv β ρ k0) us w ha0 hg0 fun b hb => ?_) ?_)
  · have : Nat.blt b k0 = false := by cases h : Nat.blt b k0 with | false => rfl | true => have := nblt.1 h; omega
    simp [inEnv, this]
  · rintro e w' ⟨u, β1, rfl, ho⟩
    obtain ⟨β', he⟩ := tr_eff (conds := conds) (path := path') hg ho hb hf hdef
    exact ⟨u, β', rfl, he⟩

def segOut (P : Program) (O : Orc) (fn : Func) (fuel k0 : Nat) (ks : List Nat) (x : ASt) : Option (List (Bool × Bool) × List Nat × AV × Heap) :=
  match aRun P O none fuel x with
  | some (g, y) => match aFin P fn y with
    | some v => some (g.conds, oldKeys k0 g.keys, v, restrict y.s.H ks)
    | none => none
  | none => none
theorem out_safe {β0 : Env} {w0 : World} {n : Nat} {W : List Nat} (hO : OrcOk P O) (hm : P.follows .mixedOrders = true) (hfn : P.funcs[f]? = some fn) {fuel k0 : Nat} {ks ks' : List Nat} {x : ASt} {conds : List (Bool × Bool)} {v : AV} {H1 : Heap}
    (h : segOut P O fn fuel k0 ks x = some (conds, ks', v, H1)) (hc : okConds conds) (hwf : wfSt n x.s) (h0 : ∀ b, k0 ≤ b → β0 b = none) (hks : ∀ k ∈ ks', k ∈ W) : ASafe P f β0 w0 (Outs β0 w0 W v H1) n W x := by
  unfold segOut at h
  split at h
  case h_2 => cases h
  rename_i g y hrun
  split at h
  case h_2 => cases h
  rename_i v' hv
  injection h with h; injection h with h1 h; injection h with h2 h; injection h with h3 h4
  subst h1; subst h3; subst h4
  refine seg_safe (W := W) hO hm (fuel := fuel) (k0 := k0) (fg := none) (stop := none) (ks := ks') (y := y) (by unfold aSeg; rw [hrun]; simp only; rw [h2]) hc hwf h0 hks fun _ => ?_
  refine fin_safe hfn hv ?_
  rintro e w ⟨u, β, q0, q1⟩
  exact ⟨u, β, q0, { q1 with good := q1.good.restrict ks }⟩
theorem can_entry (hfn : P.funcs[f]? = some fn) (hb : fn.body.isSome = true) {args0 : List AV} {H0 : Heap} {k0 : Nat} {path : List Bool} {W : List Nat} {v : AV} {H1 : Heap} (hlen : Nat.ble (alen args0) fn.ntmps = true)
    (h : ∀ β0 w0, (∀ b, k0 ≤ b → β0 b = none) → ASafe P f β0 w0 (Outs β0 w0 W v H1) fn.ntmps W (entry fn args0 H0 k0 path)) : CanOk P f args0 H0 k0 W v H1 :=
  fun β us w ha hg hf => calls_of_entry hfn hb hlen (ASafe.old (k0 := k0) hf (fun _ h => by cases h) (h β w hf)) ha hg hf
end
end Go.Proofs.Ytoemaicabljpfaa.Ex
