/- The executor's values: cells, packs of cells, how they stand for the model's values, and how lists of them are cut. -/
import Derived.Calls
import Derived.Orders
import Derived.Laws.CopyRow
import Derived.Laws.Entries
import Derived.Laws.StructEq
import Derived.Laws.Externs
import Derived.Laws.BitsLemmas
import Derived.Laws.Bits64
import Derived.ChangeKeysEq
import Derived.KernelRfl
namespace Go.Proofs.Ytoemaicabljpfaa.Ex

inductive Ch where
  | n (k : IntKind) (i : Int)
  | b (x : Bool)
  | v (x : Value)
  | p (bk off : Nat)
  | sl (bk off len cap : Nat)
  | sx (bk len sz : Nat)
  | num (k x : Nat)
  | seq (kd : IntKind) (l : List Int)
  | clo (f : FuncId) (caps : List (Nat × Nat))

inductive AV where
  | val (g : Bool) (cs : List Ch)
  | tup (xs : List (Bool × List Ch))
  | any

structure Blk where
  ty : TypeId
  cs : List Ch
  opn : Bool := false

inductive Loc where
  | at_ (B n : Nat)
  | nil

abbrev Heap := List (Nat × Option Blk)
abbrev Env := Nat → Option Loc

def has (k : IntKind) (n : Int) : Prop := k.min ≤ n ∧ n ≤ k.max
instance (k : IntKind) (n : Int) : Decidable (has k n) := by unfold has; infer_instance

def wordN (x i : Nat) : Int := ((x / 2 ^ (64 * i) % 2 ^ 64 : Nat) : Int)
def words (k x : Nat) : List Value := (List.range k).map fun i => .int .u64 (wordN x i)
def wordsCh (k x : Nat) : List Ch := (List.range k).map fun i => .v (.int .u64 (wordN x i))

def okV (x : Value) : Prop := x.oneCell' = true ∧ (match x with | .int k i => has k i | _ => True)

def relP (β : Env) : List (Nat × Nat) → List Value → Prop
  | [], l => l = []
  | (bk, off) :: r, l => ∃ B n l', β bk = some (.at_ B n) ∧ relP β r l' ∧ l = .pointer (some ⟨B, off, none⟩) :: l'

def relC (β : Env) : Ch → List Value → Prop
  | .n k i, l => l = [.int k i] ∧ has k i
  | .b x, l => l = [.bool x]
  | .v x, l => l = [x] ∧ okV x
  | .p bk off, l => ∃ B n, β bk = some (.at_ B n) ∧ l = [.pointer (some ⟨B, off, none⟩)]
  | .sl bk off len cap, l => ∃ B n, β bk = some (.at_ B n) ∧ l = [.slice (some ⟨B, off, none⟩) len cap]
  | .sx bk len sz, l => (∃ B n cap, β bk = some (.at_ B n) ∧ l = [.slice (some ⟨B, 0, none⟩) len cap] ∧ len ≤ cap ∧ cap * sz ≤ n) ∨ (β bk = some .nil ∧ len = 0 ∧ l = [.slice none 0 0])
  | .num k x, l => x < 2 ^ (64 * k) ∧ l = words k x
  | .seq kd xs, l => l = xs.map (.int kd) ∧ ∀ x ∈ xs, has kd x
  | .clo f caps, l => ∃ ps, relP β caps ps ∧ l = [.func (.func f) #[] ⟨ps⟩]

def relL (β : Env) : List Ch → List Value → Prop
  | [], l => l = []
  | c :: cs, l => ∃ l1 l2, relC β c l1 ∧ relL β cs l2 ∧ l = l1 ++ l2

def relG (β : Env) : Bool → List Ch → Value → Prop
  | true, cs, u => ∃ l, relL β cs l ∧ u = .agg ⟨l⟩
  | false, cs, u => relL β cs [u]

def relT (β : Env) : List (Bool × List Ch) → List Value → Prop
  | [], l => l = []
  | (g, cs) :: r, l => ∃ u l', relG β g cs u ∧ relT β r l' ∧ l = u :: l'

def relA (β : Env) : AV → Value → Prop
  | .val g cs, u => relG β g cs u
  | .tup xs, u => ∃ us, relT β xs us ∧ u = .tuple ⟨us⟩
  | .any, _ => True

def relB (β : Env) (blk : Blk) (bk : Nat) (w : World) : Prop :=
  (∃ B n l t, β bk = some (.at_ B n) ∧ relL β blk.cs l ∧ w.heap[B]? = some (.cells ⟨l ++ t⟩ blk.ty (0, 0)) ∧ (blk.opn = false → t = []) ∧ (l ++ t).length = n ∧ (∀ v ∈ t, v.oneCell' = true)) ∨
  (β bk = some .nil ∧ blk.opn = true ∧ relL β blk.cs [])

def Env.le (β β' : Env) : Prop := ∀ b B, β b = some B → β' b = some B
theorem Env.le_refl (β : Env) : Env.le β β := fun _ _ h => h
theorem Env.le_trans {a b c : Env} (h : Env.le a b) (k : Env.le b c) : Env.le a c := fun x X e => k x X (h x X e)

section
variable {β β' : Env} (hm : Env.le β β')
include hm
theorem relP_mono : ∀ {r : List (Nat × Nat)} {l : List Value}, relP β r l → relP β' r l
  | [], _, h => h
  | (_, _) :: _, _, ⟨B, n, l', h1, h2, h3⟩ => ⟨B, n, l', hm _ _ h1, relP_mono h2, h3⟩
theorem relC_mono {c : Ch} {l : List Value} (h : relC β c l) : relC β' c l := by
  cases c <;> simp only [relC] at h ⊢
  case n => exact h
  case b => exact h
  case v => exact h
  case p => obtain ⟨B, n, h1, h2⟩ := h; exact ⟨B, n, hm _ _ h1, h2⟩
  case sl => obtain ⟨B, n, h1, h2⟩ := h; exact ⟨B, n, hm _ _ h1, h2⟩
  case sx =>
    rcases h with ⟨B, n, cap, h1, h2⟩ | ⟨h1, h2⟩
    · exact .inl ⟨B, n, cap, hm _ _ h1, h2⟩
    · exact .inr ⟨hm _ _ h1, h2⟩
  case num => exact h
  case seq => exact h
  case clo => obtain ⟨ps, h1, h2⟩ := h; exact ⟨ps, relP_mono hm h1, h2⟩
theorem relL_mono : ∀ {cs : List Ch} {l : List Value}, relL β cs l → relL β' cs l
  | [], _, h => h
  | _ :: _, _, ⟨l1, l2, h1, h2, h3⟩ => ⟨l1, l2, relC_mono hm h1, relL_mono h2, h3⟩
theorem relG_mono {g : Bool} {cs : List Ch} {u : Value} (h : relG β g cs u) : relG β' g cs u := by
  cases g
  · exact relL_mono hm h
  · obtain ⟨l, h1, h2⟩ := h; exact ⟨l, relL_mono hm h1, h2⟩
theorem relT_mono : ∀ {xs : List (Bool × List Ch)} {l : List Value}, relT β xs l → relT β' xs l
  | [], _, h => h
  | (_, _) :: _, _, ⟨u, l', h1, h2, h3⟩ => ⟨u, l', relG_mono hm h1, relT_mono h2, h3⟩
theorem relA_mono {x : AV} {u : Value} (h : relA β x u) : relA β' x u := by
  cases x with
  | val g cs => exact relG_mono hm h
  | tup xs => obtain ⟨us, h1, h2⟩ := h; exact ⟨us, relT_mono hm h1, h2⟩
  | any => trivial
theorem relB_mono {blk : Blk} {bk : Nat} {w : World} (h : relB β blk bk w) : relB β' blk bk w := by
  rcases h with ⟨B, n, l, t, h1, h2, h3⟩ | ⟨h1, h2, h3⟩
  · exact .inl ⟨B, n, l, t, hm _ _ h1, relL_mono hm h2, h3⟩
  · exact .inr ⟨hm _ _ h1, h2, relL_mono hm h3⟩
end

def szC : Ch → Nat
  | .num k _ => k
  | .seq _ l => l.length
  | _ => 1
def szL : List Ch → Nat
  | [] => 0
  | c :: cs => szC c + szL cs

theorem words_length (k x : Nat) : (words k x).length = k := by simp [words]
theorem relC_length {β : Env} {c : Ch} {l : List Value} (h : relC β c l) : l.length = szC c := by
  cases c <;> simp only [relC] at h <;> simp only [szC]
  case n => simp [h.1]
  case b => simp [h]
  case v => simp [h.1]
  case p => obtain ⟨B, n, _, rfl⟩ := h; rfl
  case sl => obtain ⟨B, n, _, rfl⟩ := h; rfl
  case sx => rcases h with ⟨B, n, cap, _, rfl, _⟩ | ⟨_, _, rfl⟩ <;> rfl
  case num => rw [h.2, words_length]
  case seq => simp [h.1]
  case clo => obtain ⟨ps, _, rfl⟩ := h; rfl
theorem relL_length {β : Env} : ∀ {cs : List Ch} {l : List Value}, relL β cs l → l.length = szL cs
  | [], l, h => by simp only [relL] at h; simp [h, szL]
  | c :: cs, l, ⟨l1, l2, h1, h2, h3⟩ => by simp [h3, szL, relC_length h1, relL_length h2]

theorem relL_append {β : Env} : ∀ {a b : List Ch} {x y : List Value}, relL β a x → relL β b y → relL β (a ++ b) (x ++ y)
  | [], _, _, _, h, k => by simp only [relL] at h; simpa [h] using k
  | c :: a, b, x, y, ⟨l1, l2, h1, h2, h3⟩, k => ⟨l1, l2 ++ y, h1, relL_append h2 k, by simp [h3]⟩
theorem relL_append_inv {β : Env} : ∀ {a b : List Ch} {x : List Value}, relL β (a ++ b) x → ∃ y z, relL β a y ∧ relL β b z ∧ x = y ++ z
  | [], _, x, h => ⟨[], x, rfl, h, rfl⟩
  | c :: a, b, x, ⟨l1, l2, h1, h2, h3⟩ => by
    obtain ⟨y, z, hy, hz, rfl⟩ := relL_append_inv h2
    exact ⟨l1 ++ y, z, ⟨l1, y, h1, hy, rfl⟩, hz, by simp [h3]⟩

theorem wordN_has (x i : Nat) : has .u64 (wordN x i) := by
  have h1 : x / 2 ^ (64 * i) % 2 ^ 64 < 2 ^ 64 := Nat.mod_lt _ (by decide)
  simp only [has, wordN, IntKind.min, IntKind.max, IntKind.signed, IntKind.bits]
  simp at h1 ⊢
  omega
theorem relL_map_words {β : Env} (x : Nat) : ∀ (is : List Nat), relL β (is.map fun i => Ch.v (.int .u64 (wordN x i))) (is.map fun i => Value.int .u64 (wordN x i))
  | [] => rfl
  | i :: is => ⟨[_], _, ⟨rfl, rfl, wordN_has x i⟩, relL_map_words x is, rfl⟩
theorem relL_words {β : Env} (k x : Nat) : relL β (wordsCh k x) (words k x) := relL_map_words x _

/- cutting a list of cells at a place -/
def splitCh : List Ch → Nat → Option (List Ch × List Ch)
  | [], m => match m with | 0 => some ([], []) | _ => none
  | c :: cs, m => match m with
    | 0 => some ([], c :: cs)
    | m' + 1 => match Nat.ble (szC c) (m' + 1) with
      | true => match splitCh cs (m' + 1 - szC c) with
        | some (a, r) => some (c :: a, r)
        | none => none
      | false => match c with
        | .num k x => some ((wordsCh k x).take (m' + 1), (wordsCh k x).drop (m' + 1) ++ cs)
        | _ => none

theorem relL_take_drop_words {β : Env} (k x m : Nat) : relL β ((wordsCh k x).take m) ((words k x).take m) ∧ relL β ((wordsCh k x).drop m) ((words k x).drop m) := by
  unfold wordsCh words
  rw [← List.map_take, ← List.map_take, ← List.map_drop, ← List.map_drop]
  exact ⟨relL_map_words x _, relL_map_words x _⟩

theorem split_rel {β : Env} : ∀ {cs : List Ch} {m : Nat} {a r : List Ch} {l : List Value}, splitCh cs m = some (a, r) → relL β cs l →
    relL β a (l.take m) ∧ relL β r (l.drop m) ∧ m ≤ l.length
  | [], m, a, r, l, h, hl => by
    simp only [relL] at hl
    subst hl
    cases m with
    | zero => simp [splitCh] at h; obtain ⟨rfl, rfl⟩ := h; simp [relL]
    | succ m => simp [splitCh] at h
  | c :: cs, m, a, r, l, h, hl => by
    cases m with
    | zero => simp [splitCh] at h; obtain ⟨rfl, rfl⟩ := h; exact ⟨by simp [relL], by simpa using hl, Nat.zero_le _⟩
    | succ m =>
      obtain ⟨l1, l2, h1, h2, rfl⟩ := hl
      have hz := relC_length h1
      simp only [splitCh] at h
      cases hb : Nat.ble (szC c) (m + 1) with
      | true =>
        have hle := Nat.le_of_ble_eq_true hb
        simp only [hb] at h
        split at h
        · rename_i a' r' hs
          simp only [Option.some.injEq, Prod.mk.injEq] at h
          obtain ⟨rfl, rfl⟩ := h
          obtain ⟨i1, i2, i3⟩ := split_rel hs h2
          refine ⟨⟨l1, _, h1, i1, ?_⟩, ?_, ?_⟩
          · rw [List.take_append, hz, List.take_of_length_le (by omega)]
          · rw [List.drop_append, hz, List.drop_eq_nil_of_le (by omega), List.nil_append]; exact i2
          · simp; omega
        · cases h
      | false =>
        have hlt : m + 1 < szC c := by
          rcases Nat.lt_or_ge (m + 1) (szC c) with h' | h'
          · exact h'
          · rw [Nat.ble_eq_true_of_le h'] at hb; cases hb
        simp only [hb] at h
        split at h
        · rename_i k x
          simp only [Option.some.injEq, Prod.mk.injEq] at h
          obtain ⟨rfl, rfl⟩ := h
          simp only [relC] at h1
          obtain ⟨_, rfl⟩ := h1
          simp only [szC] at hlt
          obtain ⟨j1, j2⟩ := relL_take_drop_words (β := β) k x (m + 1)
          refine ⟨?_, ?_, ?_⟩
          · rw [List.take_append_of_le_length (by rw [words_length]; omega)]; exact j1
          · rw [List.drop_append_of_le_length (by rw [words_length]; omega)]; exact relL_append j2 h2
          · simp [words_length]; omega
        · cases h

def getRange (cs : List Ch) (off sz : Nat) : Option (List Ch) :=
  match splitCh cs off with
  | some (_, r) => match splitCh r sz with
    | some (m, _) => some m
    | none => none
  | none => none
theorem getRange_rel {β : Env} {cs m : List Ch} {off sz : Nat} {l : List Value} (h : getRange cs off sz = some m) (hl : relL β cs l) :
    relL β m ((l.drop off).take sz) ∧ off + sz ≤ l.length := by
  unfold getRange at h
  split at h
  · rename_i a r h1
    split at h
    · rename_i m' t h2
      injection h with h; subst h
      obtain ⟨_, i2, i3⟩ := split_rel h1 hl
      obtain ⟨j1, _, j3⟩ := split_rel h2 i2
      refine ⟨j1, ?_⟩
      simp at j3; omega
    · cases h
  · cases h

def setRange (cs : List Ch) (off sz : Nat) (new : List Ch) : Option (List Ch) :=
  match splitCh cs off with
  | some (a, r) => match splitCh r sz with
    | some (_, t) => some (a ++ (new ++ t))
    | none => none
  | none => none
theorem setRange_rel {β : Env} {cs m new : List Ch} {off sz : Nat} {l ln : List Value} (h : setRange cs off sz new = some m) (hl : relL β cs l) (hn : relL β new ln) :
    relL β m (l.take off ++ ln ++ l.drop (off + sz)) ∧ off + sz ≤ l.length := by
  unfold setRange at h
  split at h
  · rename_i a r h1
    split at h
    · rename_i m' t h2
      injection h with h; subst h
      obtain ⟨i1, i2, i3⟩ := split_rel h1 hl
      obtain ⟨_, j2, j3⟩ := split_rel h2 i2
      refine ⟨?_, ?_⟩
      · rw [List.append_assoc]
        exact relL_append i1 (relL_append hn (by rw [List.drop_drop] at j2; exact j2))
      · simp at j3; omega
    · cases h
  · cases h

/- the heap: a short list of blocks by their keys; none: a block that is no longer known -/
def hget : Heap → Nat → Option Blk
  | [], _ => none
  | (k, x) :: r, b => match Nat.beq k b with | true => x | false => hget r b
def hput : Heap → Nat → Option Blk → Heap
  | [], b, y => [(b, y)]
  | (k, x) :: r, b, y => match Nat.beq k b with | true => (k, y) :: r | false => (k, x) :: hput r b y
theorem nbeq {a b : Nat} : Nat.beq a b = true ↔ a = b := by rw [Nat.beq_eq]
theorem nbeq_false {a b : Nat} (h : Nat.beq a b = false) : a ≠ b := fun e => by rw [nbeq.2 e] at h; cases h
theorem nbeq_ne {a b : Nat} (h : a ≠ b) : Nat.beq a b = false := by
  cases hb : Nat.beq a b
  · rfl
  · exact absurd (nbeq.1 hb) h
theorem hget_hput_same (H : Heap) (b : Nat) (y : Option Blk) : hget (hput H b y) b = y := by
  induction H with
  | nil => simp [hput, hget]
  | cons e r ih =>
    obtain ⟨k, x⟩ := e
    simp only [hput]
    cases hk : Nat.beq k b with
    | true => simp [hget, hk]
    | false => simp [hget, hk, ih]
theorem hget_hput_other (H : Heap) (b c : Nat) (y : Option Blk) (h : b ≠ c) : hget (hput H b y) c = hget H c := by
  induction H with
  | nil => simp [hput, hget, nbeq_ne h]
  | cons e r ih =>
    obtain ⟨k, x⟩ := e
    simp only [hput]
    cases hk : Nat.beq k b with
    | true =>
      have := nbeq.1 hk
      subst this
      simp [hget, nbeq_ne h]
    | false =>
      simp only [hget, ih]
def happly (H : Heap) (u : Heap) : Heap := match u with
  | [] => H
  | (b, y) :: r => happly (hput H b y) r
def relH (β : Env) (H : Heap) (w : World) : Prop := ∀ b blk, hget H b = some blk → relB β blk b w

end Go.Proofs.Ytoemaicabljpfaa.Ex
