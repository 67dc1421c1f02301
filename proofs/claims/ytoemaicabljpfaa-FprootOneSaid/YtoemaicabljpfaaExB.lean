/- The executor's operations on memory: what each computes, and that the model computes the same. -/
import Derived.Test.YtoemaicabljpfaaExA
namespace Go.Proofs.Ytoemaicabljpfaa.Ex

structure R where
  val : AV
  upd : Heap
  nw : Nat
  conds : List (Bool × Bool)
  path : List Bool

def okConds : List (Bool × Bool) → Prop
  | [] => True
  | (x, d) :: r => x = d ∧ okConds r
theorem okConds_append : ∀ {a b : List (Bool × Bool)}, okConds (a ++ b) ↔ okConds a ∧ okConds b
  | [], b => by simp [okConds]
  | (x, d) :: a, b => by simp [okConds, okConds_append (a := a), and_assoc]

def pureR (x : AV) (path : List Bool) : R := ⟨x, [], 0, [], path⟩

structure Eff (β : Env) (fr : Nat) (r : R) (w : World) (u : Value) (w' : World) (β' : Env) : Prop where
  ext : Env.le β β'
  new : ∀ b X, β' b = some X → β b = some X ∨ (fr ≤ b ∧ b < fr + r.nw ∧ ∀ B n, X = .at_ B n → w.heap.size ≤ B ∨ ∃ k m, (k, none) ∈ r.upd ∧ β k = some (.at_ B m))
  lt : ∀ b B n, β' b = some (.at_ B n) → B < w'.heap.size
  inj : ∀ b b' B n n', fr ≤ b → fr ≤ b' → b < fr + r.nw → b' < fr + r.nw → β' b = some (.at_ B n) → β' b' = some (.at_ B n') → b = b'
  val : relA β' r.val u
  upd : ∀ k y, (k, some y) ∈ r.upd → relB β' y k w'
  frame : ∀ B, B < w.heap.size → (∀ k y n, (k, y) ∈ r.upd → β k ≠ some (.at_ B n)) → w'.heap[B]? = w.heap[B]?
  size : w.heap.size ≤ w'.heap.size
  os : w'.os = w.os
  tape : w'.tape = w.tape
  output : w'.output = w.output

structure Good (β : Env) (H : Heap) (w : World) : Prop where
  heap : relH β H w
  inj : ∀ b b' B n n', (hget H b).isSome = true → (hget H b').isSome = true → β b = some (.at_ B n) → β b' = some (.at_ B n') → b = b'
  lt : ∀ b B n, β b = some (.at_ B n) → B < w.heap.size

theorem Eff.pure_ {β : Env} {fr : Nat} {x : AV} {path : List Bool} {c : List (Bool × Bool)} {H : Heap} {w : World} {u : Value} (g : Good β H w) (h : relA β x u) :
    Eff β fr ⟨x, [], 0, c, path⟩ w u w β where
  ext := Env.le_refl β
  new := fun _ _ h => .inl h
  lt := g.lt
  inj := fun b b' _ _ _ h1 _ h3 => by simp at h3; omega
  val := h
  upd := fun _ _ h => by cases h
  frame := fun _ _ _ => rfl
  size := Nat.le_refl _
  os := rfl
  tape := rfl
  output := rfl

def Env.put (β : Env) (b : Nat) (X : Loc) : Env := fun x => if x = b then some X else β x
theorem Env.put_same (β : Env) (b : Nat) (X : Loc) : β.put b X b = some X := by simp [Env.put]
theorem Env.le_put {β : Env} {b : Nat} (X : Loc) (h : β b = none) : Env.le β (β.put b X) := fun x Y e => by
  unfold Env.put
  split
  · rename_i hx; subst hx; rw [h] at e; cases e
  · exact e

theorem Eff.new_ {β : Env} {fr n : Nat} {x : AV} {path : List Bool} {c : List (Bool × Bool)} {H : Heap} {w : World} {u : Value} {ty : TypeId} {cs : List Ch} {l : List Value}
    (g : Good β H w) (hf : β fr = none) (hl : relL β cs l) (hn : l.length = n) (h : relA (β.put fr (.at_ w.heap.size n)) x u) :
    Eff β fr ⟨x, [(fr, some ⟨ty, cs, false⟩)], 1, c, path⟩ w u (w.alloc (.cells ⟨l⟩ ty)) (β.put fr (.at_ w.heap.size n)) where
  ext := Env.le_put _ hf
  new := fun b X k => by
    unfold Env.put at k
    split at k
    · rename_i hb; subst hb; injection k with k; subst k
      exact .inr ⟨Nat.le_refl _, by simp, fun B n e => by injection e with e1 e2; subst e1; exact .inl (Nat.le_refl _)⟩
    · exact .inl k
  lt := fun b B m k => by
    unfold Env.put at k
    split at k
    · injection k with k; injection k with k _; subst k; simp
    · have := g.lt _ _ _ k; simp; omega
  inj := fun b b' _ _ _ h1 h2 h3 h4 _ _ => by simp at h3 h4; omega
  val := h
  upd := fun k y hy => by
    simp only [List.mem_singleton, Prod.mk.injEq, Option.some.injEq] at hy
    obtain ⟨rfl, rfl⟩ := hy
    exact .inl ⟨w.heap.size, n, l, [], Env.put_same .., relL_mono (Env.le_put _ hf) hl, by show (w.heap.push _)[w.heap.size]? = _; simp, fun _ => rfl, by simpa using hn, by simp⟩
  frame := fun B hB _ => by
    show (w.heap.push _)[B]? = _
    rw [Array.getElem?_push, if_neg (by omega)]
  size := by simp
  os := rfl
  tape := rfl
  output := rfl

theorem Eff.write {β : Env} {fr : Nat} {x : AV} {path : List Bool} {c : List (Bool × Bool)} {H : Heap} {w : World} {u : Value} {ty : TypeId} {bk B n : Nat} {cs : List Ch} {l t l0 : List Value} {opn : Bool}
    (g : Good β H w) (hb : β bk = some (.at_ B n)) (ho : w.heap[B]? = some (.cells ⟨l0⟩ ty (0, 0))) (hl : relL β cs l) (ht : opn = false → t = []) (hn : (l ++ t).length = n) (h1 : ∀ v ∈ t, v.oneCell' = true) (h : relA β x u) :
    Eff β fr ⟨x, [(bk, some ⟨ty, cs, opn⟩)], 0, c, path⟩ w u (w.setRow B ⟨l ++ t⟩) β where
  ext := Env.le_refl β
  new := fun _ _ h => .inl h
  lt := fun b B' m h => by have := g.lt _ _ _ h; simpa [World.setRow] using this
  inj := fun b b' _ _ _ h1 _ h3 => by simp at h3; omega
  val := h
  upd := fun k y hy => by
    simp only [List.mem_singleton, Prod.mk.injEq, Option.some.injEq] at hy
    obtain ⟨rfl, rfl⟩ := hy
    exact .inl ⟨B, n, l, t, hb, hl, setRow_heap w B ⟨l0⟩ _ ty (0, 0) ho, ht, hn, h1⟩
  frame := fun B' hB hne => by
    have : B' ≠ B := fun e => hne _ _ n (List.mem_singleton.2 rfl) (by rw [e]; exact hb)
    simp only [World.setRow, Array.getElem?_modify]
    rw [if_neg (by omega)]
  size := by simp [World.setRow]
  os := rfl
  tape := rfl
  output := rfl

/- operands -/
def hasB (k : IntKind) (n : Int) : Bool :=
  match k with
  | .u64 => decide (0 ≤ n) && decide (n ≤ 18446744073709551615)
  | .i64 => decide (-9223372036854775808 ≤ n) && decide (n ≤ 9223372036854775807)
  | .u8 => decide (0 ≤ n) && decide (n ≤ 255)
  | .u32 => decide (0 ≤ n) && decide (n ≤ 4294967295)
  | .i32 => decide (-2147483648 ≤ n) && decide (n ≤ 2147483647)
  | .u16 => decide (0 ≤ n) && decide (n ≤ 65535)
  | .i16 => decide (-32768 ≤ n) && decide (n ≤ 32767)
  | .i8 => decide (-128 ≤ n) && decide (n ≤ 127)
theorem has_iff (k : IntKind) (n : Int) : has k n ↔ hasB k n = true := by
  cases k <;> simp [has, hasB, IntKind.min, IntKind.max, IntKind.signed, IntKind.bits]
theorem has_wrap (k : IntKind) (n : Int) : has k (k.wrap n) := by
  rw [has_iff]
  cases k <;> simp only [IntKind.wrap, IntKind.signed, IntKind.bits, hasB] <;> simp <;> (try split) <;> omega

def constCh (x : Value) : Option Ch :=
  match x with
  | .int k i => match hasB k i with | true => some (.n k i) | false => none
  | .bool y => some (.b y)
  | .agg _ | .tuple _ => none
  | .pointer p => some (.v (.pointer p))
  | .slice a l c => some (.v (.slice a l c))
  | .string s => some (.v (.string s))
  | .nilFunc => some (.v .nilFunc)
  | .nilIface => some (.v .nilIface)
  | .map m => some (.v (.map m))
  | .func f a c => some (.v (.func f a c))
  | _ => none
theorem constCh_rel {β : Env} {x : Value} {c : Ch} (h : constCh x = some c) : relC β c [x] := by
  cases x <;> simp only [constCh] at h
  case int k i =>
    split at h
    · rename_i hh; injection h with h; subst h; exact ⟨rfl, (has_iff _ _).2 hh⟩
    · cases h
  case bool => injection h with h; subst h; rfl
  all_goals first
    | (injection h with h; subst h; exact ⟨rfl, rfl, trivial⟩)
    | cases h
def constL : List Value → Option (List Ch)
  | [] => some []
  | x :: xs => match constCh x, constL xs with
    | some c, some cs => some (c :: cs)
    | _, _ => none
theorem constL_rel {β : Env} : ∀ {xs : List Value} {cs : List Ch}, constL xs = some cs → relL β cs xs
  | [], cs, h => by simp [constL] at h; subst h; rfl
  | x :: xs, cs, h => by
    simp only [constL] at h
    split at h
    · rename_i c cs' h1 h2
      injection h with h; subst h
      exact ⟨[x], xs, constCh_rel h1, constL_rel h2, rfl⟩
    · cases h
def constA (x : Value) : Option AV :=
  match x with
  | .agg cs => match constL cs.toList with | some l => some (.val true l) | none => none
  | .tuple cs => match cs.toList with | [] => some (.tup []) | _ => none
  | x => match constCh x with | some c => some (.val false [c]) | none => none
theorem constA_rel {β : Env} {x : Value} {A : AV} (h : constA x = some A) : relA β A x := by
  have scal : ∀ y, (match constCh y with | some c => some (AV.val false [c]) | none => none) = some A → relA β A y := by
    intro y h
    split at h
    · rename_i c hc; injection h with h; subst h
      exact ⟨[y], [], constCh_rel hc, rfl, rfl⟩
    · cases h
  cases x
  case agg cs =>
    simp only [constA] at h
    split at h
    · rename_i l hl; injection h with h; subst h; exact ⟨cs.toList, constL_rel hl, rfl⟩
    · cases h
  case tuple cs =>
    simp only [constA] at h
    split at h
    · rename_i hl; injection h with h; subst h
      exact ⟨[], rfl, by rw [← hl]⟩
    · cases h
  all_goals exact scal _ h

def evO (τ : Nat → AV) : Operand → Option AV
  | .tmp t => some (τ t)
  | .const x => constA x
  | .func f => some (.val false [.v (.func (.func f) #[] #[])])
  | .global _ => none
theorem evO_rel {β : Env} {τ : Nat → AV} {a : Act} (ht : ∀ t, relA β (τ t) (a.tmps.getD t undef)) {x : Operand} {A : AV} (h : evO τ x = some A) : relA β A (a.eval x) := by
  cases x <;> simp only [evO] at h
  case tmp t => injection h with h; subst h; exact ht t
  case const v => exact constA_rel h
  case func f => injection h with h; subst h; exact ⟨[_], [], ⟨rfl, rfl, trivial⟩, rfl, rfl⟩
  case global => cases h

/- one scalar chunk stands for one value -/
theorem rel_one {β : Env} {c : Ch} {u : Value} (h : relG β false [c] u) : relC β c [u] := by
  obtain ⟨l1, l2, h1, h2, h3⟩ := h
  simp only [relL] at h2
  subst h2
  rw [List.append_nil] at h3
  rw [h3]; exact h1
theorem rel_one' {β : Env} {c : Ch} {u : Value} (h : relC β c [u]) : relG β false [c] u := ⟨[u], [], h, rfl, rfl⟩

/- cells of a value -/
theorem relG_cells {β : Env} {g : Bool} {cs : List Ch} {u : Value} (h : relG β g cs u) : relL β cs u.cells.toList := by
  cases g
  · have hl := h
    simp only [relG] at hl
    have hc : u.cells = #[u] ∨ ∃ x, u = .agg x := by cases u <;> simp [Value.cells]
    rcases hc with hc | ⟨x, rfl⟩
    · rw [hc]; exact hl
    · exfalso
      clear h
      have : ∀ (cs : List Ch) (l : List Value), relL β cs l → .agg x ∉ l := by
        intro cs
        induction cs with
        | nil => intro l h; simp only [relL] at h; simp [h]
        | cons c cs ih =>
          intro l ⟨l1, l2, h1, h2, h3⟩ hm
          rw [h3, List.mem_append] at hm
          rcases hm with hm | hm
          · cases c <;> simp only [relC] at h1
            case n => rw [h1.1] at hm; simp at hm
            case b => rw [h1] at hm; simp at hm
            case v y => rw [h1.1] at hm; simp at hm; subst hm; exact absurd h1.2.1 (by simp [Value.oneCell'])
            case p => obtain ⟨B, n, _, rfl⟩ := h1; simp at hm
            case sl => obtain ⟨B, n, _, rfl⟩ := h1; simp at hm
            case sx => rcases h1 with ⟨B, n, cap, _, rfl, _⟩ | ⟨_, _, rfl⟩ <;> simp at hm
            case num => rw [h1.2] at hm; simp [words] at hm
            case seq => rw [h1.1] at hm; simp at hm
            case clo => obtain ⟨B, _, rfl⟩ := h1; simp at hm
          · exact ih _ h2 hm
      exact this _ _ hl (by simp)
  · obtain ⟨l, h1, rfl⟩ := h; exact h1

theorem oneCell_of_rel {β : Env} : ∀ {cs : List Ch} {l : List Value}, relL β cs l → ∀ v ∈ l, v.oneCell' = true
  | [], l, h, v, hv => by simp only [relL] at h; subst h; cases hv
  | c :: cs, l, ⟨l1, l2, h1, h2, h3⟩, v, hv => by
    rw [h3, List.mem_append] at hv
    rcases hv with hm | hm
    · cases c <;> simp only [relC] at h1
      case n => rw [h1.1] at hm; simp at hm; subst hm; rfl
      case b => rw [h1] at hm; simp at hm; subst hm; rfl
      case v y => rw [h1.1] at hm; simp at hm; subst hm; exact h1.2.1
      case p => obtain ⟨B, n, _, rfl⟩ := h1; simp at hm; subst hm; rfl
      case sl => obtain ⟨B, n, _, rfl⟩ := h1; simp at hm; subst hm; rfl
      case sx => rcases h1 with ⟨B, n, cap, _, rfl, _⟩ | ⟨_, _, rfl⟩ <;> (simp at hm; subst hm; rfl)
      case num => rw [h1.2] at hm; simp [words] at hm; obtain ⟨i, _, rfl⟩ := hm; rfl
      case seq => rw [h1.1] at hm; simp at hm; obtain ⟨i, _, rfl⟩ := hm; rfl
      case clo => obtain ⟨B, _, rfl⟩ := h1; simp at hm; subst hm; rfl
    · exact oneCell_of_rel h2 v hm

section ops
variable {P : Program} {β : Env} {H : Heap} {w : World}

/- new blocks -/
def aAlloc (P : Program) (t : TypeId) (fr : Nat) (path : List Bool) : Option R :=
  match P.info? t with
  | some i => match i.zero with
    | some z => match constA z with
      | some (.val _ cs) => some ⟨.val false [.p fr 0], [(fr, some ⟨t, cs, false⟩)], 1, [], path⟩
      | _ => none
    | none => none
  | none => none
theorem relA_newp (β : Env) (fr B n : Nat) : relA (β.put fr (.at_ B n)) (.val false [.p fr 0]) (.pointer (some ⟨B, 0, none⟩)) :=
  rel_one' ⟨B, n, Env.put_same .., rfl⟩
theorem aAlloc_sound {t fr : Nat} {path : List Bool} {r : R} (g : Good β H w) (h : aAlloc P t fr path = some r) (hf : ∀ b, fr ≤ b → b < fr + r.nw → β b = none) :
    ∃ u w' β', (Instr.alloc t true (.tuple #[])).run P w = .ok u w' ∧ Eff β fr r w u w' β' := by
  unfold aAlloc at h
  split at h
  · rename_i i hi
    split at h
    · rename_i z hz
      split at h
      · rename_i gg cs hc
        injection h with h; subst h
        have hr := relG_cells (constA_rel (β := β) hc)
        refine ⟨_, _, _, ?_, Eff.new_ g (hf fr (Nat.le_refl _) (by simp)) hr rfl (relA_newp β fr _ _)⟩
        simp [Instr.alloc, zeroValue, typeInfo, hi, hz, newVar, newRow]
      · cases h
    · cases h
  · cases h

def aBox (t : TypeId) (x : Option AV) (fr : Nat) (path : List Bool) : Option R :=
  match x with
  | some (.val _ cs) => some ⟨.val false [.p fr 0], [(fr, some ⟨t, cs, false⟩)], 1, [], path⟩
  | _ => none
theorem aBox_sound {t fr : Nat} {path : List Bool} {x : Option AV} {u : Value} {r : R} (g : Good β H w) (hx : ∀ A, x = some A → relA β A u) (h : aBox t x fr path = some r)
    (hf : ∀ b, fr ≤ b → b < fr + r.nw → β b = none) :
    ∃ v w' β', (Instr.box t u).run P w = .ok v w' ∧ Eff β fr r w v w' β' := by
  unfold aBox at h
  split at h
  · rename_i gg cs
    injection h with h; subst h
    have hr := relG_cells (hx _ rfl)
    refine ⟨_, _, _, ?_, Eff.new_ g (hf fr (Nat.le_refl _) (by simp)) hr rfl (relA_newp β fr _ _)⟩
    simp [Instr.box, newVar, newRow]
  · cases h

/- reading -/
def wide : TypeDesc → Bool
  | .struct _ | .array _ _ => true
  | _ => false
theorem run_isAgg {t : TypeId} {d : TypeDesc} (h : P.underlying t = some d) (w : World) : (isAgg t).run P w = .ok (wide d) w := by
  unfold isAgg
  simp only [Sem.run_bind, run_underlying h, Result.andThen_ok]
  cases d <;> rfl

def loadCs (P : Program) (t : TypeId) (cs : List Ch) (off : Nat) (path : List Bool) : Option R :=
  match P.underlying t, P.info? t with
  | some d, some i => match wide d with
    | true => match getRange cs off i.size with
      | some m => some (pureR (.val true m) path)
      | none => none
    | false => match cs with
      | [.seq kd xs] => some ⟨.val false [.v (.int kd (xs.getD off 0))], [], 0, [(decide (off < xs.length), true)], path⟩
      | cs => match getRange cs off 1 with
        | some m => some (pureR (.val false m) path)
        | none => none
  | _, _ => none
def aLoad (P : Program) (t : TypeId) (x : Option AV) (H : Heap) (path : List Bool) : Option R :=
  match x with
  | some (.val false [.p bk off]) => match hget H bk with
    | some blk => loadCs P t blk.cs off path
    | none => none
  | _ => none

theorem take_one {l : List Value} {off : Nat} (h : off < l.length) : (l.drop off).take 1 = [l[off]] := by
  apply List.ext_getElem?
  intro i
  cases i with
  | zero => simp [List.getElem?_drop, h]
  | succ i => simp [List.getElem?_take]

theorem cell_at {B off : Nat} {l t : List Value} {ty : TypeId} (ho : w.heap[B]? = some (.cells ⟨l ++ t⟩ ty (0, 0))) (h : off < l.length) : w.cell? ⟨B, off, none⟩ = some l[off] := by
  simp [World.cell?, ho, List.getElem?_append, h]

theorem loadCs_sound {t off B : Nat} {path : List Bool} {cs : List Ch} {l t' : List Value} {ty : TypeId} {r : R} (g : Good β H w) (hl : relL β cs l)
    (ho : w.heap[B]? = some (.cells ⟨l ++ t'⟩ ty (0, 0))) (h : loadCs P t cs off path = some r) (hc : okConds r.conds) (fr : Nat) :
    ∃ u, (loadVar t ⟨B, off, none⟩).run P w = .ok u w ∧ Eff β fr r w u w β := by
  unfold loadCs at h
  split at h
  · rename_i d i hd hi
    have hag := run_isAgg hd w
    split at h
    · rename_i hw
      split at h
      · rename_i m hm
        injection h with h; subst h
        obtain ⟨h1, h2⟩ := getRange_rel hm hl
        have hlen : ((l.drop off).take i.size).length = i.size := by simp; omega
        have hload := run_loadCells_list (P := P) w ⟨B, off, none⟩ ((l.drop off).take i.size) (fun j v hj => by
          rw [Addr.add_lit]
          have hjl : j < ((l.drop off).take i.size).length := by
            rcases Nat.lt_or_ge j ((l.drop off).take i.size).length with h' | h'
            · exact h'
            · rw [List.getElem?_eq_none h'] at hj; cases hj
          rw [List.getElem?_take, if_pos (by omega), List.getElem?_drop] at hj
          rw [cell_at ho (by omega), ← hj, List.getElem?_eq_getElem])
        rw [hlen] at hload
        refine ⟨.agg ⟨(l.drop off).take i.size⟩, ?_, Eff.pure_ g ⟨_, h1, rfl⟩⟩
        simp [loadVar, hag, hw, sizeOf, typeInfo, hi, hload]
      · cases h
    · rename_i hw
      split at h
      · rename_i kd xs
        injection h with h; subst h
        simp only [okConds, decide_eq_true_eq, and_true] at hc
        obtain ⟨l1, l2, h1, h2, h3⟩ := hl
        simp only [relL] at h2
        subst h2
        simp only [relC] at h1
        obtain ⟨h1, hall⟩ := h1
        rw [List.append_nil, h1] at h3
        subst h3
        have hget : xs.getD off 0 = xs[off] := by simp [hc]
        refine ⟨.int kd (xs.getD off 0), ?_, Eff.pure_ g (rel_one' ⟨rfl, rfl, ?_⟩)⟩
        · have := cell_at (w := w) ho (off := off) (by simpa using hc)
          simp [loadVar, hag, hw, run_load, this, hc]
        · rw [hget]; exact hall _ (List.getElem_mem hc)
      · rename_i cs' _
        split at h
        · rename_i m hm
          injection h with h; subst h
          obtain ⟨h1, h2⟩ := getRange_rel hm hl
          rw [take_one (by omega)] at h1
          refine ⟨l[off], ?_, Eff.pure_ g h1⟩
          have := cell_at (w := w) ho (off := off) (by omega)
          simp [loadVar, hag, hw, run_load, this]
        · cases h
  · cases h

theorem aLoad_sound {t : TypeId} {path : List Bool} {x : Option AV} {u : Value} {r : R} (g : Good β H w) (hx : ∀ A, x = some A → relA β A u) (h : aLoad P t x H path = some r)
    (hc : okConds r.conds) (fr : Nat) : ∃ v, (Instr.loadAt t u).run P w = .ok v w ∧ Eff β fr r w v w β := by
  unfold aLoad at h
  split at h
  · rename_i bk off
    split at h
    · rename_i blk hb
      have hu := rel_one (hx _ rfl)
      obtain ⟨B', n', e4, e5⟩ := hu
      injection e5 with e5 _
      subst e5
      rcases g.heap _ _ hb with ⟨B, n, l, t', e1, e2, e3, _⟩ | ⟨e1, _⟩
      case inr => rw [e1] at e4; cases e4
      rw [e1] at e4; injection e4 with e4; injection e4 with e4 e4'; subst e4; subst e4'
      obtain ⟨v, hv, he⟩ := loadCs_sound g e2 e3 h hc fr
      refine ⟨v, ?_, he⟩
      simp [Instr.loadAt, Instr.sureAddr, hv]
    · cases h
  · cases h

/- writing -/
def storeCs (P : Program) (t : TypeId) (bk : Nat) (blk : Blk) (off : Nat) (new : List Ch) (path : List Bool) : Option R :=
  match blk.cs, new with
  | [.seq kd xs], [.n k i] => match decide (k = kd), P.info? t with
    | true, some inf => match Nat.beq inf.size 1 with
      | true => some ⟨.any, [(bk, some ⟨blk.ty, [.seq kd (xs.set off i)], blk.opn⟩)], 0, [(decide (off < xs.length), true)], path⟩
      | false => none
    | _, _ => none
  | [.seq kd xs], [.v (.int k i)] => match decide (k = kd), P.info? t with
    | true, some inf => match Nat.beq inf.size 1 with
      | true => some ⟨.any, [(bk, some ⟨blk.ty, [.seq kd (xs.set off i)], blk.opn⟩)], 0, [(decide (off < xs.length), true)], path⟩
      | false => none
    | _, _ => none
  | cs, new => match P.info? t with
    | some inf => match Nat.beq (szL new) inf.size with
      | true => match setRange cs off inf.size new with
        | some m => some ⟨.any, [(bk, some ⟨blk.ty, m, blk.opn⟩)], 0, [], path⟩
        | none => none
      | false => none
    | none => none
def aStore (P : Program) (t : TypeId) (x y : Option AV) (H : Heap) (path : List Bool) : Option R :=
  match x, y with
  | some (.val false [.p bk off]), some (.val _ new) => match hget H bk with
    | some blk => storeCs P t bk blk off new path
    | none => none
  | _, _ => none

theorem run_storeVar {t : TypeId} {i : TypeInfo} {B off : Nat} {l t' ln : List Value} {ty : TypeId} {u : Value} (hi : P.info? t = some i)
    (ho : w.heap[B]? = some (.cells ⟨l ++ t'⟩ ty (0, 0))) (hu : u.cells.toList = ln) (hs : ln.length = i.size) (hfit : off + i.size ≤ l.length) (h1 : ∀ v ∈ ln, v.oneCell' = true) :
    (storeVar t ⟨B, off, none⟩ u).run P w = .ok () (w.setRow B ⟨(l.take off ++ ln ++ l.drop (off + i.size)) ++ t'⟩) := by
  have hz : u.cells.size = i.size := by rw [← hs, ← hu]; simp
  have := run_storeCells_at P B off ty ln 0 ⟨l ++ t'⟩ w ho (by simp; omega) h1
  simp only [Nat.add_zero] at this
  have e1 : (l ++ t').take off = l.take off := List.take_append_of_le_length (by omega)
  have e2 : (l ++ t').drop (off + i.size) = l.drop (off + i.size) ++ t' := List.drop_append_of_le_length (by omega)
  simp only [e1, hs, e2] at this
  simp [storeVar, sizeOf, typeInfo, hi, hz, hu, this]

theorem seq_set {β : Env} {kd : IntKind} {xs : List Int} {i : Int} (off : Nat) (hx : ∀ x ∈ xs, has kd x) (hi : has kd i) :
    relL β [.seq kd (xs.set off i)] ((xs.set off i).map (.int kd)) :=
  ⟨_, [], ⟨rfl, fun x hm => by
    rcases List.mem_or_eq_of_mem_set hm with h | h
    · exact hx x h
    · rw [h]; exact hi⟩, rfl, by simp⟩

theorem set_split {α : Type} (l : List α) (off : Nat) (x : α) (h : off < l.length) : l.set off x = l.take off ++ [x] ++ l.drop (off + 1) := by
  rw [List.set_eq_take_append_cons_drop, if_pos h]; simp

theorem storeCs_sound {t bk off B n : Nat} {path : List Bool} {blk : Blk} {new : List Ch} {l t' : List Value} {u : Value} {r : R} (g : Good β H w) (hb : β bk = some (.at_ B n)) (hl : relL β blk.cs l)
    (ho : w.heap[B]? = some (.cells ⟨l ++ t'⟩ blk.ty (0, 0))) (ht : blk.opn = false → t' = []) (hlen : (l ++ t').length = n) (ht1 : ∀ v ∈ t', v.oneCell' = true)
    (hn : relL β new u.cells.toList) (h : storeCs P t bk blk off new path = some r) (hc : okConds r.conds) (fr : Nat) :
    ∃ w', (storeVar t ⟨B, off, none⟩ u).run P w = .ok () w' ∧ Eff β fr r w undef w' β := by
  have seqcase : ∀ (kd k : IntKind) (xs : List Int) (i : Int) (inf : TypeInfo), blk.cs = [.seq kd xs] → u.cells.toList = [.int k i] → has k i → k = kd → P.info? t = some inf → inf.size = 1 → off < xs.length →
      ∃ w', (storeVar t ⟨B, off, none⟩ u).run P w = .ok () w' ∧ Eff β fr ⟨.any, [(bk, some ⟨blk.ty, [.seq kd (xs.set off i)], blk.opn⟩)], 0, [(decide (off < xs.length), true)], path⟩ w undef w' β := by
    intro kd k xs i inf e1 e2 e3 e4 e5 e6 e7
    subst e4
    rw [e1] at hl
    obtain ⟨l1, l2, h1, h2, h3⟩ := hl
    simp only [relL] at h2
    subst h2
    simp only [relC] at h1
    obtain ⟨h1, hall⟩ := h1
    rw [List.append_nil, h1] at h3
    subst h3
    have := run_storeVar (u := u) (l := xs.map (Value.int k)) (off := off) (ln := [.int k i]) e5 ho e2 (by simp [e6]) (by simp [e6]; omega) (by simp [Value.oneCell'])
    refine ⟨_, this, ?_⟩
    have e : (xs.map (Value.int k)).take off ++ [Value.int k i] ++ (xs.map (Value.int k)).drop (off + inf.size) = (xs.set off i).map (Value.int k) := by
      rw [List.map_set, e6, set_split _ off _ (by simpa using e7)]
    rw [e]
    exact Eff.write g hb ho (seq_set off hall e3) ht (by simpa using hlen) ht1 trivial
  unfold storeCs at h
  split at h
  · rename_i kd xs k i e1
    split at h
    · rename_i inf hk hi
      split at h
      · rename_i hz
        injection h with h; subst h
        simp only [okConds, decide_eq_true_eq, and_true] at hc
        have := rel_one (u := (.int k i : Value)) (β := β) (c := .n k i)
        obtain ⟨l1, l2, h1, h2, h3⟩ := hn
        simp only [relL] at h2
        subst h2
        simp only [relC] at h1
        exact seqcase kd k xs i inf e1 (by rw [h3, h1.1]; rfl) h1.2 (by simpa using hk) hi (nbeq.1 hz) hc
      · cases h
    · cases h
  · rename_i kd xs k i e1
    split at h
    · rename_i inf hk hi
      split at h
      · rename_i hz
        injection h with h; subst h
        simp only [okConds, decide_eq_true_eq, and_true] at hc
        obtain ⟨l1, l2, h1, h2, h3⟩ := hn
        simp only [relL] at h2
        subst h2
        simp only [relC] at h1
        exact seqcase kd k xs i inf e1 (by rw [h3, h1.1]; rfl) h1.2.2 (by simpa using hk) hi (nbeq.1 hz) hc
      · cases h
    · cases h
  · split at h
    · rename_i inf hi
      split at h
      · rename_i hz
        split at h
        · rename_i m hm
          injection h with h; subst h
          obtain ⟨h1, h2⟩ := setRange_rel hm hl hn
          have hlen' : u.cells.toList.length = inf.size := by rw [relL_length hn]; exact nbeq.1 hz
          exact ⟨_, run_storeVar hi ho rfl hlen' h2 (oneCell_of_rel hn), Eff.write g hb ho h1 ht (by simp at hlen hlen' ⊢; omega) ht1 trivial⟩
        · cases h
      · cases h
    · cases h

theorem aStore_sound {t : TypeId} {path : List Bool} {x y : Option AV} {u v : Value} {r : R} (g : Good β H w) (hx : ∀ A, x = some A → relA β A u) (hy : ∀ A, y = some A → relA β A v)
    (h : aStore P t x y H path = some r) (hc : okConds r.conds) (fr : Nat) : ∃ w', (Instr.storeAt t u v).run P w = .ok () w' ∧ Eff β fr r w undef w' β := by
  unfold aStore at h
  split at h
  · rename_i bk off gg new
    split at h
    · rename_i blk hb
      have hu := rel_one (hx _ rfl)
      obtain ⟨B', n', e4, e5⟩ := hu
      injection e5 with e5 _
      subst e5
      rcases g.heap _ _ hb with ⟨B, n, l, t', e1, e2, e3, e6, e7, e8⟩ | ⟨e1, _⟩
      case inr => rw [e1] at e4; cases e4
      rw [e1] at e4; injection e4 with e4; injection e4 with e4 e4'; subst e4; subst e4'
      obtain ⟨w', hv, he⟩ := storeCs_sound g e1 e2 e3 e6 e7 e8 (relG_cells (hy _ rfl)) h hc fr
      refine ⟨w', ?_, he⟩
      simp [Instr.storeAt, Instr.sureAddr, hv]
    · cases h
  · cases h
end ops
end Go.Proofs.Ytoemaicabljpfaa.Ex
