/- The executor's operations on numbers, truth values and their comparisons, arrays' and structs' ones too. -/
import Derived.Test.YtoemaicabljpfaaExB
namespace Go.Proofs.Ytoemaicabljpfaa.Ex

def asI : Option AV → Option (Bool × IntKind × Int)
  | some (.val false [.n k i]) => some (true, k, i)
  | some (.val false [.v (.int k i)]) => some (false, k, i)
  | _ => none
theorem asI_rel {β : Env} {x : Option AV} {u : Value} {c : Bool} {k : IntKind} {i : Int} (hx : ∀ A, x = some A → relA β A u) (h : asI x = some (c, k, i)) :
    u = .int k i ∧ has k i := by
  unfold asI at h
  split at h
  · injection h with h; injection h with h1 h; injection h with h2 h3; subst h1 h2 h3
    have := rel_one (hx _ rfl)
    simp only [relC, List.cons.injEq, and_true] at this
    exact this
  · injection h with h; injection h with h1 h; injection h with h2 h3; subst h1 h2 h3
    have := rel_one (hx _ rfl)
    simp only [relC, List.cons.injEq, and_true] at this
    exact ⟨this.1, this.2.2⟩
  · cases h
def mkI (c : Bool) (k : IntKind) (i : Int) : AV := match c with | true => .val false [.n k i] | false => .val false [.v (.int k i)]
theorem mkI_rel {β : Env} {k : IntKind} {i : Int} (c : Bool) (h : has k i) : relA β (mkI c k i) (.int k i) := by
  cases c
  · exact rel_one' ⟨rfl, rfl, h⟩
  · exact rel_one' ⟨rfl, h⟩
def asB : Option AV → Option (Bool × Bool)
  | some (.val false [.b x]) => some (true, x)
  | some (.val false [.v (.bool x)]) => some (false, x)
  | _ => none
theorem asB_rel {β : Env} {x : Option AV} {u : Value} {c y : Bool} (hx : ∀ A, x = some A → relA β A u) (h : asB x = some (c, y)) : u = .bool y := by
  unfold asB at h
  split at h
  · injection h with h; injection h with h1 h; subst h1 h
    have := rel_one (hx _ rfl)
    simpa [relC] using this
  · injection h with h; injection h with h1 h; subst h1 h
    have := rel_one (hx _ rfl)
    simp only [relC, List.cons.injEq, and_true] at this
    exact this.1
  · cases h
def mkB (c : Bool) (x : Bool) : AV := match c with | true => .val false [.b x] | false => .val false [.v (.bool x)]
theorem mkB_rel {β : Env} (c x : Bool) : relA β (mkB c x) (.bool x) := by
  cases c
  · exact rel_one' ⟨rfl, rfl, trivial⟩
  · exact rel_one' rfl

def wrapc (c : Bool) (k : IntKind) (i : Int) : Int := match c with
  | true => match hasB k i with | true => i | false => k.wrap i
  | false => k.wrap i
theorem wrap_of_has {k : IntKind} {i : Int} (h : hasB k i = true) : k.wrap i = i := by
  cases k <;> simp only [IntKind.wrap, IntKind.signed, IntKind.bits, hasB, Bool.and_eq_true, decide_eq_true_eq] at h ⊢ <;> simp <;> (try split) <;> omega
theorem wrapc_eq (c : Bool) (k : IntKind) (i : Int) : wrapc c k i = k.wrap i := by
  unfold wrapc
  split
  · split
    · rename_i h; exact (wrap_of_has h).symm
    · rfl
  · rfl

/- a condition: known at once, or written down -/
def condc (c x : Bool) : Option (List (Bool × Bool)) := match c with
  | true => match x with | true => some [] | false => none
  | false => some [(x, true)]
theorem condc_ok {c x : Bool} {l : List (Bool × Bool)} (h : condc c x = some l) (hl : okConds l) : x = true := by
  unfold condc at h
  split at h
  · split at h
    · rfl
    · cases h
  · injection h with h; subst h; exact hl.1

def intOp (op : BinOp) (c : Bool) (k : IntKind) (i j : Int) : Option (Int × List (Bool × Bool)) :=
  match op with
  | .add => some (wrapc c k (i + j), [])
  | .sub => some (wrapc c k (i - j), [])
  | .mul => some (wrapc c k (i * j), [])
  | .and => some (bits .and k i j, [])
  | .or => some (bits .or k i j, [])
  | .xor => some (bits .xor k i j, [])
  | .quo => match condc c (decide (j ≠ 0)) with | some l => some (wrapc c k (i.tdiv j), l) | none => none
  | .rem => match condc c (decide (0 ≤ i ∧ 0 < j)) with | some l => some (i.tmod j, l) | none => none
  | _ => none
def cmpOp (op : BinOp) (i j : Int) : Option Bool :=
  match op with
  | .eql => some (decide (i = j))
  | .neq => some (!decide (i = j))
  | .lss => some (decide (i < j))
  | .leq => some (decide (i ≤ j))
  | .gtr => some (decide (j < i))
  | .geq => some (decide (j ≤ i))
  | _ => none
def shOp (op : BinOp) (c : Bool) (k : IntKind) (i j : Int) : Option (Int × List (Bool × Bool)) :=
  match op with
  | .shl => match condc c (decide (0 ≤ j)) with | some l => some (wrapc c k (i * 2 ^ (min j.toNat k.bits)), l) | none => none
  | .shr => match condc c (decide (0 ≤ j ∧ 0 ≤ i)) with | some l => some (i.fdiv (2 ^ (min j.toNat k.bits)), l) | none => none
  | _ => none

section
variable {P : Program} {w : World}

theorem intOp_run {op : BinOp} {c : Bool} {k : IntKind} {i j z : Int} {l : List (Bool × Bool)} (h : intOp op c k i j = some (z, l)) (hl : okConds l) (hi : has k i) (t : TypeId) (x y : Operand) :
    (do eqGuard op t x y (.int k i) (.int k j); binOp op t (.int k i) (.int k j) : Sem Value).run P w = .ok (.int k z) w ∧ has k z := by
  rw [Sem.run_bind, eqGuard_at_int]
  simp only [Sem.run_pure, Result.andThen_ok]
  unfold intOp at h
  split at h
  all_goals first | cases h; done | skip
  · injection h with h; injection h with h1 h2; subst h1 h2; rw [wrapc_eq]; exact ⟨by simp [binOp, Op.intArith], has_wrap _ _⟩
  · injection h with h; injection h with h1 h2; subst h1 h2; rw [wrapc_eq]; exact ⟨by simp [binOp, Op.intArith], has_wrap _ _⟩
  · injection h with h; injection h with h1 h2; subst h1 h2; rw [wrapc_eq]; exact ⟨by simp [binOp, Op.intArith], has_wrap _ _⟩
  · injection h with h; injection h with h1 h2; subst h1 h2; exact ⟨by rw [binOp_and, intBits_and]; rfl, has_wrap _ _⟩
  · injection h with h; injection h with h1 h2; subst h1 h2; exact ⟨by rw [binOp_or, intBits_or]; rfl, has_wrap _ _⟩
  · injection h with h; injection h with h1 h2; subst h1 h2; exact ⟨by rw [binOp_xor, intBits_xor]; rfl, has_wrap _ _⟩
  · split at h
    · rename_i l' hc
      injection h with h; injection h with h1 h2; subst h1 h2; rw [wrapc_eq]
      have := condc_ok hc hl
      simp only [ne_eq, decide_not, Bool.not_eq_true', decide_eq_false_iff_not] at this
      exact ⟨by simp [binOp, Op.intDiv, this], has_wrap _ _⟩
    · cases h
  · split at h
    · rename_i l' hc
      injection h with h; injection h with h1 h2; subst h1 h2
      have := condc_ok hc hl
      simp only [decide_eq_true_eq] at this
      have hj : j ≠ 0 := by omega
      refine ⟨by simp [binOp, Op.intDiv, hj], ?_⟩
      rw [Int.tmod_eq_emod_of_nonneg this.1]
      have h1 := Int.emod_nonneg i hj
      have h2 : i % j ≤ i := by
        rcases Int.lt_or_le i j with hlt | hle
        · rw [Int.emod_eq_of_lt this.1 hlt]; exact Int.le_refl _
        · have := Int.emod_lt_of_pos i this.2; omega
      unfold has at hi ⊢
      have hmin : k.min ≤ 0 := by cases k <;> simp [IntKind.min, IntKind.signed, IntKind.bits]
      omega
    · cases h

theorem cmpOp_run {op : BinOp} {k : IntKind} {i j : Int} {z : Bool} (h : cmpOp op i j = some z) (t : TypeId) (x y : Operand) :
    (do eqGuard op t x y (.int k i) (.int k j); binOp op t (.int k i) (.int k j) : Sem Value).run P w = .ok (.bool z) w := by
  rw [Sem.run_bind, eqGuard_at_int]
  simp only [Sem.run_pure, Result.andThen_ok]
  unfold cmpOp at h
  split at h
  all_goals first | cases h; done | skip
  all_goals (injection h with h; subst h; simp [binOp, Op.intCmp])
  all_goals by_cases e : i = j <;> simp [e]

theorem shOp_run {op : BinOp} {c : Bool} {k yk : IntKind} {i j z : Int} {l : List (Bool × Bool)} (h : shOp op c k i j = some (z, l)) (hl : okConds l) (hi : has k i) (t : TypeId) (x y : Operand) :
    (do eqGuard op t x y (.int k i) (.int yk j); binOp op t (.int k i) (.int yk j) : Sem Value).run P w = .ok (.int k z) w ∧ has k z := by
  rw [Sem.run_bind, eqGuard_at_int]
  simp only [Sem.run_pure, Result.andThen_ok]
  unfold shOp at h
  split at h
  all_goals first | cases h; done | skip
  · split at h
    · rename_i l' hc
      injection h with h; injection h with h1 h2; subst h1 h2; rw [wrapc_eq]
      have := condc_ok hc hl
      simp only [decide_eq_true_eq] at this
      exact ⟨by simp [binOp, Op.shift, show ¬ j < 0 by omega], has_wrap _ _⟩
    · cases h
  · split at h
    · rename_i l' hc
      injection h with h; injection h with h1 h2; subst h1 h2
      have := condc_ok hc hl
      simp only [decide_eq_true_eq] at this
      refine ⟨by simp [binOp, Op.shift, show ¬ j < 0 by omega], ?_⟩
      have hp : (0 : Int) < 2 ^ (min j.toNat k.bits) := Int.pow_pos (by decide)
      rw [Int.fdiv_eq_ediv_of_nonneg _ (Int.le_of_lt hp)]
      have h1 : 0 ≤ i / 2 ^ (min j.toNat k.bits) := Int.ediv_nonneg this.2 (Int.le_of_lt hp)
      have h2 : i / 2 ^ (min j.toNat k.bits) ≤ i := Int.ediv_le_self _ this.2
      unfold has at hi ⊢
      have hmin : k.min ≤ 0 := by cases k <;> simp [IntKind.min, IntKind.signed, IntKind.bits]
      omega
    · cases h
end

/- numbers of several words -/
def numL : List Ch → Option Nat
  | [] => some 0
  | .n .u64 i :: r => match numL r with | some m => some (i.toNat + 18446744073709551616 * m) | none => none
  | .v (.int .u64 i) :: r => match numL r with | some m => some (i.toNat + 18446744073709551616 * m) | none => none
  | _ => none
theorem wordN_succ (x i : Nat) : wordN x (i + 1) = wordN (x / 2 ^ 64) i := by
  unfold wordN
  rw [Nat.div_div_eq_div_mul, ← Nat.pow_add, show 64 * (i + 1) = 64 + 64 * i by omega]
theorem words_succ (k x : Nat) : words (k + 1) x = .int .u64 (wordN x 0) :: words k (x / 2 ^ 64) := by
  unfold words
  rw [List.range_succ_eq_map, List.map_cons, List.map_map]
  refine congrArg (_ :: ·) (List.map_congr_left fun i _ => ?_)
  show Value.int .u64 (wordN x (i + 1)) = _
  rw [wordN_succ]
theorem numL_rel {β : Env} : ∀ {cs : List Ch} {l : List Value} {x : Nat}, numL cs = some x → relL β cs l → l = words cs.length x ∧ x < 2 ^ (64 * cs.length)
  | [], l, x, h, hl => by
    simp only [numL, Option.some.injEq] at h
    simp only [relL] at hl
    subst h; subst hl
    exact ⟨rfl, by simp⟩
  | c :: cs, l, x, h, hl => by
    obtain ⟨l1, l2, h1, h2, h3⟩ := hl
    have step : ∀ (i : Int) (m : Nat), l1 = [.int .u64 i] → has .u64 i → numL cs = some m → x = i.toNat + 18446744073709551616 * m → l = words (c :: cs).length x ∧ x < 2 ^ (64 * (c :: cs).length) := by
      intro i m e1 e2 e3 e4
      obtain ⟨j1, j2⟩ := numL_rel e3 h2
      have hi := (has_iff _ _).1 e2
      simp only [hasB, Bool.and_eq_true, decide_eq_true_eq] at hi
      have ex : x % 2 ^ 64 = i.toNat := by rw [e4]; omega
      have ed : x / 2 ^ 64 = m := by rw [e4]; omega
      constructor
      · rw [h3, e1, List.length_cons, words_succ, ed, ← j1]
        simp only [List.singleton_append, List.cons.injEq, and_true, Value.int.injEq, true_and]
        simp only [wordN, Nat.mul_zero, Nat.pow_zero, Nat.div_one, ex]
        omega
      · rw [List.length_cons, Nat.mul_add, Nat.pow_add]
        have : x / 2 ^ 64 < 2 ^ (64 * cs.length) := by rw [ed]; exact j2
        exact (Nat.div_lt_iff_lt_mul (by decide)).1 this
    unfold numL at h
    split at h
    · rename_i he; cases he
    · rename_i i r he
      injection he with he1 he2; subst he1 he2
      split at h
      · rename_i m hm
        injection h with h
        exact step i m h1.1 h1.2 hm h.symm
      · cases h
    · rename_i i r he
      injection he with he1 he2; subst he1 he2
      split at h
      · rename_i m hm
        injection h with h
        exact step i m h1.1 h1.2.2 hm h.symm
      · cases h
    · cases h

/-- A value as a number of k words. -/
def asNum (k : Nat) : List Ch → Option Nat
  | [.num k' x] => match Nat.beq k k' with | true => some x | false => none
  | cs => match Nat.beq cs.length k with | true => numL cs | false => none
theorem asNum_rel {β : Env} {k x : Nat} {cs : List Ch} {l : List Value} (h : asNum k cs = some x) (hl : relL β cs l) : l = words k x ∧ x < 2 ^ (64 * k) := by
  unfold asNum at h
  split at h
  · split at h
    · rename_i hk
      injection h with h; subst h
      have := nbeq.1 hk; subst this
      obtain ⟨l1, l2, h1, h2, h3⟩ := hl
      simp only [relL] at h2; subst h2
      rw [h3, List.append_nil]
      exact ⟨h1.2, h1.1⟩
    · cases h
  · split at h
    · rename_i hk
      have := nbeq.1 hk; subst this
      exact numL_rel h hl
    · cases h

theorem words_inj {k x y : Nat} (hx : x < 2 ^ (64 * k)) (hy : y < 2 ^ (64 * k)) (h : words k x = words k y) : x = y := by
  induction k generalizing x y with
  | zero => simp at hx hy; omega
  | succ k ih =>
    rw [words_succ, words_succ] at h
    injection h with h1 h2
    injection h1 with _ h1
    have hx' : x / 2 ^ 64 < 2 ^ (64 * k) := by
      rw [Nat.div_lt_iff_lt_mul (by decide), ← Nat.pow_add]; exact hx
    have hy' : y / 2 ^ 64 < 2 ^ (64 * k) := by
      rw [Nat.div_lt_iff_lt_mul (by decide), ← Nat.pow_add]; exact hy
    have e := ih hx' hy' h2
    simp only [wordN, Nat.mul_zero, Nat.pow_zero, Nat.div_one] at h1
    omega

/- comparing lists of cells -/
def eqv : List Value → List Value → Bool
  | [], [] => true
  | .int _ a :: r, .int _ b :: s => decide (a = b) && eqv r s
  | .bool a :: r, .bool b :: s => (a == b) && eqv r s
  | _, _ => false
theorem eqv_append : ∀ {a a' b b' : List Value}, a.length = a'.length → eqv (a ++ b) (a' ++ b') = (eqv a a' && eqv b b')
  | [], [], _, _, _ => by simp [eqv]
  | [], _ :: _, _, _, h => by simp at h
  | _ :: _, [], _, _, h => by simp at h
  | x :: a, y :: a', b, b', h => by
    have ih := eqv_append (a := a) (a' := a') (b := b) (b' := b') (by simpa using h)
    cases x <;> cases y <;> simp [eqv, ih, Bool.and_assoc]
theorem eqv_words {k x y : Nat} (hx : x < 2 ^ (64 * k)) (hy : y < 2 ^ (64 * k)) : eqv (words k x) (words k y) = decide (x = y) := by
  have gen : ∀ (is : List Nat), eqv (is.map fun i => Value.int .u64 (wordN x i)) (is.map fun i => Value.int .u64 (wordN y i)) = true ↔ (is.map fun i => Value.int .u64 (wordN x i)) = (is.map fun i => Value.int .u64 (wordN y i)) := by
    intro is
    induction is with
    | nil => simp [eqv]
    | cons i is ih =>
      rw [List.map_cons, List.map_cons, eqv, Bool.and_eq_true, decide_eq_true_eq, ih, List.cons.injEq, Value.int.injEq]
      simp
  have e : eqv (words k x) (words k y) = true ↔ words k x = words k y := gen _
  rw [Bool.eq_iff_iff, e, decide_eq_true_eq]
  exact ⟨words_inj hx hy, fun h => by rw [h]⟩

def andS (x : Bool) (rest : Option Bool) (last : Bool) : Option Bool := match last with
  | true => some x
  | false => match rest with | some y => some (x && y) | none => none
def nilB {α : Type} : List α → Bool | [] => true | _ => false
def eqL : Nat → List Ch → List Ch → Option Bool
  | 0, _, _ => none
  | f + 1, a, b => match a, b with
    | [], [] => some true
    | .num k x :: r, .num k' y :: s => match Nat.beq k k' with
      | true => andS (decide (x = y)) (eqL f r s) (nilB r && nilB s)
      | false => none
    | .num k x :: r, s => match splitCh s k with
      | some (m, s') => match asNum k m with
        | some y => andS (decide (x = y)) (eqL f r s') (nilB r && nilB s')
        | none => none
      | none => none
    | r, .num k y :: s => match splitCh r k with
      | some (m, r') => match asNum k m with
        | some x => andS (decide (x = y)) (eqL f r' s) (nilB r' && nilB s)
        | none => none
      | none => none
    | c :: r, d :: s => match asI (some (.val false [c])), asI (some (.val false [d])) with
      | some (_, _, i), some (_, _, j) => andS (decide (i = j)) (eqL f r s) (nilB r && nilB s)
      | _, _ => match asB (some (.val false [c])), asB (some (.val false [d])) with
        | some (_, x), some (_, y) => andS (x == y) (eqL f r s) (nilB r && nilB s)
        | _, _ => none
    | _, _ => none

theorem andS_spec {x e : Bool} {rest : Option Bool} {last y : Bool} (h : andS x rest last = some e) (hr : ∀ z, rest = some z → y = z) (hl : last = true → y = true) : e = (x && y) := by
  cases last with
  | true => simp only [andS, Option.some.injEq] at h; rw [hl rfl, ← h]; simp
  | false =>
    cases rest with
    | none => simp [andS] at h
    | some z => simp only [andS, Option.some.injEq] at h; rw [hr z rfl, ← h]
theorem nilB_spec {α : Type} {l : List α} (h : nilB l = true) : l = [] := by cases l <;> simp_all [nilB]

theorem eqL_sound {β : Env} : ∀ {f : Nat} {a b : List Ch} {l m : List Value} {e : Bool}, eqL f a b = some e → relL β a l → relL β b m → eqv l m = e
  | 0, _, _, _, _, _, h, _, _ => by simp [eqL] at h
  | f + 1, a, b, l, m, e, h, ha, hb => by
    have fin : ∀ {r s : List Ch} {lr ms : List Value} {x : Bool} {l1 m1 : List Value}, relL β r lr → relL β s ms → l = l1 ++ lr → m = m1 ++ ms → l1.length = m1.length → eqv l1 m1 = x →
        andS x (eqL f r s) (nilB r && nilB s) = some e → eqv l m = e := by
      intro r s lr ms x l1 m1 hr hs el em hlen hx hand
      rw [el, em, eqv_append hlen, hx]
      refine (andS_spec hand (fun z hz => eqL_sound hz hr hs) (fun hn => ?_)).symm
      simp only [Bool.and_eq_true] at hn
      have h1 := nilB_spec hn.1
      have h2 := nilB_spec hn.2
      subst h1; subst h2
      simp only [relL] at hr hs
      subst hr; subst hs
      rfl
    unfold eqL at h
    split at h
    · injection h with h; subst h
      simp only [relL] at ha hb
      subst ha; subst hb; rfl
    · rename_i k x r k' y s
      split at h
      · rename_i hk
        have := nbeq.1 hk; subst this
        obtain ⟨l1, l2, h1, h2, h3⟩ := ha
        obtain ⟨m1, m2, g1, g2, g3⟩ := hb
        simp only [relC] at h1 g1
        exact fin h2 g2 h3 g3 (by rw [h1.2, g1.2, words_length, words_length]) (by rw [h1.2, g1.2]; exact eqv_words h1.1 g1.1) h
      · cases h
    · rename_i k x r _
      split at h
      · rename_i mm s' hs
        split at h
        · rename_i y hy
          obtain ⟨l1, l2, h1, h2, h3⟩ := ha
          simp only [relC] at h1
          obtain ⟨j1, j2, j3⟩ := split_rel hs hb
          obtain ⟨q1, q2⟩ := asNum_rel hy j1
          exact fin h2 j2 h3 (List.take_append_drop k m).symm (by rw [h1.2, q1, words_length, words_length]) (by rw [h1.2, q1]; exact eqv_words h1.1 q2) h
        · cases h
      · cases h
    · rename_i k y s _
      split at h
      · rename_i mm r' hs
        split at h
        · rename_i x hx
          obtain ⟨m1, m2, g1, g2, g3⟩ := hb
          simp only [relC] at g1
          obtain ⟨j1, j2, j3⟩ := split_rel hs ha
          obtain ⟨q1, q2⟩ := asNum_rel hx j1
          exact fin j2 g2 (List.take_append_drop k l).symm g3 (by rw [g1.2, q1, words_length, words_length]) (by rw [g1.2, q1]; exact eqv_words q2 g1.1) h
        · cases h
      · cases h
    · rename_i c r d s _ _ _
      obtain ⟨l1, l2, h1, h2, h3⟩ := ha
      obtain ⟨m1, m2, g1, g2, g3⟩ := hb
      have one : ∀ {c : Ch} {l1 : List Value}, relC β c l1 → szC c = 1 → ∃ u, l1 = [u] := by
        intro c l1 hc hz
        have := relC_length hc
        rw [hz] at this
        exact List.length_eq_one_iff.1 this
      split at h
      · rename_i c1 k1 i c2 k2 j hi hj
        have z1 : szC c = 1 := by cases c <;> simp [asI] at hi <;> rfl
        have z2 : szC d = 1 := by cases d <;> simp [asI] at hj <;> rfl
        obtain ⟨u, rfl⟩ := one h1 z1
        obtain ⟨v, rfl⟩ := one g1 z2
        obtain ⟨rfl, _⟩ := asI_rel (β := β) (u := u) (fun A hA => by injection hA with hA; subst hA; exact rel_one' h1) hi
        obtain ⟨rfl, _⟩ := asI_rel (β := β) (u := v) (fun A hA => by injection hA with hA; subst hA; exact rel_one' g1) hj
        exact fin h2 g2 h3 g3 rfl (by simp [eqv]) h
      · split at h
        · rename_i c1 x c2 y hi hj
          have z1 : szC c = 1 := by cases c <;> simp [asB] at hi <;> rfl
          have z2 : szC d = 1 := by cases d <;> simp [asB] at hj <;> rfl
          obtain ⟨u, rfl⟩ := one h1 z1
          obtain ⟨v, rfl⟩ := one g1 z2
          have e1 := asB_rel (β := β) (u := u) (fun A hA => by injection hA with hA; subst hA; exact rel_one' h1) hi
          have e2 := asB_rel (β := β) (u := v) (fun A hA => by injection hA with hA; subst hA; exact rel_one' g1) hj
          subst e1; subst e2
          exact fin h2 g2 h3 g3 rfl (by simp [eqv]) h
        · cases h
    · cases h
end Go.Proofs.Ytoemaicabljpfaa.Ex
