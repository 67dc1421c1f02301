/- Numbers of any words; memory handed over; the contract of the step of fp.reduced. -/
import Derived.Test.YtoemaicabljpfaaFd
import Derived.Test.YtoemaicabljpfaaExP
namespace Go.Proofs.Ytoemaicabljpfaa
open Ex
set_option maxRecDepth 100000

def sumL : List Int → Int
  | [] => 0
  | d :: r => d + 18446744073709551616 * sumL r
theorem sumL_digits : ∀ (k x : Nat), x < 2 ^ (64 * k) → sumL ((List.range k).map (wordN x)) = x
  | 0, x, h => by simp only [Nat.mul_zero, Nat.pow_zero] at h; simp [sumL]; omega
  | k + 1, x, h => by
    have hq : x / 2 ^ 64 < 2 ^ (64 * k) := by
      apply Nat.div_lt_of_lt_mul
      rw [← Nat.pow_add]
      rwa [show 64 + 64 * k = 64 * (k + 1) by omega]
    have ih := sumL_digits k (x / 2 ^ 64) hq
    rw [List.range_succ_eq_map, List.map_cons, List.map_map]
    have e : (wordN x ∘ Nat.succ) = wordN (x / 2 ^ 64) := by funext i; simp [Function.comp, wordN_succ]
    rw [e]
    show wordN x 0 + 18446744073709551616 * sumL _ = _
    rw [ih, ← word_step]
theorem sumL_of : ∀ (ds : List Int) (y : Nat), (∀ d ∈ ds, 0 ≤ d ∧ d < 18446744073709551616) → (y : Int) = sumL ds → ds = (List.range ds.length).map (wordN y) ∧ y < 2 ^ (64 * ds.length)
  | [], y, _, h => by simp only [sumL] at h; simp; omega
  | d :: ds, y, hb, h => by
    have hd := hb d (by simp)
    have hs := word_step y
    have hw := word_bd y 0
    simp only [sumL] at h
    have e1 : d = wordN y 0 := by omega
    have e2 : ((y / 2 ^ 64 : Nat) : Int) = sumL ds := by omega
    obtain ⟨i1, i2⟩ := sumL_of ds _ (fun d h => hb d (by simp [h])) e2
    refine ⟨?_, ?_⟩
    · rw [List.length_cons, List.range_succ_eq_map, List.map_cons, List.map_map]
      have e : (wordN y ∘ Nat.succ) = wordN (y / 2 ^ 64) := by funext i; simp [Function.comp, wordN_succ]
      rw [e, ← i1, ← e1]
    · rw [List.length_cons, show 64 * (ds.length + 1) = 64 + 64 * ds.length by omega, Nat.pow_add]
      have := Nat.lt_mul_div_succ y (show 0 < 2 ^ 64 by decide)
      have h2 : y / 2 ^ 64 + 1 ≤ 2 ^ (64 * ds.length) := i2
      exact Nat.lt_of_lt_of_le this (Nat.mul_le_mul_left _ h2)
def wsCh (ds : List Int) : List Ch := ds.map fun d => .v (.int .u64 d)
theorem wsCh_rel {β : Env} : ∀ {ds : List Int} {l : List Value}, relL β (wsCh ds) l → l = ds.map (.int .u64) ∧ ∀ d ∈ ds, has .u64 d
  | [], l, h => by simp [wsCh, relL] at h; simp [h]
  | d :: ds, l, ⟨l1, l2, ⟨h1, h1'⟩, h2, h3⟩ => by
    obtain ⟨i1, i2⟩ := wsCh_rel h2
    subst h1; subst i1; subst h3
    refine ⟨rfl, fun x hx => ?_⟩
    rcases List.mem_cons.1 hx with rfl | hx
    · exact h1'.2
    · exact i2 x hx
/-- Words that are a number's. -/
theorem num_of_ws {β β' : Env} {ds : List Int} {l : List Value} {y : Nat} (h : (y : Int) = sumL ds) (hr : relL β (wsCh ds) l) : relL β' [.num ds.length y] l := by
  obtain ⟨h1, h2⟩ := wsCh_rel hr
  obtain ⟨h3, h4⟩ := sumL_of ds y (fun d hd => u64_bounds (h2 d hd)) h
  have : l = words ds.length y := by
    rw [h1, words]
    conv => lhs; rw [h3]
    simp [List.map_map, Function.comp]
  rw [this]
  exact relL_num h4
theorem num_any {β β' : Env} {k x : Nat} {a : List Ch} {l : List Value} (h : asNum k a = some x) (hr : relL β a l) : relL β' [.num k x] l := by
  obtain ⟨h2, h3⟩ := asNum_rel h hr
  subst h2
  exact relL_num h3

/- memory handed over -/
theorem inEnv_at {β : Env} {ρ : List Nat} {k0 j : Nat} (h : j < k0) : inEnv β ρ k0 j = β (nth ρ j) := by simp [inEnv, nblt.2 h]
theorem relB_def {β : Env} {b : Blk} {k : Nat} {w : World} (h : relB β b k w) : ∃ X, β k = some X := by
  rcases h with ⟨B, n, _, _, h, _⟩ | ⟨h, _⟩ <;> exact ⟨_, h⟩
theorem relB_in {β β' : Env} {b : Blk} {k j : Nat} {c : List Ch} {w : World} (h : relB β b k w) (he : β' j = β k) (hc : ∀ l, relL β b.cs l → relL β' c l) : relB β' ⟨b.ty, c, b.opn⟩ j w := by
  rcases h with ⟨B, n, l, t, h1, h2, h3, h4, h5⟩ | ⟨h1, h2, h3⟩
  · exact .inl ⟨B, n, l, t, by rw [he]; exact h1, hc _ h2, h3, h4, h5⟩
  · exact .inr ⟨by rw [he]; exact h1, h2, hc _ h3⟩
theorem good1 {β : Env} {H : Heap} {w : World} {k : Nat} {b : Blk} {c : List Ch} (g : Good β H w) (hk : hget H k = some b) (hc : ∀ l, relL β b.cs l → relL (inEnv β [k] 1) c l) : Good (inEnv β [k] 1) [(0, some ⟨b.ty, c, b.opn⟩)] w := by
  refine ⟨fun j blk hj => ?_, fun j j' B n n' h1 h2 h3 h4 => ?_, fun j B n hj => ?_⟩
  · cases j with
    | zero => simp [hget] at hj; subst hj; exact relB_in (g.heap k b hk) rfl hc
    | succ j => simp [hget, Nat.beq] at hj
  · cases j with
    | zero => cases j' with
      | zero => rfl
      | succ j => simp [hget, Nat.beq] at h2
    | succ j => simp [hget, Nat.beq] at h1
  · unfold inEnv at hj
    split at hj
    · exact g.lt _ _ _ hj
    · cases hj
theorem good2 {β : Env} {H : Heap} {w : World} {k t : Nat} {b d : Blk} {c e : List Ch} (g : Good β H w) (hk : hget H k = some b) (ht : hget H t = some d) (hne : k ≠ t)
    (hc : ∀ l, relL β b.cs l → relL (inEnv β [k, t] 2) c l) (he : ∀ l, relL β d.cs l → relL (inEnv β [k, t] 2) e l) : Good (inEnv β [k, t] 2) [(0, some ⟨b.ty, c, b.opn⟩), (1, some ⟨d.ty, e, d.opn⟩)] w := by
  refine ⟨fun j blk hj => ?_, fun j j' B n n' h1 h2 h3 h4 => ?_, fun j B n hj => ?_⟩
  · match j with
    | 0 => simp [hget] at hj; subst hj; exact relB_in (g.heap k b hk) rfl hc
    | 1 => simp [hget] at hj; subst hj; exact relB_in (g.heap t d ht) rfl he
    | j + 2 => simp [hget, Nat.beq] at hj
  · match j, j' with
    | 0, 0 => rfl
    | 1, 1 => rfl
    | 0, 1 => exact absurd (g.inj k t B n n' (by rw [hk]; rfl) (by rw [ht]; rfl) h3 h4) hne
    | 1, 0 => exact absurd (g.inj k t B n' n (by rw [hk]; rfl) (by rw [ht]; rfl) h4 h3) hne
    | _ + 2, _ => simp [hget, Nat.beq] at h1
    | _, _ + 2 => simp [hget, Nat.beq] at h2
  · unfold inEnv at hj
    split at hj
    · exact g.lt _ _ _ hj
    · cases hj
/-- A block told otherwise. -/
theorem outs_block1 {β0 : Env} {w0 : World} {W : List Nat} {v : AV} {j : Nat} {ty : TypeId} {o : Bool} {c c' : List Ch} (hc : ∀ (β : Env) l, relL β c l → relL β c' l) {e : Ending} {w : World} (h : Outs β0 w0 W v [(j, some ⟨ty, c, o⟩)] e w) : Outs β0 w0 W v [(j, some ⟨ty, c', o⟩)] e w := by
  obtain ⟨u, β, h1, h2⟩ := h
  have hg : ∀ b blk, hget [(j, some (⟨ty, c', o⟩ : Blk))] b = some blk → b = j ∧ blk = ⟨ty, c', o⟩ ∧ hget [(j, some (⟨ty, c, o⟩ : Blk))] b = some ⟨ty, c, o⟩ := by
    intro b blk hb
    simp only [hget] at hb ⊢
    split at hb
    · rename_i hbj
      injection hb with hb
      exact ⟨(nbeq.1 hbj).symm, hb.symm, rfl⟩
    · cases hb
  refine ⟨u, β, h1, { h2 with good := ⟨fun b blk hb => ?_, fun b b' B n n' q1 q2 q3 q4 => ?_, h2.good.lt⟩ }⟩
  · obtain ⟨e1, e2, e3⟩ := hg b blk hb
    subst e2
    exact relB_in (h2.good.heap b _ e3) rfl (hc β)
  · obtain ⟨x, hx⟩ := Option.isSome_iff_exists.1 q1
    obtain ⟨y, hy⟩ := Option.isSome_iff_exists.1 q2
    rw [(hg b x hx).1, (hg b' y hy).1]

/- the step -/
def stC (x : Int) (y T : Nat) : Nat → Int
  | 0 => 0
  | i + 1 => mW (mW (mulHi x (wordN y i) + carW (mulLo x (wordN y i)) (stC x y T i) 0) + carW (wordN T i) (sumW (mulLo x (wordN y i)) (stC x y T i) 0) 0)
def stT (x : Int) (y T i : Nat) : Int := sumW (wordN T i) (sumW (mulLo x (wordN y i)) (stC x y T i) 0) 0
def stT6 (x : Int) (y T : Nat) : Int := sumW (wordN T 6) (stC x y T 6) 0
def stT7 (x : Int) (y T : Nat) : Int := mW (wordN T 7 + carW (wordN T 6) (stC x y T 6) 0)
theorem st_word {a T c : Int} (ha : 0 ≤ a ∧ a ≤ 340282366920938463426481119284349108225) (hT : 0 ≤ T ∧ T < 18446744073709551616) (hc : 0 ≤ c ∧ c < 18446744073709551616) :
    a + T + c = sumW T (sumW (a % 18446744073709551616) c 0) 0 + 18446744073709551616 * mW (mW (a / 18446744073709551616 + carW (a % 18446744073709551616) c 0) + carW T (sumW (a % 18446744073709551616) c 0) 0) ∧
    (0 ≤ mW (mW (a / 18446744073709551616 + carW (a % 18446744073709551616) c 0) + carW T (sumW (a % 18446744073709551616) c 0) 0) ∧ mW (mW (a / 18446744073709551616 + carW (a % 18446744073709551616) c 0) + carW T (sumW (a % 18446744073709551616) c 0) 0) < 18446744073709551616) := by
  simp only [mW_eq]
  unfold sumW carW
  omega
theorem mul_bd {x y : Int} (hx : 0 ≤ x ∧ x < 18446744073709551616) (hy : 0 ≤ y ∧ y < 18446744073709551616) : 0 ≤ x * y ∧ x * y ≤ 340282366920938463426481119284349108225 := by
  refine ⟨Int.mul_nonneg hx.1 hy.1, ?_⟩
  have := Int.mul_le_mul (show x ≤ 18446744073709551615 by omega) (show y ≤ 18446744073709551615 by omega) hy.1 (by decide)
  omega
theorem stC_bd {x : Int} (hx : 0 ≤ x ∧ x < 18446744073709551616) (y T : Nat) : ∀ i, 0 ≤ stC x y T i ∧ stC x y T i < 18446744073709551616
  | 0 => by simp [stC]
  | i + 1 => (st_word (mul_bd hx (word_bd y i)) (word_bd T i) (stC_bd hx y T i)).2
theorem st_eq {x : Int} (hx : 0 ≤ x ∧ x < 18446744073709551616) (y T i : Nat) : x * wordN y i + wordN T i + stC x y T i = stT x y T i + 18446744073709551616 * stC x y T (i + 1) :=
  (st_word (mul_bd hx (word_bd y i)) (word_bd T i) (stC_bd hx y T i)).1
def R8 : Nat := 13407807929942597099574024998205846127479365820592393377723561443721764030073546976801874298166903427690031858186486050853753882811946569946433649006084096
theorem R8_eq : R8 = 2 ^ (64 * 8) := by kernel_rfl
def stepN (T : Nat) (x : Int) (y : Nat) : Nat := (T + x.toNat * y) % R8
def stL0 (x : Int) (y T : Nat) : List Int := [stT x y T 0, stT x y T 1, stT x y T 2, stT x y T 3, stT x y T 4, stT x y T 5, stT6 x y T, stT7 x y T]
def stL1 (x : Int) (y T : Nat) : List Int := [stT x y T 1, stT x y T 2, stT x y T 3, stT x y T 4, stT x y T 5, stT6 x y T, stT7 x y T, 0]
theorem step_num {x : Int} (hx : 0 ≤ x ∧ x < 18446744073709551616) {y T : Nat} (hy : y < RR) (hT : T < R8) :
    ((stepN T x y : Nat) : Int) = sumL (stL0 x y T) ∧ ((stepN T x y / 18446744073709551616 : Nat) : Int) = sumL (stL1 x y T) := by
  have e0 : x * wordN y 0 + wordN T 0 + stC x y T 0 = stT x y T 0 + 18446744073709551616 * stC x y T 1 := st_eq hx y T 0
  have e1 : x * wordN y 1 + wordN T 1 + stC x y T 1 = stT x y T 1 + 18446744073709551616 * stC x y T 2 := st_eq hx y T 1
  have e2 : x * wordN y 2 + wordN T 2 + stC x y T 2 = stT x y T 2 + 18446744073709551616 * stC x y T 3 := st_eq hx y T 2
  have e3 : x * wordN y 3 + wordN T 3 + stC x y T 3 = stT x y T 3 + 18446744073709551616 * stC x y T 4 := st_eq hx y T 3
  have e4 : x * wordN y 4 + wordN T 4 + stC x y T 4 = stT x y T 4 + 18446744073709551616 * stC x y T 5 := st_eq hx y T 4
  have e5 : x * wordN y 5 + wordN T 5 + stC x y T 5 = stT x y T 5 + 18446744073709551616 * stC x y T 6 := st_eq hx y T 5
  have z : stC x y T 0 = 0 := rfl
  have c6 := stC_bd hx y T 6
  have t6 := word_bd T 6
  have t7 := word_bd T 7
  have e6 : wordN T 6 + stC x y T 6 = stT6 x y T + 18446744073709551616 * carW (wordN T 6) (stC x y T 6) 0 := by unfold stT6 sumW carW; omega
  have b0 : 0 ≤ stT x y T 0 ∧ stT x y T 0 < 18446744073709551616 := by unfold stT sumW; omega
  have b1 : 0 ≤ stT x y T 1 ∧ stT x y T 1 < 18446744073709551616 := by unfold stT sumW; omega
  have b2 : 0 ≤ stT x y T 2 ∧ stT x y T 2 < 18446744073709551616 := by unfold stT sumW; omega
  have b3 : 0 ≤ stT x y T 3 ∧ stT x y T 3 < 18446744073709551616 := by unfold stT sumW; omega
  have b4 : 0 ≤ stT x y T 4 ∧ stT x y T 4 < 18446744073709551616 := by unfold stT sumW; omega
  have b5 : 0 ≤ stT x y T 5 ∧ stT x y T 5 < 18446744073709551616 := by unfold stT sumW; omega
  have b6 : 0 ≤ stT6 x y T ∧ stT6 x y T < 18446744073709551616 := by unfold stT6 sumW; omega
  have e7 : stT7 x y T = (wordN T 7 + carW (wordN T 6) (stC x y T 6) 0) % 18446744073709551616 := mW_eq _
  have dT := sumL_digits 8 T (by rw [← R8_eq]; exact hT)
  have dy := sumL_digits 6 y (by rw [← RR_eq]; exact hy)
  have dT' : sumL [wordN T 0, wordN T 1, wordN T 2, wordN T 3, wordN T 4, wordN T 5, wordN T 6, wordN T 7] = T := dT
  have dy' : sumL [wordN y 0, wordN y 1, wordN y 2, wordN y 3, wordN y 4, wordN y 5] = y := dy
  have em : x * (y : Int) = sumL [x * wordN y 0, x * wordN y 1, x * wordN y 2, x * wordN y 3, x * wordN y 4, x * wordN y 5] := by
    rw [← dy']
    simp only [sumL, Int.mul_add, Int.mul_zero, Int.mul_left_comm x 18446744073709551616]
  have key : ((T + x.toNat * y : Nat) : Int) = sumL (stL0 x y T) + (R8 : Nat) * ((wordN T 7 + carW (wordN T 6) (stC x y T 6) 0) / 18446744073709551616) := by
    have : ((x.toNat * y : Nat) : Int) = x * y := by rw [Int.natCast_mul, Int.toNat_of_nonneg hx.1]
    rw [Int.natCast_add, this, em, ← dT']
    clear em this dT dy dT' dy'
    generalize x * wordN y 0 = q0 at *
    generalize x * wordN y 1 = q1 at *
    generalize x * wordN y 2 = q2 at *
    generalize x * wordN y 3 = q3 at *
    generalize x * wordN y 4 = q4 at *
    generalize x * wordN y 5 = q5 at *
    generalize carW (wordN T 6) (stC x y T 6) 0 = o at *
    unfold stL0 R8
    simp only [sumL]
    omega
  have hbd : 0 ≤ sumL (stL0 x y T) ∧ sumL (stL0 x y T) < (R8 : Nat) := by
    have b7 : 0 ≤ stT7 x y T ∧ stT7 x y T < 18446744073709551616 := by omega
    clear key em dT dy dT' dy' e0 e1 e2 e3 e4 e5 e6 e7
    unfold stL0 R8
    simp only [sumL]
    omega
  have h0 : ((stepN T x y : Nat) : Int) = sumL (stL0 x y T) := by
    unfold stepN
    rw [Int.natCast_emod, key, Int.add_mul_emod_self_left, Int.emod_eq_of_lt hbd.1 hbd.2]
  refine ⟨h0, ?_⟩
  rw [Int.natCast_ediv, h0]
  have : sumL (stL0 x y T) = stT x y T 0 + 18446744073709551616 * sumL (stL1 x y T) := by
    unfold stL0 stL1
    simp only [sumL]
    omega
  omega

def stepH (y T : Nat) : Heap := [(0, some ⟨24, [.num 6 y], false⟩), (1, some ⟨94, [.num 8 T], false⟩)]
def stepA (x s : Int) : List AV := [.val false [.v (.int .u64 x)], .val false [.p 0 0], .val false [.n .i64 s], .val false [.p 1 0]]
def allT : Nat → List (Bool × Bool)
  | 0 => []
  | n + 1 => (true, true) :: allT n
theorem allT_ok : ∀ n, okConds (allT n)
  | 0 => trivial
  | n + 1 => ⟨rfl, allT_ok n⟩
theorem step_run0 (x : Int) (y T : Nat) : segOut Try.prog (orc S5 K0) Try.f110 600 2 [1] (entry Try.f110 (stepA x 0) (stepH y T) 2 []) =
  some (allT 15, [1], .tup [], [(1, some ⟨94, wsCh (stL0 x y T), false⟩)]) := by kernel_rfl
def nv : Ch → Ch
  | .n k i => .v (.int k i)
  | c => c
theorem relC_nv {β : Env} {c : Ch} {l : List Value} (h : relC β c l) : relC β (nv c) l := by
  cases c <;> try exact h
  exact ⟨h.1, rfl, h.2⟩
theorem relL_nv {β : Env} : ∀ {cs : List Ch} {l : List Value}, relL β cs l → relL β (cs.map nv) l
  | [], _, h => h
  | _ :: _, _, ⟨l1, l2, h1, h2, h3⟩ => ⟨l1, l2, relC_nv h1, relL_nv h2, h3⟩
def stW1 (x : Int) (y T : Nat) : List Ch := [.v (.int .u64 (stT x y T 1)), .v (.int .u64 (stT x y T 2)), .v (.int .u64 (stT x y T 3)), .v (.int .u64 (stT x y T 4)), .v (.int .u64 (stT x y T 5)), .v (.int .u64 (stT6 x y T)), .v (.int .u64 (stT7 x y T)), .n .u64 0]
theorem step_run1 (x : Int) (y T : Nat) : segOut Try.prog (orc S5 K0) Try.f110 600 2 [1] (entry Try.f110 (stepA x 1) (stepH y T) 2 []) =
  some (allT 15, [1], .tup [], [(1, some ⟨94, stW1 x y T, false⟩)]) := by kernel_rfl
theorem stL1_eq (x : Int) (y T : Nat) : wsCh (stL1 x y T) = (stW1 x y T).map nv := rfl
theorem stL0_len (x : Int) (y T : Nat) : (stL0 x y T).length = 8 := rfl

def endH (T : Nat) : Heap := [(1, some ⟨94, [.num 8 T], false⟩)]
theorem step_can {x : Int} (hx : 0 ≤ x ∧ x < 18446744073709551616) {y T : Nat} (hy : y < RR) (hT : T < R8) :
    CanOk Try.prog 110 (stepA x 0) (stepH y T) 2 [1] (.tup []) (endH (stepN T x y)) ∧ CanOk Try.prog 110 (stepA x 1) (stepH y T) 2 [1] (.tup []) (endH (stepN T x y / 18446744073709551616)) := by
  obtain ⟨h0, h1⟩ := step_num hx hy hT
  constructor
  · intro β us w ha hg hf
    have := can_entry Try.func110 (by kernel_rfl) (args0 := stepA x 0) (H0 := stepH y T) (k0 := 2) (path := []) (W := [1]) (by kernel_rfl) (fun β0 w0 hb => out_safe (orc_ok S5ok K0ok) mixed Try.func110 (step_run0 x y T) (allT_ok _) (wfB_ok (by kernel_rfl)) hb (fun _ h => h)) β us w ha hg hf
    exact Calls.mono this fun e w' h => outs_block1 (fun _ _ hr => num_of_ws h0 hr) h
  · intro β us w ha hg hf
    have := can_entry Try.func110 (by kernel_rfl) (args0 := stepA x 1) (H0 := stepH y T) (k0 := 2) (path := []) (W := [1]) (by kernel_rfl) (fun β0 w0 hb => out_safe (orc_ok S5ok K0ok) mixed Try.func110 (step_run1 x y T) (allT_ok _) (wfB_ok (by kernel_rfl)) hb (fun _ h => h)) β us w ha hg hf
    exact Calls.mono this fun e w' h => outs_block1 (fun _ _ hr => num_of_ws (ds := stL1 x y T) h1 (by rw [stL1_eq]; exact relL_nv hr)) h

def stepR (k t fr : Nat) (T : Nat) (path : List Bool) : R := trR [k, t] 2 fr 0 [1] (.tup []) (endH T) [] path
def stepSpec : ASpec := fun args H fr path =>
  match args with
  | [X, .val false [.p k 0], .val false [.n .i64 s], .val false [.p t 0]] => match asI (some X), hget H k, hget H t with
    | some (_, .u64, x), some ⟨ty1, c1, false⟩, some ⟨ty2, c2, false⟩ => match Nat.beq ty1 24, Nat.beq ty2 94, asNum 6 c1, asNum 8 c2, Nat.beq k t with
      | true, true, some y, some T, false => match s with
        | .ofNat 0 => some (stepR k t fr (stepN T x y) path)
        | .ofNat 1 => some (stepR k t fr (stepN T x y / 18446744073709551616) path)
        | _ => none
      | _, _, _, _, _ => none
    | _, _, _ => none
  | _ => none
theorem hget_rel {β : Env} {H : Heap} {w : World} {k : Nat} {b : Blk} (g : Good β H w) (h : hget H k = some b) : ∃ l, relL β b.cs l := by
  rcases g.heap k b h with ⟨_, _, l, _, _, h, _⟩ | ⟨_, _, h⟩
  · exact ⟨l, h⟩
  · exact ⟨_, h⟩
theorem stepSpec_ok : SpecOk Try.prog 110 stepSpec := by
  refine can_spec Try.func110 (by kernel_rfl) (by kernel_rfl) fun args H fr path r h => ?_
  unfold stepSpec at h
  split at h
  case h_2 => cases h
  rename_i X k s t
  split at h
  case h_2 => cases h
  rename_i c0 x ty1 c1 ty2 c2 hX hk ht
  split at h
  case h_2 => cases h
  rename_i y T q1 q2 hy hT hne
  have q1' := nbeq.1 q1
  have q2' := nbeq.1 q2
  subst q1'; subst q2'
  have hne' : k ≠ t := fun e => by subst e; rw [nbeq.2 rfl] at hne; cases hne
  have core : ∀ (v : Nat) (r : R), r = stepR k t fr v path → (∀ (hx : 0 ≤ x ∧ x < 18446744073709551616) (_ : y < RR) (_ : T < R8), CanOk Try.prog 110 (stepA x s) (stepH y T) 2 [1] (.tup []) (endH v)) → ∃ (ρ : List Nat) (args0 : List AV) (H0 : Heap) (k0 nw : Nat) (W : List Nat) (val : AV) (H1 : Heap) (conds : List (Bool × Bool)) (path' : List Bool),
      r = trR ρ k0 fr nw W val H1 conds path' ∧ (∀ β us w, relAs β [X, .val false [.p k 0], .val false [.n .i64 s], .val false [.p t 0]] us → Good β H w → okConds conds → CanOk Try.prog 110 args0 H0 k0 W val H1 ∧ canB k0 nw W val H1 = true ∧ relAs (inEnv β ρ k0) args0 us ∧ Good (inEnv β ρ k0) H0 w ∧ (∀ k, k < k0 → ∃ X, β (nth ρ k) = some X)) := by
    intro v r hr hc
    refine ⟨[k, t], stepA x s, stepH y T, 2, 0, [1], .tup [], endH v, [], path, hr, fun β us w ha hg _ => ?_⟩
    obtain ⟨u1, us1, r1, ⟨u2, us2, r2, ⟨u3, us3, r3, ⟨u4, us4, r4, ha, rfl⟩, rfl⟩, rfl⟩, rfl⟩ := ha
    obtain ⟨rfl, p1⟩ := asI_rel (β := β) (u := u1) (fun A hA => by injection hA with hA; subst hA; exact r1) hX
    obtain ⟨l1, g1⟩ := hget_rel hg hk
    obtain ⟨l2, g2⟩ := hget_rel hg ht
    refine ⟨hc (u64_bounds p1) (by rw [RR_eq]; exact (asNum_rel hy g1).2) (by rw [R8_eq]; exact (asNum_rel hT g2).2), by kernel_rfl, ⟨_, _, rel_one' ⟨rfl, rfl, p1⟩, ⟨u2, _, ?_, ⟨u3, _, ?_, ⟨u4, us4, ?_, ha, rfl⟩, rfl⟩, rfl⟩, rfl⟩, good2 hg hk ht hne' (fun l h => num_any hy h) (fun l h => num_any hT h), fun j hj => ?_⟩
    · exact r2
    · exact r3
    · exact r4
    · match j, hj with
      | 0, _ => exact relB_def (hg.heap _ _ hk)
      | 1, _ => exact relB_def (hg.heap _ _ ht)
  split at h
  · injection h with h
    exact core _ _ h.symm fun a b c => (step_can a b c).1
  · injection h with h
    exact core _ _ h.symm fun a b c => (step_can a b c).2
  · cases h
def S6 : List (FuncId × ASpec) := (110, stepSpec) :: S5
theorem S6ok : SpecsOk Try.prog S6 := ⟨stepSpec_ok, S5ok⟩
end Go.Proofs.Ytoemaicabljpfaa
