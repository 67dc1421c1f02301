/- What the laws' arguments are; the frame of the laws' proofs. -/
import Derived.Test.YtoemaicabljpfaaRows
import Derived.Test.YtoemaicabljpfaaFa
import Derived.Test.YtoemaicabljpfaaFb
import Derived.Test.YtoemaicabljpfaaExQ
namespace Go.Proofs.Ytoemaicabljpfaa
open Ex
open Go.RowKit (Below)
set_option maxRecDepth 100000

theorem own : ownKnob Try.prog.godebug = none := by kernel_rfl
theorem laidOut : laidOutB Try.prog = true := by kernel_rfl

/- words -/
theorem fitsH_words : ∀ {k : Nat} {l : List Value}, fitsH (List.replicate k (some .u64)) l → ∃ x, x < 2 ^ (64 * k) ∧ l = words k x
  | 0, [], _ => ⟨0, by simp, rfl⟩
  | 0, _ :: _, h => by cases h
  | k + 1, [], h => by cases h
  | k + 1, v :: r, h => by
    rw [List.replicate_succ] at h
    cases v <;> simp only [fitsH] at h
    rename_i k' i
    obtain ⟨rfl, hi, h⟩ := h
    obtain ⟨x, hx, rfl⟩ := fitsH_words h
    have hb := u64_bounds hi
    refine ⟨i.toNat + 2 ^ 64 * x, ?_, ?_⟩
    · rw [show 64 * (k + 1) = 64 + 64 * k by omega, Nat.pow_add]
      generalize 2 ^ (64 * k) = Q at *
      have := Nat.mul_le_mul_left (2 ^ 64) (show x + 1 ≤ Q by omega)
      omega
    · unfold words
      rw [List.range_succ_eq_map, List.map_cons, List.map_map]
      congr 1
      · congr 1
        simp only [wordN, Nat.mul_zero, Nat.pow_zero, Nat.div_one]
        omega
      · refine List.map_congr_left fun j _ => ?_
        simp only [Function.comp]
        congr 1
        rw [wordN_succ]
        congr 1
        omega
theorem fp_num {v : Value} (h : Plain true (List.replicate 6 (some .u64)) v) : ∃ x, x < RR ∧ relA noEnv (.val true [.num 6 x]) v := by
  obtain ⟨l, rfl, hl⟩ := h
  obtain ⟨x, hx, rfl⟩ := fitsH_words hl
  exact ⟨x, by rw [RR_eq]; exact hx, _, relL_num hx, rfl⟩
theorem shp_fp : shp Try.prog 20 24 = some (List.replicate 6 (some .u64)) := by kernel_rfl
theorem agg_fp : isAggT Try.prog 24 = true := by kernel_rfl
theorem under_bool : Try.prog.underlying 4 = some .bool := by kernel_rfl

theorem args0 {ts : List TypeId} {H : Type} {enc : TypeId × Value → H} {W : World} {us : List Value} {ds : List (DataW H)} {ps : List MemPlace} (hA : DataW.TrodAll enc Try.prog W 0 (fun _ => true) true ts us ds ps) (ht : ts = []) : us = [] := by
  subst ht
  cases us with
  | nil => rfl
  | cons => cases ds <;> cases hA
/-- A contract without memory, as a walk. -/
theorem walk_of {f : FuncId} {fn : Func} (h : ∀ (H : Type) (enc : TypeId × Value → H) (us : List Value) (W : World) (base : Nat) (ds : List (DataW H)) (ps : List MemPlace), (∀ (j : Nat) t v, fn.params[j]? = some t → us[j]? = some v → Value.okWide Try.prog W .any base t v) →
    DataW.TrodAll enc Try.prog W 0 (fun _ => true) true fn.params.toList us ds ps → ∃ args, relAs noEnv args us ∧ PureOk Try.prog f args (.val false [.b true])) : LawWalk Try.prog f fn := by
  intro H enc us W base ds ps hv hA _ _
  obtain ⟨args, ha, hp⟩ := h H enc us W base ds ps hv hA
  refine (hp us W ha).mono ?_
  rintro e w' ⟨u, rfl, ⟨l1, l2, h1, h3, h4⟩, hb⟩
  refine ⟨?_, hb⟩
  simp only [relC] at h1
  simp only [relL] at h3
  subst h1; subst h3
  injection h4 with h4
  rw [h4]
/-- The values that came in, one by one. -/
theorem args_cons {H : Type} {enc : TypeId × Value → H} {W : World} {t : TypeId} {ts : List TypeId} {us : List Value} {ds : List (DataW H)} {ps : List MemPlace} (hA : DataW.TrodAll enc Try.prog W 0 (fun _ => true) true (t :: ts) us ds ps) :
    ∃ v us' d ds' p q, us = v :: us' ∧ ds = d :: ds' ∧ DataW.Trod enc Try.prog W 0 (fun _ => true) true t v d p ∧ DataW.TrodAll enc Try.prog W 0 (fun _ => true) true ts us' ds' q := by
  cases us with
  | nil => cases ds <;> cases hA
  | cons v us' => cases ds with
    | nil => cases hA
    | cons d ds' =>
      obtain ⟨p, q, h1, h2, _⟩ := hA
      exact ⟨v, us', d, ds', p, q, rfl, rfl, h1, h2⟩
/-- Laws of numbers of Fp alone. -/
theorem fps_walk {f : FuncId} {fn : Func} : ∀ {n : Nat}, fn.params.toList = List.replicate n 24 → (∀ xs : List Nat, xs.length = n → (∀ x ∈ xs, x < RR) → PureOk Try.prog f (xs.map fun x => .val true [.num 6 x]) (.val false [.b true])) → LawWalk Try.prog f fn := by
  intro n hp h
  refine walk_of fun H enc us W base ds ps hv hA => ?_
  rw [hp] at hA
  have gen : ∀ (n : Nat) (us : List Value) (ds : List (DataW H)) (ps : List MemPlace), (∀ (j : Nat) v, j < n → us[j]? = some v → Value.okWide Try.prog W .any base 24 v) → DataW.TrodAll enc Try.prog W 0 (fun _ => true) true (List.replicate n 24) us ds ps →
      ∃ xs : List Nat, xs.length = n ∧ (∀ x ∈ xs, x < RR) ∧ relAs noEnv (xs.map fun x => .val true [.num 6 x]) us := by
    intro n
    induction n with
    | zero => intro us ds ps _ hA; obtain rfl := args0 hA rfl; exact ⟨[], rfl, by simp, rfl⟩
    | succ n ih =>
      intro us ds ps hv hA
      rw [List.replicate_succ] at hA
      obtain ⟨v, us', d, ds', p, q, rfl, rfl, h1, h2⟩ := args_cons hA
      obtain ⟨x, hx, hr⟩ := fp_num (plain_of shp_fp agg_fp (hv 0 v (by omega) rfl) h1)
      obtain ⟨xs, q1, q2, q3⟩ := ih us' ds' q (fun j v hj hv' => hv (j + 1) v (by omega) (by simpa using hv')) h2
      exact ⟨x :: xs, by simp [q1], by simpa using ⟨hx, q2⟩, v, us', hr, q3, rfl⟩
  obtain ⟨xs, q1, q2, q3⟩ := gen n us ds ps (fun j v hj hv' => hv j _ v (by rw [← Array.getElem?_toList, hp, List.getElem?_replicate, if_pos hj]) hv') hA
  exact ⟨_, q3, h xs q1 q2⟩
theorem len2 {α : Type} {l : List α} (h : l.length = 2) : ∃ a b, l = [a, b] := by
  match l, h with
  | [a, b], _ => exact ⟨a, b, rfl⟩
theorem len3 {α : Type} {l : List α} (h : l.length = 3) : ∃ a b c, l = [a, b, c] := by
  match l, h with
  | [a, b, c], _ => exact ⟨a, b, c, rfl⟩
theorem len4 {α : Type} {l : List α} (h : l.length = 4) : ∃ a b c d, l = [a, b, c, d] := by
  match l, h with
  | [a, b, c, d], _ => exact ⟨a, b, c, d, rfl⟩
end Go.Proofs.Ytoemaicabljpfaa
