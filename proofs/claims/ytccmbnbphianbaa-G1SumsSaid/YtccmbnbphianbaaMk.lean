/- Lists of lists, and of points, that came in. -/
import Derived.Test.YtccmbnbphianbaaPD
import Derived.Test.YtccmbnbphianbaaLy
namespace Go.Proofs.Ytccmbnbphianbaa
open Ex Num
set_option maxRecDepth 100000

theorem add_add (a : Addr) (x y : Nat) : (a.add x).add y = a.add (x + y) := by
  unfold Addr.add
  by_cases hx : x = 0
  · subst hx; simp
  · by_cases hy : y = 0
    · subst hy; simp [hx]
    · simp [hx, hy, Nat.add_assoc]
theorem rows_cells {W : World} {c : Nat} : ∀ (css : List (List Value)) (a : Addr), (∀ cs ∈ css, cs.length = c) → (∀ i, i < css.length → ∀ k, k < c → W.cell? ((a.add (i * c)).add k) = (css.getD i [])[k]?) → ∀ j, j < css.flatten.length → W.cell? (a.add j) = css.flatten[j]?
  | [], a, _, _, j, hj => by simp at hj
  | cs :: r, a, hl, h, j, hj => by
    have hc : cs.length = c := hl cs (List.mem_cons_self ..)
    rw [List.flatten_cons] at hj ⊢
    by_cases q : j < c
    · have := h 0 (by simp) j q
      rw [Nat.zero_mul, add_add, Nat.zero_add] at this
      rw [this, List.getElem?_append_left (by omega)]; rfl
    · have ih := rows_cells r (a.add c) (fun x hx => hl x (List.mem_cons_of_mem _ hx)) (fun i hi k hk => by
        have := h (i + 1) (by simpa using hi) k hk
        rw [add_add a c, show c + i * c = (i + 1) * c by rw [Nat.succ_mul]; omega, this]; rfl) (j - c) (by rw [List.length_append] at hj; omega)
      rw [add_add, show c + (j - c) = j by omega] at ih
      rw [ih, List.getElem?_append_right (by omega), hc]
theorem list_of_cells {W : World} {a : Addr} {c : Array Value} {row : TypeId} {fz : Nat × Nat} (hblk : W.heap[a.block]? = some (.cells c row fz)) (hs : a.spot = none) (ho : a.off ≤ c.size) {l : List Value} (h : ∀ j, j < l.length → W.cell? (a.add j) = l[j]?) :
    c.toList = c.toList.take a.off ++ (l ++ c.toList.drop (a.off + l.length)) ∧ a.off + l.length ≤ c.size := by
  have hget : ∀ i, i < l.length → c[a.off + i]? = l[i]? := by
    intro i hi
    have h1 := h i hi
    have e2 : a.add i = ⟨a.block, a.off + i, none⟩ := by
      unfold Addr.add
      split
      · rename_i h0; subst h0
        cases a; simp only at hs; simp [hs]
      · rfl
    rw [e2] at h1
    simp only [World.cell?, hblk] at h1
    simpa using h1
  have hend : a.off + l.length ≤ c.size := by
    rcases Nat.eq_zero_or_pos l.length with h0 | hp
    · omega
    · have := hget (l.length - 1) (by omega)
      rw [List.getElem?_eq_getElem (by omega)] at this
      have := (Array.getElem?_eq_some_iff.1 this).1
      omega
  refine ⟨?_, hend⟩
  have hmid : (c.toList.drop a.off).take l.length = l := by
    refine List.ext_getElem? fun i => ?_
    by_cases hi : i < l.length
    · rw [List.getElem?_take_of_lt hi, List.getElem?_drop, Array.getElem?_toList, hget i hi]
    · rw [List.getElem?_eq_none (by simp; omega), List.getElem?_eq_none (by omega)]
  conv => lhs; rw [← List.take_append_drop a.off c.toList, ← List.take_append_drop l.length (c.toList.drop a.off), hmid, List.drop_drop]
section
variable {H : Type} {enc : TypeId × Value → H} {W : World} {base : Nat}
/-- A list whose rows are told one by one. -/
theorem rows_arg {t e : TypeId} {c : Nat} {v : Value} {d : DataW H} {p : List MemPlace} (hu : Try.prog.underlying t = some (.slice e)) (hc : Try.prog.cellsOf e = c)
    (hv : Value.okWide Try.prog W .any base t v) (ht : DataW.Trod enc Try.prog W 0 (fun _ => true) true t v d p) :
    ∃ (L : Ex.Loc) (n m : Nat) (css : List (List Value)), css.length = n ∧ n ≤ m ∧ n ≤ maxLen ∧ (∀ B q, L = Ex.Loc.at_ B q → B < W.heap.size) ∧ (∀ cs ∈ css, cs.length = c ∧ ∃ (fuel : Nat) (y : DataW H × List MemPlace), DataW.trod enc Try.prog W 0 (fun _ => true) true fuel e cs = some y) ∧
      ∀ ls : List Ex.Loc, relA (locEnv (ls ++ [L])) (.val false [.sl ls.length 0 n m]) v ∧ ∀ chs l r, css.flatten = l ++ r → relL (locEnv (ls ++ [L])) chs l → relB (locEnv (ls ++ [L])) (roB chs) ls.length W := by
  obtain ⟨fuel, hf⟩ := ht
  obtain ⟨a0, len0, cap0, rfl⟩ := Go.WideShapes.okWide_slice hu hv
  have hcells : (Value.slice a0 len0 cap0).cells = #[Value.slice a0 len0 cap0] := rfl
  rw [hcells] at hf
  rcases DataW.trod_slice hu hf with ⟨hcs, _⟩ | ⟨a, len, cap, elems, rest, k, _, hcs, _, hb, hl, hm, hlen, hel, _, _⟩
  · have e1 : Value.slice a0 len0 cap0 = .slice none 0 0 := by simpa using hcs
    rw [e1]
    refine ⟨.nil, 0, 0, [], rfl, Nat.le_refl _, Nat.zero_le _, (fun B q h => by cases h), (fun cs h => by cases h), fun ls => ⟨?_, fun chs l r e h => .inr ⟨locEnv_last _ _, .inr rfl, by rw [(List.append_eq_nil_iff.1 e.symm).1] at h; exact h⟩⟩⟩
    exact rel_one' (.inr ⟨locEnv_last _ _, rfl, rfl, rfl, rfl⟩)
  · have e1 : Value.slice a0 len0 cap0 = .slice (some a) len cap := by simpa using hcs
    rw [e1] at hv ⊢
    have hk : Cell.ok Try.prog W .any base t (.slice (some a) len cap) := by
      have := hv
      simp only [Value.okWide, hu, Cell.okWide] at this
      exact this
    simp only [Cell.ok, hu] at hk
    obtain ⟨_, _, _, hspot, row, cells, hsh, hlies⟩ := hk
    obtain ⟨C, fz, hblk, hsz⟩ : ∃ C fz, W.heap[a.block]? = some (.cells C row fz) ∧ cells = C.size := by
      unfold World.shape? at hsh
      split at hsh
      · rename_i C el fz hq
        injection hsh with hsh; injection hsh with h1 h2
        exact ⟨C, fz, by rw [hq, h1], h2.symm⟩
      · cases hsh
    have hoff : a.off ≤ C.size := by
      have h1 := liesAt_le _ hlies
      have h2 := Nat.div_mul_le_self cells (Try.prog.cellsOf row)
      omega
    have hex : ∀ i, i < len → ∃ cs y, W.cells? 0 (a.add (i * Try.prog.cellsOf e)) (Try.prog.cellsOf e) = some cs ∧ DataW.trod enc Try.prog W 0 (fun _ => true) true k e cs = some y := fun i hi => by
      have h := hel i hi
      rw [List.getElem?_eq_getElem (by omega), Option.bind_eq_some_iff] at h
      obtain ⟨cs, h1, h2⟩ := h
      exact ⟨cs, _, h1, h2⟩
    obtain ⟨css, hcl, hce⟩ : ∃ css : List (List Value), css.length = len ∧ ∀ i, i < len → W.cells? 0 (a.add (i * c)) c = some (css.getD i []) ∧ ∃ y, DataW.trod enc Try.prog W 0 (fun _ => true) true k e (css.getD i []) = some y := by
      rw [hc] at hex
      refine ⟨(List.range len).map fun i => if h : i < len then Classical.choose (hex i h) else [], by simp, fun i hi => ?_⟩
      have e : ((List.range len).map fun i => if h : i < len then Classical.choose (hex i h) else []).getD i [] = Classical.choose (hex i hi) := by
        rw [List.getD_eq_getElem?_getD, List.getElem?_map, List.getElem?_range hi]
        simp [hi]
      rw [e]
      obtain ⟨y, h1, h2⟩ := Classical.choose_spec (hex i hi)
      exact ⟨h1, y, h2⟩
    have hmem : ∀ cs ∈ css, ∃ i, i < len ∧ css.getD i [] = cs := fun cs hcs => by
      obtain ⟨i, hi⟩ := List.getElem?_of_mem hcs
      have hlt := (List.getElem?_eq_some_iff.1 hi).1
      exact ⟨i, by omega, by rw [List.getD_eq_getElem?_getD, hi]; rfl⟩
    have hall : ∀ cs ∈ css, cs.length = c := fun cs hcs => by
      obtain ⟨i, hi, e⟩ := hmem cs hcs
      rw [← e]
      exact (World.cells?_some (hce i hi).1).2.1
    have hcell := rows_cells (W := W) css a hall fun i hi q hq => (World.cells?_some (hce i (by omega)).1).2.2 q hq
    obtain ⟨hlist, hend⟩ := list_of_cells hblk hspot hoff hcell
    have ea : a = ⟨a.block, a.off, none⟩ := by cases a; simp only at hspot; simp [hspot]
    refine ⟨.at_ a.block (C.size, a.off), len, cap, css, hcl, hl, Nat.le_trans hl hm, fun B q h => ?_, fun cs hcs => ⟨hall cs hcs, ?_⟩, fun ls => ⟨?_, fun chs l r e h => .inl ⟨a.block, (C.size, a.off), l, r ++ C.toList.drop (a.off + css.flatten.length), C.toList.take a.off, row, fz, locEnv_last _ _, h, ?_, ?_, fun hr => absurd rfl hr⟩⟩⟩
    · injection h with h1 h2
      rw [← h1]
      exact (Array.getElem?_eq_some_iff.1 hblk).1
    · obtain ⟨i, hi, e⟩ := hmem cs hcs
      obtain ⟨y, hy⟩ := (hce i hi).2
      exact ⟨k, y, by rw [← e]; exact hy⟩
    · refine rel_one' (.inl ⟨a.block, (C.size, a.off), locEnv_last _ _, ?_⟩)
      rw [Nat.add_zero, ← ea]
    · rw [← List.append_assoc l r, ← e, ← hlist]; exact hblk
    · simp; omega
/-- A cell that is a list of words. -/
theorem words_cell {cs : List Value} {fuel : Nat} {y : DataW H × List MemPlace} (ht : DataW.trod enc Try.prog W 0 (fun _ => true) true fuel 25 cs = some y) :
    ∃ oa n m, cs = [.slice oa n m] ∧ hasB .i64 (n : Int) = true ∧ (n = 1 → ∃ (L : Ex.Loc) (zs : List Int), (∀ x ∈ zs, 0 ≤ x ∧ x < 18446744073709551616) ∧ 1 ≤ zs.length ∧ (∀ B q, L = Ex.Loc.at_ B q → B < W.heap.size) ∧ ∀ (ls : List Ex.Loc), relC (locEnv (ls ++ [L])) (.sl ls.length 0 1 m) [.slice oa 1 m] ∧ relB (locEnv (ls ++ [L])) (roB [.seq .u64 zs]) ls.length W) := by
  rcases Go.ChangeShapes.open_ints under_words under_u64 cells_u64 ht with ⟨rfl, _⟩ | ⟨a, len, cap, zs, rfl, hb, hl, hm, hz, _, hcell, hwf⟩
  · exact ⟨none, 0, 0, rfl, rfl, fun h => by cases h⟩
  · simp only [if_true] at hz
    refine ⟨some a, len, cap, rfl, len_has (Nat.le_trans hl hm), fun hl1 => ?_⟩
    subst hl1
    have h0 := hcell 0 (by omega)
    have e0 : a.add 0 = a := rfl
    rw [e0] at h0
    obtain ⟨C, row, fz, hblk⟩ : ∃ C row fz, W.heap[a.block]? = some (.cells C row fz) := by
      unfold World.cell? at h0
      split at h0
      · exact ⟨_, _, _, by assumption⟩
      · cases h0
    have hs : a.spot = none := by
      simp only [World.cell?, hblk] at h0
      cases hq : a.spot with
      | none => rfl
      | some _ => rw [hq] at h0; cases h0
    have hget0 : C[a.off]? = some (.int .u64 (zs.getD 0 0)) := by
      simp only [World.cell?, hblk, hs] at h0
      simpa using h0
    have hoff : a.off ≤ C.size := Nat.le_of_lt (Array.getElem?_eq_some_iff.1 hget0).1
    obtain ⟨hlist, hend⟩ := list_of_cells (l := zs.map (.int .u64)) hblk hs hoff fun j hj => by
      rw [List.length_map] at hj
      rw [hcell j hj, List.getElem?_map, List.getElem?_eq_getElem hj, List.getD_eq_getElem?_getD, List.getElem?_eq_getElem hj]; rfl
    rw [List.length_map] at hlist hend
    have ea : a = ⟨a.block, a.off, none⟩ := by cases a; simp only at hs; simp [hs]
    have hhas : ∀ x ∈ zs, has .u64 x := fun x hx => wf_has (hwf x hx)
    refine ⟨.at_ a.block (C.size, a.off), zs, fun x hx => u64_bounds (hhas x hx), by omega, fun B q h => ?_, fun ls => ⟨.inl ⟨a.block, (C.size, a.off), locEnv_last _ _, ?_⟩, .inl ⟨a.block, (C.size, a.off), zs.map (.int .u64), C.toList.drop (a.off + zs.length), C.toList.take a.off, row, fz, locEnv_last _ _, ⟨_, [], ⟨rfl, hhas⟩, rfl, by simp⟩, ?_, ?_, fun hr => absurd rfl hr⟩⟩⟩
    · injection h with h1 h2
      rw [← h1]
      exact (Array.getElem?_eq_some_iff.1 hblk).1
    · rw [Nat.add_zero, ← ea]
    · rw [← hlist]; exact hblk
    · simp; omega
/-- Cells that are a point's. -/
def g1Ch (x y : Nat) (i : Bool) : List Ch := [.num 6 x, .num 6 y, .v (.bool i)]
theorem g1_cells {cs : List Value} {fuel : Nat} {y : DataW H × List MemPlace} (ht : DataW.trod enc Try.prog W 0 (fun _ => true) true fuel 30 cs = some y) : ∃ a b i, ∀ β : Env, relL β (g1Ch a b i) cs := by
  have h := trod_shp 20 _ _ shp_g1 _ _ _ ht
  obtain ⟨h1, h2⟩ := fitsH_app h
  obtain ⟨h2, h3⟩ := fitsH_app h2
  obtain ⟨x, hx, ex⟩ := fitsH_words h1
  obtain ⟨y, hy, ey⟩ := fitsH_words h2
  have h4 : ∃ i, List.drop 6 (List.drop 6 cs) = [Value.bool i] := by
    have h3' : fitsH [none] (List.drop 6 (List.drop 6 cs)) := h3
    cases hq : List.drop 6 (List.drop 6 cs) with
    | nil => rw [hq] at h3'; cases h3'
    | cons w r =>
      rw [hq] at h3'
      cases w <;> simp only [fitsH] at h3'
      cases r with
      | nil => exact ⟨_, rfl⟩
      | cons => cases h3'
  obtain ⟨i, hi⟩ := h4
  have ex' : List.take 6 cs = words 6 x := ex
  have ey' : List.take 6 (List.drop 6 cs) = words 6 y := ey
  refine ⟨x, y, i, fun β => ⟨words 6 x, words 6 y ++ [.bool i], ⟨hx, rfl⟩, ⟨words 6 y, [.bool i], ⟨hy, rfl⟩, ⟨[.bool i], [], ⟨rfl, rfl, trivial⟩, rfl, rfl⟩, rfl⟩, ?_⟩⟩
  rw [← ex', ← ey', ← hi, List.take_append_drop, List.take_append_drop]
end
end Go.Proofs.Ytccmbnbphianbaa
