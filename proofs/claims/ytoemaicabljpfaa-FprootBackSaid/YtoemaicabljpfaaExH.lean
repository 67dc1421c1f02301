/- The executor's append. -/
import Derived.Test.YtoemaicabljpfaaExG
namespace Go.Proofs.Ytoemaicabljpfaa.Ex

section
variable {P : Program} {β : Env} {H : Heap} {w : World}

def mergeCs (z : Value) (old new : List Ch) : List Ch :=
  match z with
  | .int kd _ => match toSeq kd old, toSeq kd new with
    | some xs, some ys => [.seq kd (xs ++ ys)]
    | _, _ => old ++ new
  | _ => old ++ new
theorem merge_rel {z : Value} {old new : List Ch} {lo ln : List Value} (h1 : relL β old lo) (h2 : relL β new ln) : relL β (mergeCs z old new) (lo ++ ln) := by
  unfold mergeCs
  split
  · split
    · rename_i xs ys hx hy
      obtain ⟨rfl, a1⟩ := toSeq_rel hx h1
      obtain ⟨rfl, a2⟩ := toSeq_rel hy h2
      rw [← List.map_append]
      exact relL_seq_mk fun x hx => (List.mem_append.1 hx).elim (a1 x) (a2 x)
    · exact relL_append h1 h2
  · exact relL_append h1 h2

def appR (fr : Nat) (e : TypeId) (inf : TypeInfo) (z : Value) (tomb : Heap) (old new : List Ch) (len n : Nat) (c1 c2 : List (Bool × Bool)) (path : List Bool) : R :=
  ⟨.val false [.sx fr (len + n) inf.size], tomb ++ [(fr, some ⟨e, mergeCs z old new, true⟩)], 1, c1 ++ (c2 ++ [(decide (1 ≤ inf.bytes ∧ 2 * (len + n) * inf.bytes ≤ 281474976710656), true)]), path⟩
def aAppend (P : Program) (ts : Array TypeId) (s x : Option AV) (H : Heap) (fr : Nat) (path : List Bool) : Option R :=
  match ts[0]?, ts[1]? with
  | some sT, some xT => match P.underlying sT, P.underlying xT with
    | some (.slice e), some d => match isSl d, P.info? e with
      | true, some inf => match inf.zero, srcLen x with
        | some z, some n => match Nat.beq z.cells.size inf.size && z.cells.toList.all (fun v => v.oneCell'), sliceCs H inf.size x n with
          | true, some (new, c2) => match s with
            | some (.val false [.v (.slice none 0 0)]) => some (appR fr e inf z [] [] new 0 n [] c2 path)
            | some (.val false [.sl bk 0 len cap]) => match sliceCs H inf.size s len, hget H bk with
              | some (old, c1), some blk => match Nat.beq blk.ty e with
                | true => some (appR fr e inf z [(bk, none)] old new len n (c1 ++ [(Nat.beq cap len, true)]) c2 path)
                | false => none
              | _, _ => none
            | some (.val false [.sx bk len sz]) => match Nat.beq sz inf.size, sliceCs H inf.size s len, hget H bk with
              | true, some (old, c1), some blk => match Nat.beq blk.ty e with
                | true => some (appR fr e inf z [(bk, none)] old new len n c1 c2 path)
                | false => none
              | _, _, _ => none
            | _ => none
          | _, _ => none
        | _, _ => none
      | _, _ => none
    | _, _ => none
  | _, _ => none

theorem zeroCells_len (z : Array Value) (n : Nat) : (Builtin.zeroCells z n).toList.length = n * z.size := by
  unfold Builtin.zeroCells; simp
theorem zeroCells_one {z : Value} (hz : ∀ v ∈ z.cells.toList, v.oneCell' = true) (n : Nat) : ∀ v ∈ (Builtin.zeroCells z.cells n).toList, v.oneCell' = true := by
  intro v hv
  unfold Builtin.zeroCells at hv
  simp only [Array.toList_map, Array.toList_range, List.mem_map, List.mem_range] at hv
  obtain ⟨i, hi, rfl⟩ := hv
  have hpos : 0 < z.cells.size := by
    rcases Nat.eq_zero_or_pos z.cells.size with h | h
    · rw [h] at hi; simp at hi
    · exact h
  have hlt := Nat.mod_lt i hpos
  rw [getElem!_pos z.cells _ hlt]
  exact hz _ (by simp)
theorem zeroCells_one' (z : Value) (hz : z.cells.toList.all (·.oneCell') = true) (n : Nat) : ∀ v ∈ (Builtin.zeroCells z.cells n).toList, v.oneCell' = true :=
  zeroCells_one (fun v hv => List.all_eq_true.1 hz v hv) n

theorem Good.drew (g : Good β H w) : Good β H w.drew := ⟨g.heap, g.inj, g.lt⟩

/- the new slice in a new block -/
theorem app_grow {fr n len : Nat} {e : TypeId} {inf : TypeInfo} {z : Value} {tomb : Heap} {old new : List Ch} {c1 c2 : List (Bool × Bool)} {path : List Bool} {lo ln rest : List Value} {c : Nat} (g : Good β H w)
    (hf : β fr = none) (h1 : relL β old lo) (h2 : relL β new ln) (htomb : ∀ k y, (k, some y) ∉ tomb) (hc : len + n ≤ c) (hlen : (lo ++ ln ++ rest).length = c * inf.size) (hrest : ∀ v ∈ rest, v.oneCell' = true) :
    Eff β fr (appR fr e inf z tomb old new len n c1 c2 path) w (.slice (some ⟨w.heap.size, 0, none⟩) (len + n) c) (w.drew.alloc (.cells ⟨lo ++ ln ++ rest⟩ e)) (β.put fr (.at_ w.heap.size (c * inf.size))) where
  ext := Env.le_put _ hf
  new := fun b X k => by
    unfold Env.put at k
    split at k
    · rename_i hb; subst hb; injection k with k; subst k
      exact .inr ⟨Nat.le_refl _, by simp [appR], fun B m e => by injection e with e1 e2; subst e1; exact .inl (Nat.le_refl _)⟩
    · exact .inl k
  lt := fun b B m k => by
    unfold Env.put at k
    split at k
    · injection k with k; injection k with k _; subst k; simp
    · have := g.lt _ _ _ k; simp; omega
  inj := fun b b' _ _ _ h1 h2 h3 h4 _ _ => by simp [appR] at h3 h4; omega
  val := rel_one' (.inl ⟨w.heap.size, c * inf.size, c, Env.put_same .., rfl, hc, Nat.le_refl _⟩)
  upd := fun k y hy => by
    simp only [appR, List.mem_append, List.mem_singleton, Prod.mk.injEq, Option.some.injEq] at hy
    rcases hy with hy | ⟨rfl, rfl⟩
    · exact absurd hy (htomb _ _)
    · exact .inl ⟨w.heap.size, c * inf.size, lo ++ ln, rest, Env.put_same .., relL_mono (Env.le_put _ hf) (merge_rel h1 h2), by show (w.heap.push _)[w.heap.size]? = _; simp, (fun h => by simp at h), hlen, hrest⟩
  frame := fun B hB _ => by
    show (w.heap.push _)[B]? = _
    rw [Array.getElem?_push, if_neg (by omega)]
  size := by simp
  os := rfl
  tape := rfl
  output := rfl

/- the new slice in the old block -/
theorem app_fit {fr n len bk B nB : Nat} {e : TypeId} {inf : TypeInfo} {z : Value} {old new : List Ch} {c1 c2 : List (Bool × Bool)} {path : List Bool} {lo ln rest cur : List Value} {cap : Nat} (g : Good β H w)
    (hf : β fr = none) (hb : β bk = some (.at_ B nB)) (ho : w.heap[B]? = some (.cells ⟨cur⟩ e (0, 0))) (h1 : relL β old lo) (h2 : relL β new ln) (hlen : (lo ++ ln ++ rest).length = nB) (hcap : len + n ≤ cap) (hcapn : cap * inf.size ≤ nB)
    (hrest : ∀ v ∈ rest, v.oneCell' = true) :
    Eff β fr (appR fr e inf z [(bk, none)] old new len n c1 c2 path) w (.slice (some ⟨B, 0, none⟩) (len + n) cap) (w.setRow B ⟨lo ++ ln ++ rest⟩) (β.put fr (.at_ B nB)) where
  ext := Env.le_put _ hf
  new := fun b X k => by
    unfold Env.put at k
    split at k
    · rename_i hb'; subst hb'; injection k with k; subst k
      exact .inr ⟨Nat.le_refl _, by simp [appR], fun B' m e => by injection e with e1 e2; subst e1; exact .inr ⟨bk, nB, by simp [appR], hb⟩⟩
    · exact .inl k
  lt := fun b B' m k => by
    unfold Env.put at k
    split at k
    · injection k with k; injection k with k _; subst k
      have := g.lt _ _ _ hb; simpa [World.setRow] using this
    · have := g.lt _ _ _ k; simpa [World.setRow] using this
  inj := fun b b' _ _ _ h1 h2 h3 h4 _ _ => by simp [appR] at h3 h4; omega
  val := rel_one' (.inl ⟨B, nB, cap, Env.put_same .., rfl, hcap, hcapn⟩)
  upd := fun k y hy => by
    simp only [appR, List.mem_append, List.mem_singleton, Prod.mk.injEq, Option.some.injEq] at hy
    rcases hy with ⟨_, hy⟩ | ⟨rfl, rfl⟩
    · cases hy
    · exact .inl ⟨B, nB, lo ++ ln, rest, Env.put_same .., relL_mono (Env.le_put _ hf) (merge_rel h1 h2), setRow_heap w B ⟨cur⟩ _ e (0, 0) ho, (fun h => by simp at h), hlen, hrest⟩
  frame := fun B' hB hne => by
    have : B' ≠ B := fun e => hne bk none nB (by simp [appR]) (by rw [e]; exact hb)
    simp only [World.setRow, Array.getElem?_modify]
    rw [if_neg (by omega)]
  size := by simp [World.setRow]
  os := rfl
  tape := rfl
  output := rfl

/- the new slice is still nil -/
theorem app_nil {fr : Nat} {e : TypeId} {inf : TypeInfo} {z : Value} {tomb : Heap} {old new : List Ch} {c1 c2 : List (Bool × Bool)} {path : List Bool} (g : Good β H w)
    (hf : β fr = none) (h1 : relL β old []) (h2 : relL β new []) (htomb : ∀ k y, (k, some y) ∉ tomb) :
    Eff β fr (appR fr e inf z tomb old new 0 0 c1 c2 path) w (.slice none 0 0) w (β.put fr .nil) where
  ext := Env.le_put _ hf
  new := fun b X k => by
    unfold Env.put at k
    split at k
    · rename_i hb; subst hb; injection k with k; subst k
      exact .inr ⟨Nat.le_refl _, by simp [appR], fun B m e => by cases e⟩
    · exact .inl k
  lt := fun b B m k => by
    unfold Env.put at k
    split at k
    · injection k with k; cases k
    · exact g.lt _ _ _ k
  inj := fun b b' _ _ _ h1 h2 h3 h4 _ _ => by simp [appR] at h3 h4; omega
  val := rel_one' (.inr ⟨Env.put_same .., rfl, rfl⟩)
  upd := fun k y hy => by
    simp only [appR, List.mem_append, List.mem_singleton, Prod.mk.injEq, Option.some.injEq] at hy
    rcases hy with hy | ⟨rfl, rfl⟩
    · exact absurd hy (htomb _ _)
    · exact .inr ⟨Env.put_same .., rfl, relL_mono (Env.le_put _ hf) (by simpa using merge_rel h1 h2)⟩
  frame := fun _ _ _ => rfl
  size := Nat.le_refl _
  os := rfl
  tape := rfl
  output := rfl

theorem aAppend_sound {ts : Array TypeId} {ty fr : Nat} {s x : Option AV} {u v : Value} {path : List Bool} {r : R} (g : Good β H w) (hx : ∀ A, s = some A → relA β A u) (hy : ∀ A, x = some A → relA β A v)
    (h : aAppend P ts s x H fr path = some r) (hc : okConds r.conds) (hf : ∀ b, fr ≤ b → b < fr + r.nw → β b = none) :
    ∃ q w' β', (Builtin.append_ ts ty #[u, v]).run P w = .ok q w' ∧ Eff β fr r w q w' β' := by
  unfold aAppend at h
  split at h
  case h_2 => cases h
  rename_i sT xT h0 h1
  split at h
  case h_2 => cases h
  rename_i e d hu hd
  split at h
  case h_2 => cases h
  rename_i inf hsl hi
  split at h
  case h_2 => cases h
  rename_i z n hz hn
  split at h
  case h_2 => cases h
  rename_i new c2 hzs hs
  have hlen := srcLen_run (P := P) (w := w) hy hn
  have hlend := srcLen_run (P := P) (w := w.drew) hy hn
  have hzs2 := Bool.and_eq_true_iff.1 hzs
  have hzs' := nbeq.1 hzs2.1
  have hzone := hzs2.2
  -- growing, whatever came first
  have grow : ∀ (base : Option Addr) (tomb : Heap) (old : List Ch) (len cap : Nat) (c1 : List (Bool × Bool)) (lo : List Value), okConds (appR fr e inf z tomb old new len n c1 c2 path).conds →
      (Builtin.firstCells inf.size len (.slice base len cap)).run P w.drew = .ok ⟨lo⟩ w.drew → relL β old lo → lo.length = len * inf.size → (∀ k y, (k, some y) ∉ tomb) → β fr = none → cap < len + n →
      ∃ q w' β', (Builtin.append_ ts ty #[.slice base len cap, v]).run P w = .ok q w' ∧ Eff β fr (appR fr e inf z tomb old new len n c1 c2 path) w q w' β' := by
    intro base tomb old len cap c1 lo hcc hlo hrel hll ht hfr hgt
    obtain ⟨_, hcc⟩ := okConds_append.1 hcc
    obtain ⟨o2, o3⟩ := okConds_append.1 hcc
    have o3 := o3.1
    simp only [decide_eq_true_eq] at o3
    obtain ⟨ln, f1, f2, f3⟩ := sliceCs_sound (P := P) g.drew hy hs o2
    obtain ⟨c, hcge, hrun⟩ := run_append_grow (ty := ty) h0 h1 hu hi hz hd hsl hlen hlo f1 hgt o3.1 o3.2
    refine ⟨_, _, _, hrun, app_grow g hfr hrel f2 ht hcge ?_ (zeroCells_one' z hzone _)⟩
    simp only [List.length_append, hll, f3, zeroCells_len, hzs']
    rw [← Nat.add_mul, ← Nat.add_mul]
    congr 1; omega
  -- fitting into the room that is there
  have fit : ∀ (bk B nB : Nat) (blk : Blk) (old : List Ch) (len cap : Nat) (c1 : List (Bool × Bool)) (lo : List Value), okConds (appR fr e inf z [(bk, none)] old new len n c1 c2 path).conds →
      hget H bk = some blk → blk.ty = e → β bk = some (.at_ B nB) → relL β old lo →
      (∀ cur e fz, w.heap[B]? = some (.cells ⟨cur⟩ e fz) → 0 + len * inf.size ≤ cur.length ∧ lo = (cur.drop 0).take (len * inf.size)) → β fr = none → len + n ≤ cap → (n = 0 ∨ cap * inf.size ≤ nB) → (n = 0 → cap * inf.size ≤ nB) →
      ∃ q w' β', (Builtin.append_ ts ty #[.slice (some ⟨B, 0, none⟩) len cap, v]).run P w = .ok q w' ∧ Eff β fr (appR fr e inf z [(bk, none)] old new len n c1 c2 path) w q w' β' := by
    intro bk B nB blk old len cap c1 lo hcc hb hty e1 hrel hcur hfr hfit hcap hcap0
    obtain ⟨_, hcc⟩ := okConds_append.1 hcc
    obtain ⟨o2, _⟩ := okConds_append.1 hcc
    obtain ⟨ln, n1, n2, n3⟩ := sliceCs_sound (P := P) g hy hs o2
    rcases g.heap _ _ hb with ⟨B', n', l, t', e4, e3, e5, e6, e7, e8⟩ | ⟨e4, _⟩
    · rw [e1] at e4; injection e4 with e4; injection e4 with e4 e4'; subst e4; subst e4'
      rw [hty] at e5
      obtain ⟨q1, q2⟩ := hcur _ _ _ e5
      have hcn : cap * inf.size ≤ nB := hcap.elim hcap0 id
      have hln : (len + n) * inf.size ≤ (l ++ t').length := by
        rw [e7]; exact Nat.le_trans (Nat.mul_le_mul_right _ hfit) hcn
      rw [Nat.add_mul] at hln
      have q3 : lo = (l ++ t').take (len * inf.size) := by simpa using q2
      have hst := run_storeCells_at P B (len * inf.size) e ln 0 ⟨l ++ t'⟩ w e5 (by rw [n3]; simpa using hln) (oneCell_of_rel n2)
      simp only [Nat.add_zero, n3] at hst
      refine ⟨_, _, _, ?_, app_fit (rest := (l ++ t').drop (len * inf.size + n * inf.size)) (cap := cap) g hfr e1 e5 hrel n2 ?_ hfit hcn ?_⟩
      · have := run_append_fit (ty := ty) (base := some ⟨B, 0, none⟩) (sLen := len) (sCap := cap) h0 h1 hu hi hd hsl hlen n1 hfit
        rw [this]
        simp only [Addr.add_lit, Nat.zero_add, hst, Result.andThen_ok, q3]
      · rw [← e7, q3]
        simp only [List.length_append, List.length_take, List.length_drop, n3] at hln ⊢
        omega
      · intro v hv
        rcases List.mem_append.1 (List.mem_of_mem_drop hv) with hv | hv
        · exact oneCell_of_rel e3 v hv
        · exact e8 v hv
    · rw [e1] at e4; cases e4
  split at h
  · -- nil
    injection h with h; subst h
    have hfr := hf fr (Nat.le_refl _) (by simp [appR])
    have := (rel_one (hx _ rfl)).1
    injection this with e1 _; subst e1
    rcases Nat.eq_zero_or_pos n with hn0 | hpos
    · subst hn0
      have hc' : okConds (c2 ++ _) := hc
      obtain ⟨o2, _⟩ := okConds_append.1 hc'
      obtain ⟨ln, f1, f2, f3⟩ := sliceCs_sound (P := P) g hy hs o2
      have hl0 : ln = [] := List.length_eq_zero_iff.1 (by rw [f3]; simp)
      subst hl0
      refine ⟨_, _, _, ?_, app_nil g hfr rfl f2 (by simp)⟩
      have := run_append_fit (ty := ty) (base := none) (sLen := 0) (sCap := 0) h0 h1 hu hi hd hsl hlen f1 (Nat.le_refl _)
      simpa using this
    · exact grow none [] [] 0 0 [] [] hc rfl rfl (by simp) (by simp) hfr (by omega)
  · -- a slice with no room left
    rename_i bk len cap
    split at h
    case h_2 => cases h
    rename_i old c1 blk hso hb
    split at h
    case h_2 => cases h
    rename_i hty
    injection h with h; subst h
    have hfr := hf fr (Nat.le_refl _) (by simp [appR])
    obtain ⟨oo, _⟩ := okConds_append.1 hc
    obtain ⟨o1, oc⟩ := okConds_append.1 oo
    have hcap := nbeq.1 oc.1
    subst hcap
    obtain ⟨B, nn, e1, e2⟩ := rel_one (hx _ rfl)
    injection e2 with e2 _; subst e2
    obtain ⟨lo, f1, f2, f3, f4⟩ := sliceCs_all (P := P) g hx hso o1
    rcases Nat.eq_zero_or_pos n with hn0 | hpos
    · refine fit bk B nn blk old _ _ _ lo hc hb (nbeq.1 hty) e1 f2 (fun cur e fz hh => f4 _ _ _ _ _ _ _ rfl hh) hfr (by omega) (.inl hn0) (fun _ => ?_)
      rcases g.heap _ _ hb with ⟨B', n', l, t', e4, e3, e5, e6, e7, e8⟩ | ⟨e4, _⟩
      · rw [e1] at e4; injection e4 with e4; injection e4 with e4 e4'; subst e4; subst e4'
        have := (f4 _ _ _ _ _ _ _ rfl e5).1
        rw [e7] at this; omega
      · rw [e1] at e4; cases e4
    · exact grow _ _ old _ _ _ lo hc (f1 _ rfl) f2 f3 (by simp) hfr (by omega)
  · -- a slice that was appended to before
    rename_i bk len sz
    split at h
    case h_2 => cases h
    rename_i old c1 blk hsz hso hb
    split at h
    case h_2 => cases h
    rename_i hty
    injection h with h; subst h
    have hfr := hf fr (Nat.le_refl _) (by simp [appR])
    obtain ⟨o1, oo⟩ := okConds_append.1 hc
    have hsz' := nbeq.1 hsz
    subst hsz'
    obtain ⟨lo, f1, f2, f3, f4⟩ := sliceCs_all (P := P) g hx hso o1
    rcases rel_one (hx _ rfl) with ⟨B, nn, cap, e1, e2, e3, e4⟩ | ⟨e1, e0, e2⟩
    · injection e2 with e2 _; subst e2
      rcases Nat.lt_or_ge cap (len + n) with hlt | hge
      · exact grow _ _ old _ _ _ lo hc (f1 _ rfl) f2 f3 (by simp) hfr hlt
      · exact fit bk B nn blk old _ _ _ lo hc hb (nbeq.1 hty) e1 f2 (fun cur e fz hh => f4 _ _ _ _ _ _ _ rfl hh) hfr hge (.inr e4) (fun _ => e4)
    · injection e2 with e2 _; subst e2; subst e0
      have hl0 : lo = [] := List.length_eq_zero_iff.1 (by rw [f3]; simp)
      subst hl0
      rcases Nat.eq_zero_or_pos n with hn0 | hpos
      · subst hn0
        obtain ⟨o2, _⟩ := okConds_append.1 oo
        obtain ⟨ln, n1, n2, n3⟩ := sliceCs_sound (P := P) g hy hs o2
        have hl0 : ln = [] := List.length_eq_zero_iff.1 (by rw [n3]; simp)
        subst hl0
        refine ⟨_, _, _, ?_, app_nil g hfr f2 n2 (by simp)⟩
        have := run_append_fit (ty := ty) (base := none) (sLen := 0) (sCap := 0) h0 h1 hu hi hd hsl hlen n1 (Nat.le_refl _)
        simpa using this
      · exact grow none _ old 0 0 _ [] hc rfl f2 (by simp) (by simp) hfr (by omega)
  · cases h
end
end Go.Proofs.Ytoemaicabljpfaa.Ex
