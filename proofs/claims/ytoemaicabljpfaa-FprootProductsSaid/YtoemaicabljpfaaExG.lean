/- The executor's built-in functions that write: copy, clear, append. -/
import Derived.Test.YtoemaicabljpfaaExF
namespace Go.Proofs.Ytoemaicabljpfaa.Ex

section
variable {P : Program} {β : Env} {H : Heap} {w : World}

def toSeq (kd : IntKind) : List Ch → Option (List Int)
  | [] => some []
  | .seq k l :: r => match decide (k = kd), r, toSeq kd r with
    | true, [], _ => some l
    | true, _, some m => some (l ++ m)
    | _, _, _ => none
  | .n k i :: r => match decide (k = kd), toSeq kd r with | true, some m => some (i :: m) | _, _ => none
  | .v (.int k i) :: r => match decide (k = kd), toSeq kd r with | true, some m => some (i :: m) | _, _ => none
  | .num k x :: r => match kd, toSeq kd r with | .u64, some m => some ((List.range k).map (wordN x) ++ m) | _, _ => none
  | _ => none
theorem toSeq_rel {kd : IntKind} : ∀ {cs : List Ch} {xs : List Int} {l : List Value}, toSeq kd cs = some xs → relL β cs l → l = xs.map (.int kd) ∧ ∀ x ∈ xs, has kd x
  | [], xs, l, h, hl => by
    simp only [toSeq, Option.some.injEq] at h
    simp only [relL] at hl
    subst h; subst hl
    simp
  | c :: cs, xs, l, h, hl => by
    obtain ⟨l1, l2, h1, h2, h3⟩ := hl
    unfold toSeq at h
    split at h
    · cases ‹_ :: _ = []›
    · rename_i k m r he
      injection he with e1 e2; subst e1; subst e2
      split at h
      · have hk : decide (k = kd) = true := by assumption
        injection h with h; subst h
        simp only [relL] at h2; subst h2
        have : k = kd := by simpa using hk
        subst this
        rw [h3, List.append_nil]; exact h1
      · rename_i m' hk _ hm
        injection h with h; subst h
        have : k = kd := by simpa using hk
        subst this
        obtain ⟨i1, i2⟩ := toSeq_rel hm h2
        simp only [relC] at h1
        refine ⟨by rw [h3, h1.1, i1, List.map_append], fun x hx => ?_⟩
        rcases List.mem_append.1 hx with hx | hx
        · exact h1.2 x hx
        · exact i2 x hx
      · cases h
    · rename_i k i r he
      injection he with e1 e2; subst e1; subst e2
      split at h
      · rename_i m hk hm
        injection h with h; subst h
        have : k = kd := by simpa using hk
        subst this
        obtain ⟨i1, i2⟩ := toSeq_rel hm h2
        simp only [relC] at h1
        refine ⟨by rw [h3, h1.1, i1]; rfl, fun x hx => ?_⟩
        rcases List.mem_cons.1 hx with hx | hx
        · rw [hx]; exact h1.2
        · exact i2 x hx
      · cases h
    · rename_i k i r he
      injection he with e1 e2; subst e1; subst e2
      split at h
      · rename_i m hk hm
        injection h with h; subst h
        have : k = kd := by simpa using hk
        subst this
        obtain ⟨i1, i2⟩ := toSeq_rel hm h2
        simp only [relC] at h1
        refine ⟨by rw [h3, h1.1, i1]; rfl, fun x hx => ?_⟩
        rcases List.mem_cons.1 hx with hx | hx
        · rw [hx]; exact h1.2.2
        · exact i2 x hx
      · cases h
    · rename_i k x r he
      injection he with e1 e2; subst e1; subst e2
      split at h
      · rename_i m hm
        injection h with h; subst h
        obtain ⟨i1, i2⟩ := toSeq_rel hm h2
        simp only [relC] at h1
        refine ⟨?_, fun x hx => ?_⟩
        · rw [h3, h1.2, i1, List.map_append, List.map_map]; rfl
        · rcases List.mem_append.1 hx with hx | hx
          · obtain ⟨j, _, rfl⟩ := List.mem_map.1 hx
            exact wordN_has _ _
          · exact i2 x hx
      · cases h
    · cases h

def srcLen (x : Option AV) : Option Nat :=
  match x with
  | some (.val false [.sl _ _ len _]) => some len
  | some (.val false [.sx _ len _]) => some len
  | some (.val false [.v (.slice none len _)]) => some len
  | some (.val false [.v (.string s)]) => some s.size
  | _ => none
theorem srcLen_run {x : Option AV} {u : Value} {n : Nat} (hx : ∀ A, x = some A → relA β A u) (h : srcLen x = some n) : (Builtin.lenOf u).run P w = .ok n w := by
  unfold srcLen at h
  split at h
  · injection h with h; subst h
    obtain ⟨B, m, e1, e2⟩ := rel_one (hx _ rfl)
    injection e2 with e2 _; subst e2; rfl
  · injection h with h; subst h
    rcases rel_one (hx _ rfl) with ⟨B, m, cap, e1, e2, _⟩ | ⟨_, rfl, e2⟩
    · injection e2 with e2 _; subst e2; rfl
    · injection e2 with e2 _; subst e2; rfl
  · injection h with h; subst h
    have := (rel_one (hx _ rfl)).1
    injection this with e2 _; subst e2; rfl
  · injection h with h; subst h
    have := (rel_one (hx _ rfl)).1
    injection this with e2 _; subst e2; rfl
  · cases h

/- a range of a block is written -/
def putCs (bk : Nat) (blk : Blk) (off k : Nat) (new : List Ch) : Option (Heap × List (Bool × Bool)) :=
  match blk.cs with
  | [.seq kd xs] => match toSeq kd new with
    | some ys => some ([(bk, some ⟨blk.ty, [.seq kd (xs.take off ++ (ys ++ xs.drop (off + k)))], blk.opn⟩)], [(Nat.ble (off + k) xs.length, true)])
    | none => none
  | cs => match setRange cs off k new with
    | some m => some ([(bk, some ⟨blk.ty, m, blk.opn⟩)], [])
    | none => none
theorem putCs_rel {bk off k : Nat} {blk : Blk} {new : List Ch} {u : Heap} {c : List (Bool × Bool)} {l ln : List Value} (h : putCs bk blk off k new = some (u, c)) (hc : okConds c) (hl : relL β blk.cs l) (hn : relL β new ln) :
    ∃ m, u = [(bk, some ⟨blk.ty, m, blk.opn⟩)] ∧ relL β m (l.take off ++ ln ++ l.drop (off + k)) ∧ off + k ≤ l.length := by
  unfold putCs at h
  split at h
  · rename_i kd xs hcs
    split at h
    · rename_i ys hy
      injection h with h; injection h with h1 h2; subst h1; subst h2
      rw [hcs] at hl
      obtain ⟨rfl, hall⟩ := relL_seq_one hl
      obtain ⟨rfl, hall2⟩ := toSeq_rel hy hn
      have hle := Nat.le_of_ble_eq_true hc.1
      refine ⟨_, rfl, ?_, by simpa using hle⟩
      rw [← List.map_take, ← List.map_drop, ← List.map_append, ← List.map_append, List.append_assoc]
      refine relL_seq_mk fun x hx => ?_
      rcases List.mem_append.1 hx with hx | hx
      · exact hall x (List.mem_of_mem_take hx)
      · rcases List.mem_append.1 hx with hx | hx
        · exact hall2 x hx
        · exact hall x (List.mem_of_mem_drop hx)
    · cases h
  · split at h
    · rename_i m hm
      injection h with h; injection h with h1 h2; subst h1; subst h2
      obtain ⟨r1, r2⟩ := setRange_rel hm hl hn
      exact ⟨m, rfl, r1, r2⟩
    · cases h

theorem run_put {B off k : Nat} {l t' ln : List Value} {ty : TypeId} (ho : w.heap[B]? = some (.cells ⟨l ++ t'⟩ ty (0, 0))) (hs : ln.length = k) (hfit : off + k ≤ l.length) (h1 : ∀ v ∈ ln, v.oneCell' = true) :
    (storeCells ⟨B, off, none⟩ ln).run P w = .ok () (w.setRow B ⟨(l.take off ++ ln ++ l.drop (off + k)) ++ t'⟩) := by
  have := run_storeCells_at P B off ty ln 0 ⟨l ++ t'⟩ w ho (by simp; omega) h1
  simp only [Nat.add_zero] at this
  have e1 : (l ++ t').take off = l.take off := List.take_append_of_le_length (by omega)
  have e2 : (l ++ t').drop (off + k) = l.drop (off + k) ++ t' := List.drop_append_of_le_length (by omega)
  simp only [e1, hs, e2] at this
  simpa using this

def aCopy (P : Program) (dT : TypeId) (d s : Option AV) (H : Heap) (path : List Bool) : Option R :=
  match P.underlying dT, d with
  | some (.slice e), some (.val false [.sl bk off len _]) => match P.info? e, srcLen s, hget H bk with
    | some inf, some m, some blk => match sliceCs H inf.size s (Nat.min m len) with
      | some (cs, c1) => match putCs bk blk off (Nat.min m len * inf.size) cs with
        | some (u, c2) => some ⟨.any, u, 0, c1 ++ c2, path⟩
        | none => none
      | none => none
    | _, _, _ => none
  | _, _ => none
theorem aCopy_sound {dT sT ty : TypeId} {d s : Option AV} {u v : Value} {path : List Bool} {r : R} (g : Good β H w) (hx : ∀ A, d = some A → relA β A u) (hy : ∀ A, s = some A → relA β A v)
    (h : aCopy P dT d s H path = some r) (hc : okConds r.conds) (fr : Nat) : ∃ z w', (Builtin.copy_ #[dT, sT] ty #[u, v]).run P w = .ok z w' ∧ Eff β fr r w z w' β := by
  unfold aCopy at h
  split at h
  · rename_i e bk off len cap hu
    obtain ⟨B, nn, e1, e2⟩ := rel_one (hx _ rfl)
    injection e2 with e2 _; subst e2
    split at h
    · rename_i inf m blk hi hm hb
      split at h
      · rename_i cs c1 hs
        split at h
        · rename_i uu c2 hp
          injection h with h; subst h
          obtain ⟨o1, o2⟩ := okConds_append.1 hc
          obtain ⟨ln, f1, f2, f3⟩ := sliceCs_sound (P := P) g hy hs o1
          have hlen := srcLen_run (P := P) (w := w) hy hm
          rcases g.heap _ _ hb with ⟨B', n', l, t', e4, e3, e5, e6, e7, e8⟩ | ⟨e4, _⟩
          · rw [e1] at e4; injection e4 with e4; injection e4 with e4 e4'; subst e4; subst e4'
            obtain ⟨mm, rfl, q1, q2⟩ := putCs_rel hp o2 e3 f2
            refine ⟨goInt (Nat.min m len), _, ?_, Eff.write g e1 e5 q1 e6 (by rw [← e7]; simp [f3]; omega) e8 trivial⟩
            have := run_put (P := P) e5 f3 q2 (oneCell_of_rel f2)
            simp [Builtin.copy_, run_underlying hu, hlen, sizeOf, typeInfo, hi, f1, this]
          · rw [e1] at e4; cases e4
        · cases h
      · cases h
    · cases h
  · cases h

def aClear (P : Program) (t : TypeId) (x : Option AV) (H : Heap) (path : List Bool) : Option R :=
  match P.underlying t, x with
  | some (.slice e), some (.val false [.sl bk off len _]) => match len with
    | 0 => some (pureR .any path)
    | len + 1 => match P.info? e, hget H bk with
      | some inf, some blk => match inf.zero with
        | some z => match constL (Builtin.zeroCells z.cells (len + 1)).toList with
          | some zs => match putCs bk blk off (Builtin.zeroCells z.cells (len + 1)).toList.length zs with
            | some (u, c2) => some ⟨.any, u, 0, c2, path⟩
            | none => none
          | none => none
        | none => none
      | _, _ => none
  | _, _ => none
theorem aClear_sound {t ty : TypeId} {x : Option AV} {u : Value} {path : List Bool} {r : R} (g : Good β H w) (hx : ∀ A, x = some A → relA β A u)
    (h : aClear P t x H path = some r) (hc : okConds r.conds) (fr : Nat) : ∃ z w', (Builtin.clear_ #[t] ty #[u]).run P w = .ok z w' ∧ Eff β fr r w z w' β := by
  unfold aClear at h
  split at h
  · rename_i e bk off len cap hu
    obtain ⟨B, nn, e1, e2⟩ := rel_one (hx _ rfl)
    injection e2 with e2 _; subst e2
    split at h
    · injection h with h; subst h
      exact ⟨.tuple #[], w, by simp [Builtin.clear_, run_underlying hu], Eff.pure_ g trivial⟩
    · rename_i len
      split at h
      · rename_i inf blk hi hb
        split at h
        · rename_i z hz
          split at h
          · rename_i zs hzs
            split at h
            · rename_i uu c2 hp
              injection h with h; subst h
              have f2 := constL_rel (β := β) hzs
              rcases g.heap _ _ hb with ⟨B', n', l, t', e4, e3, e5, e6, e7, e8⟩ | ⟨e4, _⟩
              · rw [e1] at e4; injection e4 with e4; injection e4 with e4 e4'; subst e4; subst e4'
                obtain ⟨mm, rfl, q1, q2⟩ := putCs_rel hp hc e3 f2
                refine ⟨.tuple #[], _, ?_, Eff.write g e1 e5 q1 e6 (by rw [← e7]; simp at q2 ⊢; omega) e8 trivial⟩
                have := run_put (P := P) e5 rfl q2 (oneCell_of_rel f2)
                simp [Builtin.clear_, run_underlying hu, zeroValue, typeInfo, hi, hz, this]
              · rw [e1] at e4; cases e4
            · cases h
          · cases h
        · cases h
      · cases h
  · cases h

/- append -/
theorem growBy_le (need : Nat) : ∀ (r c : Nat), 256 ≤ c → c ≤ 2 * need → Builtin.growBy need r c ≤ 2 * need
  | 0, c, _, h => h
  | r + 1, c, h0, h => by
    unfold Builtin.growBy
    split
    · exact h
    · exact growBy_le need r _ (by omega) (by omega)
theorem nextcap_le {need old : Nat} (h : old < need) : Builtin.nextslicecap need old ≤ 2 * need := by
  unfold Builtin.nextslicecap
  split
  · omega
  · split
    · omega
    · exact growBy_le need 4 old (by omega) (by omega)

def isSl : TypeDesc → Bool
  | .slice _ => true
  | .string => true
  | _ => false

theorem run_append_fit {ts : Array TypeId} {sT xT e ty : TypeId} {d : TypeDesc} {inf : TypeInfo} {base : Option Addr} {sLen sCap n : Nat} {x : Value} {ln : List Value}
    (h0 : ts[0]? = some sT) (h1 : ts[1]? = some xT) (hu : P.underlying sT = some (.slice e)) (hi : P.info? e = some inf) (hx : P.underlying xT = some d) (hd : isSl d = true)
    (hn : (Builtin.lenOf x).run P w = .ok n w) (hf : (Builtin.firstCells inf.size n x).run P w = .ok ⟨ln⟩ w) (hfit : sLen + n ≤ sCap) :
    (Builtin.append_ ts ty #[.slice base sLen sCap, x]).run P w = match base with
      | some a => ((storeCells (a.add (sLen * inf.size)) ln).run P w).andThen fun _ w' => .ok (.slice base (sLen + n) sCap) w'
      | none => .ok (.slice none (sLen + n) sCap) w := by
  cases base with
  | none =>
    cases d
    case slice => simp [Builtin.append_, h0, h1, run_underlying hu, run_underlying hx, sizeOf, typeInfo, hi, hn, hf, hfit]
    case string => simp [Builtin.append_, h0, h1, run_underlying hu, run_underlying hx, sizeOf, typeInfo, hi, hn, hf, hfit]
    all_goals simp [isSl] at hd
  | some a =>
    cases d
    case slice => simp [Builtin.append_, h0, h1, run_underlying hu, run_underlying hx, sizeOf, typeInfo, hi, hn, hf, hfit]
    case string => simp [Builtin.append_, h0, h1, run_underlying hu, run_underlying hx, sizeOf, typeInfo, hi, hn, hf, hfit]
    all_goals simp [isSl] at hd

theorem run_append_grow {ts : Array TypeId} {sT xT e ty : TypeId} {d : TypeDesc} {inf : TypeInfo} {z : Value} {base : Option Addr} {sLen sCap n : Nat} {x : Value} {lo ln : List Value}
    (h0 : ts[0]? = some sT) (h1 : ts[1]? = some xT) (hu : P.underlying sT = some (.slice e)) (hi : P.info? e = some inf) (hz : inf.zero = some z) (hx : P.underlying xT = some d) (hd : isSl d = true)
    (hn : (Builtin.lenOf x).run P w = .ok n w) (ho : (Builtin.firstCells inf.size sLen (.slice base sLen sCap)).run P w.drew = .ok ⟨lo⟩ w.drew)
    (hf : (Builtin.firstCells inf.size n x).run P w.drew = .ok ⟨ln⟩ w.drew) (hgt : sCap < sLen + n) (hb1 : 1 ≤ inf.bytes) (hb : 2 * (sLen + n) * inf.bytes ≤ 281474976710656) :
    ∃ c, sLen + n ≤ c ∧ (Builtin.append_ ts ty #[.slice base sLen sCap, x]).run P w =
      .ok (.slice (some ⟨w.heap.size, 0, none⟩) (sLen + n) c) (w.drew.alloc (.cells ⟨lo ++ ln ++ (Builtin.zeroCells z.cells (c - (sLen + n))).toList⟩ e)) := by
  have hc1 : ¬ (281474976710656 < Builtin.nextslicecap (sLen + n) sCap * inf.bytes) := by
    have := nextcap_le hgt
    have := Nat.mul_le_mul_right inf.bytes this
    omega
  have hb0 : ¬ inf.bytes = 0 := by omega
  have hnf : ¬ (sLen + n ≤ sCap) := by omega
  refine ⟨(Question.appendCap (sLen + n) sCap e).cut (w.tape w.drawn (.appendCap (sLen + n) sCap e)), ?_, ?_⟩
  · simp only [Question.cut]; omega
  · cases d
    case slice =>
      simp [Builtin.append_, h0, h1, run_underlying hu, run_underlying hx, sizeOf, typeInfo, hi, hn, hnf, hb0, hc1, Question.forced, zeroValue, hz, newRow, ho, hf]
      congr 2
      apply Array.ext'
      simp
    case string =>
      simp [Builtin.append_, h0, h1, run_underlying hu, run_underlying hx, sizeOf, typeInfo, hi, hn, hnf, hb0, hc1, Question.forced, zeroValue, hz, newRow, ho, hf]
      congr 2
      apply Array.ext'
      simp
    all_goals simp [isSl] at hd
end
end Go.Proofs.Ytoemaicabljpfaa.Ex
