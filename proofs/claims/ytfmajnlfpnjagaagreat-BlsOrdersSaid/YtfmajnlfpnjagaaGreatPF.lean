/- Part 6 of the proof: Vd, Ve, Vf, Vg, Vh. -/
import Derived.Test.YtfmajnlfpnjagaaGreatPE
import Derived.Test.YtfmajnlfpnjagaaGreatLy
import Derived.Test.YtfmajnlfpnjagaaGreatMg
/- bls.SkToPk: the contract. -/
namespace Go.Proofs.YtfmajnlfpnjagaaGreat
open Ex Num Rg
open Go.RowKit (Below)
open Sh (R av rd mo en mo_en)
set_option maxRecDepth 100000
set_option maxHeartbeats 4000000

theorem cell_of {w : World} {B : Nat} {v : Value} {ty : TypeId} (h : w.heap[B]? = some (.cells #[v] ty (0, 0))) : w.cell? ⟨B, 0, none⟩ = some v ∧ w.frozen? ⟨B, 0, none⟩ = false := by
  constructor
  · simp [World.cell?, h]
  · simp [World.frozen?, h]
theorem set_other {w : World} {a : Addr} {v : Value} {B : Nat} (h : B ≠ a.block) : (w.setCell a v).heap[B]? = w.heap[B]? := by
  simp only [World.setCell, Array.getElem?_modify]
  rw [if_neg (fun e => h e.symm)]
theorem set_rest (w : World) (a : Addr) (v : Value) : (w.setCell a v).heap.size = w.heap.size ∧ (w.setCell a v).os = w.os ∧ (w.setCell a v).tape = w.tape ∧ (w.setCell a v).output = w.output := by
  refine ⟨?_, rfl, rfl, rfl⟩
  simp [World.setCell]
theorem set_same {w : World} {B : Nat} {u v : Value} {ty : TypeId} (h : w.heap[B]? = some (.cells #[u] ty (0, 0))) : (w.setCell ⟨B, 0, none⟩ v).heap[B]? = some (.cells #[v] ty (0, 0)) := by
  simp [World.setCell, Array.getElem?_modify, h]
noncomputable def errU : Value := .tuple #[.slice none 0 0, .int .i64 210]
/-- The deferred closure, where a panic comes through the door. -/
theorem catch_leaves {F : FuncId} {fnF : Func} (hF : Tryz.prog.funcs[F]? = some fnF) (hb : fnF.body.isSome = true) (hname : (fnF.name == "runtime.NumGoroutine") = false)
    (hcatch : ∀ (p q : Addr) (x y : Value) (w : World), w.cell? p = some x → w.frozen? p = false → w.cell? q = some y → w.frozen? q = false → p.block ≠ q.block →
      CallsD Tryz.prog F #[.pointer (some p), .pointer (some q)] (.panicking [{ v := .iface 26 (.int .i64 210), recovered := false }]) w fun e u' w' =>
        e = .returned (.tuple #[]) ∧ u' = .panicking [{ v := .iface 26 (.int .i64 210), recovered := true }] ∧ w' = (w.setCell p (.slice none 0 0)).setCell q (.int .i64 210))
    {fn : Func} {t1 t2 : Tmp} {tmps : Array Value} {B1 B2 : Nat} {ty1 ty2 : TypeId} {R : Ending → World → Prop} {w : World} (hres : fn.results = #[.cell t1 23, .cell t2 26])
    (ht1 : tmps.getD t1 undef = .pointer (some ⟨B1, 0, none⟩)) (ht2 : tmps.getD t2 undef = .pointer (some ⟨B2, 0, none⟩)) (c1 : w.heap[B1]? = some (.cells #[.slice none 0 0] ty1 (0, 0))) (c2 : w.heap[B2]? = some (.cells #[.int .i64 0] ty2 (0, 0))) (hne : B1 ≠ B2)
    (hR : ∀ w', (∀ B, B ≠ B1 → B ≠ B2 → w'.heap[B]? = w.heap[B]?) → w'.heap.size = w.heap.size → w'.os = w.os → w'.tape = w.tape → w'.output = w.output → R (.returned errU) w') :
    Leaves Tryz.prog fn tmps R [{ target := .fn (.func F) #[.pointer (some ⟨B1, 0, none⟩), .pointer (some ⟨B2, 0, none⟩)], args := #[] }] (.panicking errC) w := by
  obtain ⟨a1, f1⟩ := cell_of c1
  obtain ⟨a2, f2⟩ := cell_of c2
  have h1 : fnF.name ≠ "runtime.NumGoroutine" := by simpa using hname
  have h2 : ¬ fnF.body = none := by cases hq : fnF.body <;> simp [hq] at hb ⊢
  refine leaves_cons (f := F) (args := #[.pointer (some ⟨B1, 0, none⟩), .pointer (some ⟨B2, 0, none⟩)]) (by simp) (by simp [invoke, callFunc, hF, h1, h2]) ?_
  refine (hcatch ⟨B1, 0, none⟩ ⟨B2, 0, none⟩ _ _ w a1 f1 a2 f2 hne).mono ?_
  rintro e u' w' ⟨rfl, rfl, rfl⟩
  have c2' : (w.setCell ⟨B1, 0, none⟩ (.slice none 0 0)).heap[B2]? = some (.cells #[.int .i64 0] ty2 (0, 0)) := (set_other fun e => hne e.symm).trans c2
  have e2 := (cell_of (set_same (v := .int .i64 210) c2')).1
  have e1 := (cell_of ((set_other (a := ⟨B2, 0, none⟩) (v := .int .i64 210) hne).trans (set_same (v := .slice none 0 0) c1))).1
  obtain ⟨q1, q2, q3, q4⟩ := set_rest (w.setCell ⟨B1, 0, none⟩ (.slice none 0 0)) ⟨B2, 0, none⟩ (.int .i64 210)
  obtain ⟨r1, r2, r3, r4⟩ := set_rest w ⟨B1, 0, none⟩ (.slice none 0 0)
  refine ⟨errU, ?_, hR _ (fun B n1 n2 => by rw [set_other n2, set_other n1]) (q1.trans r1) (q2.trans r2) (q3.trans r3) (q4.trans r4)⟩
  rw [Array.getD_eq_getD_getElem?] at ht1 ht2
  simp [results, hres, ht1, ht2, go_sem, e1, e2, errU]
section
variable (n m : Nat) (xs : List Int) (p : List Bool)
noncomputable abbrev skF : Func := Tryz.f19
noncomputable def skA : ASt := entry skF [slA 0 0 n m] (byH xs) 1 p
noncomputable def skS : ASt := sgSt (aSegN Tryz.prog oVc 3 1 (skA n m xs p))
noncomputable def skI : List Item := (skS 0 0 [] []).todo
noncomputable abbrev skO : Array Oper := headOps skI
noncomputable def rnS (x : Option (List Rec × St)) : St := match x with | some (_, s) => s | none => ⟨[], [], 0, []⟩
noncomputable def rnR (x : Option (List Rec × St)) : List Rec := match x with | some (r, _) => r | none => []
noncomputable def skX : Option (List Rec × St) := runOps Tryz.prog oVc skO [skO.getD 0 default] 0 (skS n m xs p).s
theorem sk_seg : aSegN Tryz.prog oVc 3 1 (skA n m xs p) = some ([], [], skS n m xs p) := by kernel_rfl
theorem sk_todo : (skS n m xs p).todo = .code (.region (headId skI) skO false) :: rest1 skI := by kernel_rfl
theorem sk_x : skX n m xs p = some (rnR (skX n m xs p), rnS (skX n m xs p)) := by kernel_rfl
theorem sk_xc : recConds (rnR (skX n m xs p)) = [] := by kernel_rfl
theorem sk_xk : recKeys (rnR (skX n m xs p)) = [] := by kernel_rfl
theorem sk_clo : tget (rnS (skX n m xs p)).T 6 = .val false [.clo 57 [(1, 0), (2, 0)]] := by kernel_rfl
theorem sk_fr : (rnS (skX n m xs p)).fr = 3 := by kernel_rfl
noncomputable def skY : ASt := ⟨rest1 skI, rnS (skX n m xs p)⟩
end
/-- The first two regions: the results' cells, and the closure that is deferred. -/
theorem sk_open {n m : Nat} {xs : List Int} (p : List Bool) {β : Env} {us : List Value} {w : World} {R : Ending → World → Prop} (ha : relAs β [slA 0 0 n m] us) (hg : Ex.Good β (byH xs) w) (hf : ∀ b, 1 ≤ b → β b = none)
    (h : ∀ (β' : Env) (a : Act) (w' : World) (A B : Nat) (m1 m2 : Nat × Nat), β' 1 = some (.at_ A m1) → β' 2 = some (.at_ B m2) → (∀ b, 3 ≤ b → β' b = none) →
      Inv β w [] ⟨skF.ntmps, [{ target := .fn (.func 57) #[.pointer (some ⟨A, m1.2 + 0, none⟩), .pointer (some ⟨B, m2.2 + 0, none⟩)], args := #[] }]⟩ β' (tget (skY n m xs p).s.T) (skY n m xs p).s.H a w' →
      Ex.Safe Tryz.prog 19 R (skY n m xs p).todo a w') : Calls Tryz.prog 19 ⟨us⟩ w R := by
  refine calls_of_entry (args := [slA 0 0 n m]) (H := byH xs) (k0 := 1) (path := p) Tryz.func19 (by kernel_rfl) (by kernel_rfl) ?_ ha hg hf
  refine segN_safe oVcok mixed (sk_seg n m xs p) trivial (wfB_ok (by kernel_rfl)) hf (fun _ h => by cases h) fun hw => ?_
  intro β' a w' hi hf'
  rw [sk_todo]
  refine Ex.Safe.of_wp (wp_region ?_)
  have hs : List.range skO.size = List.range' 0 [skO.getD 0 default].length ++ [1] := by kernel_rfl
  rw [hs]
  refine seq_pre oVcok (W := []) _ 0 _ _ _ β' a w' (fun j o hj => ?_) (sk_x n m xs p) (by rw [sk_xc]; trivial) hi hf' hw.1 hw.2 (by rw [sk_xk]; intro k hk; cases hk) ?_
  · cases j with
    | zero => injection hj with hj; subst hj; kernel_rfl
    | succ j => simp at hj
  · intro β2 a2 w2 hi2 hf2
    have hc := hi2.tmp 6
    rw [sk_clo] at hc
    obtain ⟨ps, hp, hu⟩ := rel_one hc
    obtain ⟨A, m1, B, m2, e1, e2, rfl⟩ := relP_two hp
    injection hu with hu _
    refine defer_wp (o := skO.getD 1 default) (c := match (skO.getD 1 default).op with | .defer c => c | _ => ⟨.builtin .len, #[], #[]⟩) (t := 6) (by kernel_rfl) (by kernel_rfl) (by kernel_rfl) (by kernel_rfl) (by kernel_rfl) (by kernel_rfl) hu ⟨rfl, ?_⟩
    exact h β2 _ w2 A B m1 m2 e1 e2 (fun b hb => hf2 b (by rw [sk_fr]; exact hb)) hi2.push
theorem cell_at1 {β : Env} {H : Heap} {w : World} {k ty A : Nat} {m : Nat × Nat} {c : Ch} {v : Value} (hg : Ex.Good β H w) (hk : hget H k = some ⟨ty, [c], false⟩) (hr : Nat.beq ty roTy = false) (hA : β k = some (.at_ A m)) (hc : ∀ l, relC β c l → l = [v]) : w.heap[A]? = some (.cells #[v] ty (0, 0)) ∧ m.2 = 0 := by
  rcases relB_rw (hg.heap k _ hk) (nbeq_ro hr) with ⟨B, n, l, t, e1, e2, e3, e4, _⟩ | ⟨e1, _⟩
  · rw [hA] at e1
    injection e1 with e1; injection e1 with e1 e5
    subst e1; subst e5
    obtain ⟨l1, l2, q1, q2, q3⟩ := e2
    simp only [relL] at q2
    rw [e4 rfl, q3, q2, hc _ q1] at e3
    exact ⟨e3, rfl⟩
  · rw [hA] at e1; cases e1
section
variable (n m : Nat) (xs : List Int) (p : List Bool)
noncomputable def skZ : ASt := sgSt (aSegN Tryz.prog oVc 1 1 (skY n m xs p))
noncomputable def skJ : List Item := (skZ 0 0 [] []).todo
noncomputable def skW : Option (List Rec × St) := runOps Tryz.prog oVc (headOps skJ) [(headOps skJ).getD 0 default] 0 (skZ n m xs p).s
theorem sk_seg2 : aSegN Tryz.prog oVc 1 3 (skY n m xs p) = some ([], [], skZ n m xs p) := by kernel_rfl
theorem sk_todo2 : (skZ n m xs p).todo = .code (.region (headId skJ) (headOps skJ) false) :: rest1 skJ := by kernel_rfl
theorem sk_w : skW n m xs p = some (rnR (skW n m xs p), rnS (skW n m xs p)) := by kernel_rfl
theorem sk_wc : recConds (rnR (skW n m xs p)) = [] := by kernel_rfl
theorem sk_wk : recKeys (rnR (skW n m xs p)) = [] := by kernel_rfl
theorem sk_w8 : tget (rnS (skW n m xs p)).T 8 = slA 0 0 n m := by kernel_rfl
theorem sk_w2 : tget (rnS (skW n m xs p)).T 2 = .val false [.p 1 0] := by kernel_rfl
theorem sk_w3 : tget (rnS (skW n m xs p)).T 3 = .val false [.p 2 0] := by kernel_rfl
theorem sk_wH0 : hget (rnS (skW n m xs p)).H 0 = some (roB [.seq .u8 xs]) := by kernel_rfl
theorem sk_wH1 : hget (rnS (skW n m xs p)).H 1 = some ⟨23, [.v (.slice none 0 0)], false⟩ := by kernel_rfl
theorem sk_wH2 : hget (rnS (skW n m xs p)).H 2 = some ⟨26, [.n .i64 0], false⟩ := by kernel_rfl
end
theorem seq_seq (xs : List Int) : toSeq .u8 [.seq .u8 xs] = some xs := by kernel_rfl
theorem ptr_at {β : Env} {T : AV} {u : Value} {k A : Nat} {m : Nat × Nat} (hT : T = .val false [.p k 0]) (h : relA β T u) (hA : β k = some (.at_ A m)) : u = .pointer (some ⟨A, m.2 + 0, none⟩) := by
  subst hT
  obtain ⟨B, n, h1, h2⟩ := rel_one h
  rw [hA] at h1
  injection h1 with h1; injection h1 with h1 h3
  subst h1; subst h3
  injection h2
theorem below_get {w w' : World} (h : Below w.heap.size w w') {B : Nat} {o : Obj} (hB : w.heap[B]? = some o) : w'.heap[B]? = some o := by
  rw [h.block B (Array.getElem?_eq_some_iff.1 hB).1]; exact hB
theorem err_out {β : Env} {H : Heap} {w w' : World} (hg : Ex.Good β H w) (hs : w.heap.size ≤ w'.heap.size) (hf : ∀ B, B < w.heap.size → w'.heap[B]? = w.heap[B]?) (ho : w'.os = w.os) (ht : w'.tape = w.tape) (hp : w'.output = w.output) : Outs β w [] (errV 210) [] (.returned errU) w' :=
  ⟨errU, β, rfl, {
    val := ⟨_, ⟨_, _, rel_one' ⟨rfl, rfl, trivial⟩, ⟨_, _, rel_one' ⟨rfl, (has_iff _ _).2 (by decide)⟩, rfl, rfl⟩, rfl⟩, rfl⟩
    good := ⟨(fun _ _ h => by cases h), (fun _ _ _ _ _ h => by cases h), (fun b B n h => Nat.lt_of_lt_of_le (hg.lt b B n h) hs)⟩
    new := fun _ _ h => .inl h
    ext := Env.le_refl β
    frame := fun B hB _ => hf B hB
    size := hs
    os := ho
    tape := ht
    output := hp }⟩
/-- Where the bytes are no secret key: nothing but the error. -/
theorem sk_err {n m : Nat} {xs : List Int} (hl : n ≤ xs.length) (hn : hasB .i64 n = true) (hk : skB n (natB (win xs 0 n)) = false) :
    CanOk Tryz.prog 19 [slA 0 0 n m] (byH xs) 1 [] (errV 210) [] := by
  intro β us w ha hg hf
  refine sk_open [] ha hg hf fun β' a w' A B m1 m2 hA hB hf' hi => ?_
  refine segN_safe (β0 := β') (w0 := w') (W := []) oVcok mixed (sk_seg2 n m xs []) trivial (wfB_ok (by kernel_rfl)) hf' (fun _ h => by cases h) (fun hw => ?_) β' a w' hi.root (fun b hb => hf' b (by rw [show (skY n m xs []).s.fr = 3 from sk_fr n m xs []] at hb; exact hb))
  intro β1 a1 w1 hi1 hf1
  rw [sk_todo2]
  refine Ex.Safe.of_wpP Tryz.func19 (wp_region ?_)
  have hs : List.range (headOps skJ).size = List.range' 0 [(headOps skJ).getD 0 default].length ++ (1 :: List.range' 2 ((headOps skJ).size - 2)) := by kernel_rfl
  rw [hs]
  refine seq_pre oVcok (W := []) _ 0 _ _ _ β1 a1 w1 (fun j o hj => ?_) (sk_w n m xs []) (by rw [sk_wc]; trivial) hi1 hf1 hw.1 hw.2 (by rw [sk_wk]; intro k hk; cases hk) ?_
  · cases j with
    | zero => injection hj with hj; subst hj; kernel_rfl
    | succ j => simp at hj
  intro β2 a2 w2 hi2 _
  have r8 := hi2.tmp 8
  rw [sk_w8] at r8
  obtain ⟨_, g2, _⟩ := good_by hi2.good (sk_wH0 n m xs []) (seq_seq xs)
  have hpan := sc_pan hl hn hk (inEnv β2 [0] 1) [a2.tmps.getD 8 undef] w2 ⟨_, [], sl_in (by omega) rfl r8, rfl, rfl⟩ g2 (fun b hb => by
    have : Nat.blt b 1 = false := by cases h : Nat.blt b 1 with | false => rfl | true => have := nblt.1 h; omega
    simp [inEnv, this])
  refine pan_wp (o := (headOps skJ).getD 1 default) (c := match ((headOps skJ).getD 1 default).op with | .call c => c | _ => ⟨.builtin .len, #[], #[]⟩) (g := 60) (chain := errC) (by kernel_rfl) (by kernel_rfl) (by kernel_rfl) (by kernel_rfl) Tryz.func60 (by kernel_rfl) (by kernel_rfl) ?_
  have hargs : (match ((headOps skJ).getD 1 default).op with | .call c => c | _ => ⟨.builtin .len, #[], #[]⟩).args = #[.tmp 8] := by kernel_rfl
  rw [hargs, show Array.map a2.eval #[Operand.tmp 8] = #[a2.eval (.tmp 8)] from by simp]
  refine Calls.mono (R := fun e w' => e = .panicked errC ∧ Below w2.heap.size w2 w') hpan ?_
  rintro e w3 ⟨rfl, hbl⟩
  refine ⟨rfl, .inr ⟨errC, rfl, ?_⟩⟩
  have hA2 := hi2.ext 1 _ hA
  have hB2 := hi2.ext 2 _ hB
  obtain ⟨c1, z1⟩ := cell_at1 (v := .slice none 0 0) hi2.good (sk_wH1 n m xs []) (by kernel_rfl) hA2 fun l h => h.1
  obtain ⟨c2, z2⟩ := cell_at1 (v := .int .i64 0) hi2.good (sk_wH2 n m xs []) (by kernel_rfl) hB2 fun l h => h.1
  have hne : A ≠ B := fun e => by
    subst e
    have := hi2.good.inj 1 2 A m1 m2 (by rw [rwK_mk (sk_wH1 n m xs []) (nbeq_ro (by kernel_rfl))]) (by rw [sk_wH2]; rfl) hA2 hB2
    cases this
  have big : ∀ {k C : Nat} {q : Nat × Nat}, 1 ≤ k → β' k = some (.at_ C q) → w.heap.size ≤ C := by
    intro k C q hk0 hC
    rcases hi.new k _ hC with h | h
    · rw [hf k hk0] at h; cases h
    · rcases h C q rfl with h | ⟨j, _, hj, _⟩
      · exact h
      · cases hj
  have bA := big (by omega) hA
  have bB := big (by omega) hB
  have t1 := ptr_at (sk_w2 n m xs []) (hi2.tmp 2) hA2
  have t2 := ptr_at (sk_w3 n m xs []) (hi2.tmp 3) hB2
  rw [z1] at t1
  rw [z2] at t2
  rw [hi2.dfr, z1, z2]
  refine catch_leaves Tryz.func57 (by kernel_rfl) (by kernel_rfl) (fun p q x y w a b c d e => catch_a p q x y w a b c d e) (t1 := 2) (t2 := 3) (by kernel_rfl) t1 t2 (below_get hbl c1) (below_get hbl c2) hne fun w4 k1 k2 k3 k4 k5 => ?_
  refine err_out hg ?_ (fun C hC => ?_) ?_ ?_ ?_
  · rw [k2]; exact Nat.le_trans hi.size (Nat.le_trans hi2.size hbl.size)
  · rw [k1 C (by omega) (by omega), hbl.block C (Nat.lt_of_lt_of_le hC (Nat.le_trans hi.size hi2.size)), hi2.frame C (Nat.lt_of_lt_of_le hC hi.size) (fun _ _ h => by cases h), hi.frame C hC (fun _ _ h => by cases h)]
  · rw [k3, hbl.os, hi2.os, hi.os]
  · rw [k4, hbl.tape, hi2.tape, hi.tape]
  · rw [k5, hbl.output, hi2.output, hi.output]
/- where they are one -/
noncomputable def skQ (N : Nat) : Pt FP := mulP (natL (win (ws4 N) 0 4)) (toPt (ptX G1B) (ptY G1B) (ptI G1B))
theorem skQ_eq {N : Nat} (h : N < R4) : skQ N = smul N G1B := by
  unfold skQ mulP
  rw [toPt_of, if_pos onG1, natL_ws4 h]
def pkV : AV := .tup [(false, [.sl 12 0 48 48]), (false, [.n .i64 0])]
def pkH (l : List Int) : Heap := [(12, some ⟨5, [.seq .u8 l], true⟩)]
theorem sk_run (n m : Nat) (xs : List Int) : segOut Tryz.prog oVc skF 400 1 [12] (skY n m xs [false, true, true, true, true, true, true, true, true, true]) =
  some ((Nat.ble n xs.length, true) :: (Nat.ble n m, true) :: (hasB .i64 n, true) :: (skB n (natB (win xs 0 n)), true) :: tt 2 [(in1 (toPt (ptX (skQ (frV n (natB (win xs 0 n))))) (ptY (skQ (frV n (natB (win xs 0 n))))) (ptI (skQ (frV n (natB (win xs 0 n)))))), true)], [], pkV,
    pkH (e1L true (toPt (ptX (skQ (frV n (natB (win xs 0 n))))) (ptY (skQ (frV n (natB (win xs 0 n))))) (ptI (skQ (frV n (natB (win xs 0 n)))))))) := by kernel_rfl
theorem in1_smul (N : Nat) : in1 (smul N G1B) = true := by
  have h1 := (onP_iff G1B).1 onG1
  unfold in1
  rw [(onP_iff _).2 (on_smul C1 h1 N), ← smul_mul C1 h1, Nat.mul_comm, smul_mul C1 h1, rG1, smul_inf]
  rfl
theorem sk_can {n m : Nat} {xs : List Int} (hl : n ≤ xs.length) (hm : n ≤ m) (hn : hasB .i64 n = true) (hk : skB n (natB (win xs 0 n)) = true) :
    CanOk Tryz.prog 19 [slA 0 0 n m] (byH xs) 1 [] pkV (pkH (e1L true (smul (natB (win xs 0 n)) G1B))) := by
  obtain ⟨k1, k2, _⟩ := skB_iff.1 hk
  have hV : frV n (natB (win xs 0 n)) = natB (win xs 0 n) := if_pos ⟨k1, k2⟩
  have hrun := sk_run n m xs
  rw [hV, toPt_of, skQ_eq (Nat.lt_trans k2 rN_lt)] at hrun
  intro β us w ha hg hf
  refine sk_open [false, true, true, true, true, true, true, true, true, true] ha hg hf fun β' a w' A B m1 m2 _ _ hf' hi => ?_
  exact out_idle oVcok mixed Tryz.func19 hrun ⟨Nat.ble_eq_true_of_le hl, Nat.ble_eq_true_of_le hm, hn, hk, tt_ok 2 ⟨in1_smul _, trivial⟩⟩ (wfB_ok (by kernel_rfl)) hf (fun _ h => by cases h) rfl Tryz.func57 (by kernel_rfl) (by kernel_rfl)
    (fun w => idle_a _ _ w) (fun _ _ h => h) β' a w' hi (fun b hb => hf' b (by rw [show (skY n m xs _).s.fr = 3 from sk_fr n m xs _] at hb; exact hb))
end Go.Proofs.YtfmajnlfpnjagaaGreat
/- bls: SkToPk on offer; awake of sigillaw21. -/
namespace Go.Proofs.YtfmajnlfpnjagaaGreat
open Ex Num Rg
open Go.RowKit (Below)
open Sh (R av rd mo en mo_en)
set_option maxRecDepth 100000
set_option maxHeartbeats 4000000

/-- The path tells whether the bytes are no secret key. -/
noncomputable def skSp : ASpec := fun args H fr path => match args, path with
  | [S], b :: rest => match asSm S with
    | some (k, n, m) => match hget H k with
      | some ⟨_, cs, _⟩ => match toSeq .u8 cs with
        | some xs => match b with
          | true => some (trR [k] 1 fr 0 [] (errV 210) [] [(Nat.ble n xs.length, true), (Nat.ble n m, true), (hasB .i64 n, true), (skB n (natB (win xs 0 n)), false)] rest)
          | false => some (trR [k] 1 fr 12 [] pkV (pkH (e1L true (smul (natB (win xs 0 n)) G1B))) [(Nat.ble n xs.length, true), (Nat.ble n m, true), (hasB .i64 n, true), (skB n (natB (win xs 0 n)), true)] rest)
        | none => none
      | _ => none
    | none => none
  | _, _ => none
theorem skSp_ok : SpecOk Tryz.prog 19 skSp := by
  refine can_spec2 Tryz.func19 (by kernel_rfl) (by kernel_rfl) fun args H fr path r hs => ?_
  unfold skSp at hs
  split at hs
  case h_2 => cases hs
  rename_i S b rest
  split at hs
  case h_2 => cases hs
  rename_i k n m hS
  split at hs
  case h_2 => cases hs
  rename_i ty cs o hk'
  split at hs
  case h_2 => cases hs
  rename_i xs hxs
  split at hs
  · injection hs with hs
    refine ⟨[k], 1, 0, [], _, _, _, rest, hs.symm, fun β us w ha hg hc => ?_⟩
    obtain ⟨u1, us1, r1, ha, rfl⟩ := ha
    obtain ⟨hl, hm, hn, hb, _⟩ := hc
    obtain ⟨m', _, r1⟩ := asSm_rel hS (Nat.le_of_ble_eq_true hm) r1
    obtain ⟨g1, g2, g3⟩ := good_by hg hk' hxs
    exact ⟨[slA 0 0 n m'], byH xs, sk_err (Nat.le_of_ble_eq_true hl) hn hb, by kernel_rfl, ⟨u1, _, sl_in (by omega) rfl r1, ha, rfl⟩, g2, g3⟩
  · injection hs with hs
    refine ⟨[k], 1, 12, [], _, _, _, rest, hs.symm, fun β us w ha hg hc => ?_⟩
    obtain ⟨u1, us1, r1, ha, rfl⟩ := ha
    obtain ⟨hl, hm, hn, hb, _⟩ := hc
    obtain ⟨m', hm', r1⟩ := asSm_rel hS (Nat.le_of_ble_eq_true hm) r1
    obtain ⟨g1, g2, g3⟩ := good_by hg hk' hxs
    exact ⟨[slA 0 0 n m'], byH xs, sk_can (Nat.le_of_ble_eq_true hl) hm' hn hb, by kernel_rfl, ⟨u1, _, sl_in (by omega) rfl r1, ha, rfl⟩, g2, g3⟩
noncomputable def SVe : List (FuncId × ASpec) := (19, skSp) :: (21, nilSpec smSp) :: (71, nilSpec (dcSp fun s L => gmV (dec1 s L))) :: SVc
theorem SVeok : SpecsOk Tryz.prog SVe := ⟨skSp_ok, nilSpec_ok smSp_ok, nilSpec_ok (dcSp_ok Tryz.func71 (by kernel_rfl) (by kernel_rfl) (fun _ _ => by kernel_rfl) fun _ _ _ s hl hm hn => dec1_can hl hm hn s), SVcok⟩
noncomputable abbrev oVe : Orc := orc SVe KV
theorem oVeok : OrcOk Tryz.prog oVe := orc_ok SVeok KVok
noncomputable def SVf : List (FuncId × ASpec) := (25, inlSpec Tryz.prog oVe Tryz.f25 300) :: (17, inlSpec Tryz.prog oVe Tryz.f17 300) :: (22, inlSpec Tryz.prog oVe Tryz.f22 600) :: (45, inlSpec Tryz.prog oVe Tryz.f45 300) :: SVe
theorem SVfok : SpecsOk Tryz.prog SVf := ⟨inl_ok oVeok mixed Tryz.func25 (by kernel_rfl) (by kernel_rfl) 300, inl_ok oVeok mixed Tryz.func17 (by kernel_rfl) (by kernel_rfl) 300, inl_ok oVeok mixed Tryz.func22 (by kernel_rfl) (by kernel_rfl) 600, inl_ok oVeok mixed Tryz.func45 (by kernel_rfl) (by kernel_rfl) 300, SVeok⟩
noncomputable abbrev oVf : Orc := orc SVf KV
theorem oVfok : OrcOk Tryz.prog oVf := orc_ok SVfok KVok
end Go.Proofs.YtfmajnlfpnjagaaGreat
/- sigillaw21: awake, BlsNames. -/
namespace Go.Proofs.YtfmajnlfpnjagaaGreat
open Ex Num Rg
open Sh (R av rd mo en mo_en)
set_option maxRecDepth 100000
set_option maxHeartbeats 4000000

def oneB : List Int := List.take (Int.toNat 31) (List.drop 0 (List.replicate (Int.toNat 31) 0)) ++ [1]
def oneN : Nat := natB (win oneB 0 (Int.toNat 31 + 1))
def zerN : Nat := natB (win (List.replicate (Int.toNat 32) 0) 0 (Int.toNat 32))
theorem oneN_eq : oneN = 1 := by kernel_rfl
theorem zerN_eq : zerN = 0 := by kernel_rfl
noncomputable def aw21C : List (Bool × Bool) := tt 7 ((skB (Int.toNat 32) zerN, false) :: tt 9 ((skB (Int.toNat 31 + 1) oneN, true) :: (in1 (toPt (ptX G1B) (ptY G1B) (ptI G1B)), true) :: (Nat.ble (0 + 48) (e1L true (smul oneN G1B)).length, true) :: (Nat.ble (0 + 48) (e1L true (toPt (ptX G1B) (ptY G1B) (ptI G1B))).length, true) ::
  tt 2 ((smB (win (e1L true (smul oneN G1B)) 0 48) (win (e1L true (toPt (ptX G1B) (ptY G1B) (ptI G1B))) 0 48), true) :: tt 2 ((Nat.ble 48 (e1L true (smul oneN G1B)).length, true) :: tt 2 ((decide ((dec1 true (win (e1L true (smul oneN G1B)) 0 48)).2 = 0), true) :: (!ptI (dec1 true (win (e1L true (smul oneN G1B)) 0 48)).1, true) :: tt 3 [(false, false)])))))
theorem aw21_run : pureRun Tryz.prog oVf Tryz.f15 [] [true, true, true, false, false, true, true, true, true, false] 1000 = some (aw21C, .val false [.b true]) := by kernel_rfl
theorem ecL_l (s i b : Bool) (B : List Int) : (ecL s i b B).length = B.length := by
  cases B with
  | nil => cases s <;> cases i <;> cases b <;> rfl
  | cons f t => rw [ecL_cons]; rfl
theorem e1L_l (s : Bool) (p : Pt FP) : (e1L s p).length = 96 := by rw [e1L_ec, ecL_l, b1_cat, cat_length]; rfl
theorem skB_zero : skB (Int.toNat 32) zerN = false := by
  cases h : skB (Int.toNat 32) zerN with
  | false => rfl
  | true => exact absurd zerN_eq (skB_iff.1 h).2.2
theorem rN_gt1 : 1 < rN := by rw [rN_eq]; exact nblt.1 (by kernel_rfl)
theorem skB_one : skB (Int.toNat 31 + 1) oneN = true := skB_iff.2 ⟨rfl, by rw [oneN_eq]; exact rN_gt1, by rw [oneN_eq]; decide⟩
theorem smBr (l : List Int) : smB l l = true := decide_eq_true rfl
theorem aw21_ok : PureOk Tryz.prog 15 [] (.val false [.b true]) := by
  have r := aw21_run
  have e1 : smul oneN G1B = G1B := by rw [oneN_eq]; rfl
  have hd : dec1 true (win (e1L true G1B) 0 48) = (G1B, 0) := dec_enc1 in1_G true
  unfold aw21C at r
  rw [toPt_of, e1, hd] at r
  have hb : Nat.ble 48 (e1L true G1B).length = true := by rw [e1L_l]; rfl
  have hb' : Nat.ble (0 + 48) (e1L true G1B).length = true := by rw [e1L_l]; rfl
  exact pure_ok oVfok mixed Tryz.func15 r (tt_ok 7 ⟨skB_zero, tt_ok 9 ⟨skB_one, in1_G, hb', hb', tt_ok 2 ⟨smBr _, tt_ok 2 ⟨hb, tt_ok 2 ⟨decide_eq_true rfl, rfl, tt_ok 3 ⟨rfl, trivial⟩⟩⟩⟩⟩⟩) rfl
noncomputable def SVw : List (FuncId × ASpec) := (15, pureSpec yes12) :: SVf
theorem SVwok : SpecsOk Tryz.prog SVw := ⟨pureSpec_ok Tryz.func15 (by kernel_rfl) (by kernel_rfl) (sp0_ok aw21_ok fun u h => h), SVfok⟩
noncomputable abbrev oVw : Orc := orc SVw KV
theorem oVwok : OrcOk Tryz.prog oVw := orc_ok SVwok KVok
end Go.Proofs.YtfmajnlfpnjagaaGreat
/- sigillaw21: BlsOrders: the runs. -/
namespace Go.Proofs.YtfmajnlfpnjagaaGreat
open Ex Num Rg
open Sh (R av rd mo en mo_en)
set_option maxRecDepth 100000
set_option maxHeartbeats 4000000

noncomputable def SVg : List (FuncId × ASpec) := (16, inlSpec Tryz.prog oVw Tryz.f16 300) :: SVw
theorem SVgok : SpecsOk Tryz.prog SVg := ⟨inl_ok oVwok mixed Tryz.func16 (by kernel_rfl) (by kernel_rfl) 300, SVwok⟩
noncomputable abbrev oVg : Orc := orc SVg KV
noncomputable def boS (n0 m0 n1 m1 n2 m2 : Nat) (x0 x1 x2 : List Int) (p : List Bool) : ASt := entry Tryz.f7 [slA 0 0 n0 m0, slA 1 0 n1 m1, slA 2 0 n2 m2] [(0, roB [.seq .u8 x0]), (1, roB [.seq .u8 x1]), (2, roB [.seq .u8 x2])] 3 p
def zR2 : R P2 := (((0 : Nat), (0 : Nat)), ((0 : Nat), (0 : Nat)), true)
/-- One, three signatures' points, as the program adds them. -/
noncomputable def sA1 (p : P2) : P2 := Rg.add (mo zR2) (pR2 p)
noncomputable def sA3 (p q s : P2) : P2 := Rg.add (pR2 (Rg.add (pR2 (sA1 p)) (pR2 q))) (pR2 s)
noncomputable def dPt (x : List Int) (n : Nat) : P2 := (dec2 true (win x 0 n)).1
noncomputable def eWn (p : P2) : List Int := win (e2L true p) 0 96
def fewP : List Bool := [false, true, false, true, false, true, false, false]
theorem bo_l0 (n0 m0 n1 m1 n2 m2 : Nat) (x0 x1 x2 : List Int) : segOut Tryz.prog oVg Tryz.f7 800 3 [] (boS n0 m0 n1 m1 n2 m2 x0 x1 x2 ([false, true, true])) = some ((true, true) :: (false, false) :: tt 3 ((hasB IntKind.i64 (Int.ofNat n0), true) :: (decide (300 < Int.ofNat n0), true) :: []), [], .val false [.b true], []) := by kernel_rfl
theorem bo_l1 (n0 m0 n1 m1 n2 m2 : Nat) (x0 x1 x2 : List Int) : segOut Tryz.prog oVg Tryz.f7 800 3 [] (boS n0 m0 n1 m1 n2 m2 x0 x1 x2 ([false, true, false, true, true])) = some ((true, true) :: (false, false) :: tt 3 ((hasB IntKind.i64 (Int.ofNat n0), true) :: (decide (300 < Int.ofNat n0), false) :: tt 3 ((hasB IntKind.i64 (Int.ofNat n1), true) :: (decide (300 < Int.ofNat n1), true) :: [])), [], .val false [.b true], []) := by kernel_rfl
theorem bo_l2 (n0 m0 n1 m1 n2 m2 : Nat) (x0 x1 x2 : List Int) : segOut Tryz.prog oVg Tryz.f7 800 3 [] (boS n0 m0 n1 m1 n2 m2 x0 x1 x2 ([false, true, false, true, false, true, true])) = some ((true, true) :: (false, false) :: tt 3 ((hasB IntKind.i64 (Int.ofNat n0), true) :: (decide (300 < Int.ofNat n0), false) :: tt 3 ((hasB IntKind.i64 (Int.ofNat n1), true) :: (decide (300 < Int.ofNat n1), false) :: tt 3 ((hasB IntKind.i64 (Int.ofNat n2), true) :: (decide (300 < Int.ofNat n2), true) :: []))), [], .val false [.b true], []) := by kernel_rfl
theorem bo_000 (n0 m0 n1 m1 n2 m2 : Nat) (x0 x1 x2 : List Int) : segOut Tryz.prog oVg Tryz.f7 800 3 [] (boS n0 m0 n1 m1 n2 m2 x0 x1 x2 (fewP ++ ([false, true, false, true, false, true, false, false, false] ++ ([false, true, false, true, false, true, false, false, false] ++ ([false, false, false] ++ [false, true, false, false, false, true, true, true]))))) = some ((true, true) :: (false, false) :: tt 3 ((hasB IntKind.i64 (Int.ofNat n0), true) :: (decide (300 < Int.ofNat n0), false) :: tt 3 ((hasB IntKind.i64 (Int.ofNat n1), true) :: (decide (300 < Int.ofNat n1), false) :: tt 3 ((hasB IntKind.i64 (Int.ofNat n2), true) :: (decide (300 < Int.ofNat n2), false) :: (true, true) :: (false, false) :: (true, true) :: (false, false) :: tt 3 ((Nat.ble n0 (List.length x0), true) :: (Nat.ble n0 m0, true) :: (hasB IntKind.i64 (Int.ofNat n0), true) :: (!decide (Prod.snd (dec2 true (win x0 (0) n0)) = 0), false) :: tt 2 ((Nat.ble n1 (List.length x1), true) :: (Nat.ble n1 m1, true) :: (hasB IntKind.i64 (Int.ofNat n1), true) :: (!decide (Prod.snd (dec2 true (win x1 (0) n1)) = 0), false) :: tt 2 ((Nat.ble n2 (List.length x2), true) :: (Nat.ble n2 m2, true) :: (hasB IntKind.i64 (Int.ofNat n2), true) :: (!decide (Prod.snd (dec2 true (win x2 (0) n2)) = 0), false) :: (false, false) :: (in2 (pR2 (sA3 (dPt x0 n0) (dPt x1 n1) (dPt x2 n2))), true) :: (true, true) :: (false, false) :: tt 3 ((Nat.ble n2 (List.length x2), true) :: (Nat.ble n2 m2, true) :: (hasB IntKind.i64 (Int.ofNat n2), true) :: (!decide (Prod.snd (dec2 true (win x2 (0) n2)) = 0), false) :: tt 2 ((Nat.ble n0 (List.length x0), true) :: (Nat.ble n0 m0, true) :: (hasB IntKind.i64 (Int.ofNat n0), true) :: (!decide (Prod.snd (dec2 true (win x0 (0) n0)) = 0), false) :: tt 2 ((Nat.ble n1 (List.length x1), true) :: (Nat.ble n1 m1, true) :: (hasB IntKind.i64 (Int.ofNat n1), true) :: (!decide (Prod.snd (dec2 true (win x1 (0) n1)) = 0), false) :: (false, false) :: (in2 (pR2 (sA3 (dPt x2 n2) (dPt x0 n0) (dPt x1 n1))), true) :: (Nat.ble n0 (List.length x0), true) :: (Nat.ble n0 m0, true) :: (hasB IntKind.i64 (Int.ofNat n0), true) :: (Nat.ble n1 (List.length x1), true) :: (Nat.ble n1 m1, true) :: (hasB IntKind.i64 (Int.ofNat n1), true) :: (Nat.ble n2 (List.length x2), true) :: (Nat.ble n2 m2, true) :: (hasB IntKind.i64 (Int.ofNat n2), true) :: (!decide (Prod.snd (dec2 true (win x0 (0) n0)) = 0), false) :: (!decide (Prod.snd (dec2 true (win x1 (0) n1)) = 0), false) :: (!decide (Prod.snd (dec2 true (win x2 (0) n2)) = 0), false) :: (true, true) :: (false, false) :: tt 3 ((Nat.ble n0 (List.length x0), true) :: (Nat.ble n0 m0, true) :: (hasB IntKind.i64 (Int.ofNat n0), true) :: (!decide (Prod.snd (dec2 true (win x0 (0) n0)) = 0), false) :: (false, false) :: (in2 (pR2 (sA1 (dPt x0 n0))), true) :: (Nat.ble (0 + 96) (e2L true (pR2 (sA3 (dPt x0 n0) (dPt x1 n1) (dPt x2 n2)))).length, true) :: (Nat.ble (0 + 96) (e2L true (pR2 (sA3 (dPt x2 n2) (dPt x0 n0) (dPt x1 n1)))).length, true) :: tt 2 ((Nat.ble (0 + 96) (e2L true (pR2 (sA1 (dPt x0 n0)))).length, true) :: (Nat.ble (0 + n0) (List.length x0), true) :: (true, true) :: (hasB IntKind.i64 (Int.ofNat n0), true) :: (Nat.ble 96 (e2L true (pR2 (sA3 (dPt x0 n0) (dPt x1 n1) (dPt x2 n2)))).length, true) :: tt 2 ((smB (eWn (pR2 (sA3 (dPt x0 n0) (dPt x1 n1) (dPt x2 n2)))) (eWn (pR2 (sA3 (dPt x2 n2) (dPt x0 n0) (dPt x1 n1)))), true) :: (smB (eWn (pR2 (sA1 (dPt x0 n0)))) (win x0 0 n0), true) :: (decide ((dec2 true (eWn (pR2 (sA3 (dPt x0 n0) (dPt x1 n1) (dPt x2 n2))))).2 = 0), true) :: [])))))))))))), [], boolA (eqQ (dec2 true (eWn (pR2 (sA3 (dPt x0 n0) (dPt x1 n1) (dPt x2 n2))))).1 (Rg.add (pR2 (Rg.add (pR2 (dPt x0 n0)) (pR2 (dPt x1 n1)))) (pR2 (dPt x2 n2)))), []) := by kernel_rfl
theorem bo_001 (n0 m0 n1 m1 n2 m2 : Nat) (x0 x1 x2 : List Int) : segOut Tryz.prog oVg Tryz.f7 800 3 [] (boS n0 m0 n1 m1 n2 m2 x0 x1 x2 (fewP ++ [false, true, false, true, false, true, true, false, true, true, false, false, true, true, true, true, true])) = some ((true, true) :: (false, false) :: tt 3 ((hasB IntKind.i64 (Int.ofNat n0), true) :: (decide (300 < Int.ofNat n0), false) :: tt 3 ((hasB IntKind.i64 (Int.ofNat n1), true) :: (decide (300 < Int.ofNat n1), false) :: tt 3 ((hasB IntKind.i64 (Int.ofNat n2), true) :: (decide (300 < Int.ofNat n2), false) :: (true, true) :: (false, false) :: (true, true) :: (false, false) :: tt 3 ((Nat.ble n0 (List.length x0), true) :: (Nat.ble n0 m0, true) :: (hasB IntKind.i64 (Int.ofNat n0), true) :: (!decide (Prod.snd (dec2 true (win x0 (0) n0)) = 0), false) :: tt 2 ((Nat.ble n1 (List.length x1), true) :: (Nat.ble n1 m1, true) :: (hasB IntKind.i64 (Int.ofNat n1), true) :: (!decide (Prod.snd (dec2 true (win x1 (0) n1)) = 0), false) :: tt 2 ((Nat.ble n2 (List.length x2), true) :: (Nat.ble n2 m2, true) :: (hasB IntKind.i64 (Int.ofNat n2), true) :: (!decide (Prod.snd (dec2 true (win x2 (0) n2)) = 0), true) :: (true, true) :: (false, false) :: tt 3 ((Nat.ble n2 (List.length x2), true) :: (Nat.ble n2 m2, true) :: (hasB IntKind.i64 (Int.ofNat n2), true) :: (!decide (Prod.snd (dec2 true (win x2 (0) n2)) = 0), true) :: (Nat.ble n0 (List.length x0), true) :: (Nat.ble n0 m0, true) :: (hasB IntKind.i64 (Int.ofNat n0), true) :: (Nat.ble n1 (List.length x1), true) :: (Nat.ble n1 m1, true) :: (hasB IntKind.i64 (Int.ofNat n1), true) :: (Nat.ble n2 (List.length x2), true) :: (Nat.ble n2 m2, true) :: (hasB IntKind.i64 (Int.ofNat n2), true) :: (!decide (Prod.snd (dec2 true (win x0 (0) n0)) = 0), false) :: (!decide (Prod.snd (dec2 true (win x1 (0) n1)) = 0), false) :: (!decide (Prod.snd (dec2 true (win x2 (0) n2)) = 0), true) :: (!decide (Prod.snd (dec2 true (win x2 (0) n2)) = 0), true) :: (!decide (Prod.snd (dec2 true (win x2 (0) n2)) = 0), true) :: tt 2 ((decide (Prod.snd (dec2 true (win x0 (0) n0)) = 0), true) :: [])))))))), [], .val false [.b true], []) := by kernel_rfl
theorem bo_010 (n0 m0 n1 m1 n2 m2 : Nat) (x0 x1 x2 : List Int) : segOut Tryz.prog oVg Tryz.f7 800 3 [] (boS n0 m0 n1 m1 n2 m2 x0 x1 x2 (fewP ++ [false, true, false, true, true, false, true, false, true, false, true, true, false, true, true, true, true, true])) = some ((true, true) :: (false, false) :: tt 3 ((hasB IntKind.i64 (Int.ofNat n0), true) :: (decide (300 < Int.ofNat n0), false) :: tt 3 ((hasB IntKind.i64 (Int.ofNat n1), true) :: (decide (300 < Int.ofNat n1), false) :: tt 3 ((hasB IntKind.i64 (Int.ofNat n2), true) :: (decide (300 < Int.ofNat n2), false) :: (true, true) :: (false, false) :: (true, true) :: (false, false) :: tt 3 ((Nat.ble n0 (List.length x0), true) :: (Nat.ble n0 m0, true) :: (hasB IntKind.i64 (Int.ofNat n0), true) :: (!decide (Prod.snd (dec2 true (win x0 (0) n0)) = 0), false) :: tt 2 ((Nat.ble n1 (List.length x1), true) :: (Nat.ble n1 m1, true) :: (hasB IntKind.i64 (Int.ofNat n1), true) :: (!decide (Prod.snd (dec2 true (win x1 (0) n1)) = 0), true) :: (true, true) :: (false, false) :: tt 3 ((Nat.ble n2 (List.length x2), true) :: (Nat.ble n2 m2, true) :: (hasB IntKind.i64 (Int.ofNat n2), true) :: (!decide (Prod.snd (dec2 true (win x2 (0) n2)) = 0), false) :: tt 2 ((Nat.ble n0 (List.length x0), true) :: (Nat.ble n0 m0, true) :: (hasB IntKind.i64 (Int.ofNat n0), true) :: (!decide (Prod.snd (dec2 true (win x0 (0) n0)) = 0), false) :: tt 2 ((Nat.ble n1 (List.length x1), true) :: (Nat.ble n1 m1, true) :: (hasB IntKind.i64 (Int.ofNat n1), true) :: (!decide (Prod.snd (dec2 true (win x1 (0) n1)) = 0), true) :: (Nat.ble n0 (List.length x0), true) :: (Nat.ble n0 m0, true) :: (hasB IntKind.i64 (Int.ofNat n0), true) :: (Nat.ble n1 (List.length x1), true) :: (Nat.ble n1 m1, true) :: (hasB IntKind.i64 (Int.ofNat n1), true) :: (Nat.ble n2 (List.length x2), true) :: (Nat.ble n2 m2, true) :: (hasB IntKind.i64 (Int.ofNat n2), true) :: (!decide (Prod.snd (dec2 true (win x0 (0) n0)) = 0), false) :: (!decide (Prod.snd (dec2 true (win x1 (0) n1)) = 0), true) :: (!decide (Prod.snd (dec2 true (win x1 (0) n1)) = 0), true) :: (!decide (Prod.snd (dec2 true (win x1 (0) n1)) = 0), true) :: tt 2 ((decide (Prod.snd (dec2 true (win x0 (0) n0)) = 0), true) :: []))))))))), [], .val false [.b true], []) := by kernel_rfl
theorem bo_011 (n0 m0 n1 m1 n2 m2 : Nat) (x0 x1 x2 : List Int) : segOut Tryz.prog oVg Tryz.f7 800 3 [] (boS n0 m0 n1 m1 n2 m2 x0 x1 x2 (fewP ++ [false, true, false, true, true, false, true, true, false, true, true, true, true, true])) = some ((true, true) :: (false, false) :: tt 3 ((hasB IntKind.i64 (Int.ofNat n0), true) :: (decide (300 < Int.ofNat n0), false) :: tt 3 ((hasB IntKind.i64 (Int.ofNat n1), true) :: (decide (300 < Int.ofNat n1), false) :: tt 3 ((hasB IntKind.i64 (Int.ofNat n2), true) :: (decide (300 < Int.ofNat n2), false) :: (true, true) :: (false, false) :: (true, true) :: (false, false) :: tt 3 ((Nat.ble n0 (List.length x0), true) :: (Nat.ble n0 m0, true) :: (hasB IntKind.i64 (Int.ofNat n0), true) :: (!decide (Prod.snd (dec2 true (win x0 (0) n0)) = 0), false) :: tt 2 ((Nat.ble n1 (List.length x1), true) :: (Nat.ble n1 m1, true) :: (hasB IntKind.i64 (Int.ofNat n1), true) :: (!decide (Prod.snd (dec2 true (win x1 (0) n1)) = 0), true) :: (true, true) :: (false, false) :: tt 3 ((Nat.ble n2 (List.length x2), true) :: (Nat.ble n2 m2, true) :: (hasB IntKind.i64 (Int.ofNat n2), true) :: (!decide (Prod.snd (dec2 true (win x2 (0) n2)) = 0), true) :: (Nat.ble n0 (List.length x0), true) :: (Nat.ble n0 m0, true) :: (hasB IntKind.i64 (Int.ofNat n0), true) :: (Nat.ble n1 (List.length x1), true) :: (Nat.ble n1 m1, true) :: (hasB IntKind.i64 (Int.ofNat n1), true) :: (Nat.ble n2 (List.length x2), true) :: (Nat.ble n2 m2, true) :: (hasB IntKind.i64 (Int.ofNat n2), true) :: (!decide (Prod.snd (dec2 true (win x0 (0) n0)) = 0), false) :: (!decide (Prod.snd (dec2 true (win x1 (0) n1)) = 0), true) :: (!decide (Prod.snd (dec2 true (win x1 (0) n1)) = 0), true) :: (!decide (Prod.snd (dec2 true (win x2 (0) n2)) = 0), true) :: tt 2 ((decide (Prod.snd (dec2 true (win x0 (0) n0)) = 0), true) :: []))))))), [], .val false [.b true], []) := by kernel_rfl
theorem bo_100 (n0 m0 n1 m1 n2 m2 : Nat) (x0 x1 x2 : List Int) : segOut Tryz.prog oVg Tryz.f7 800 3 [] (boS n0 m0 n1 m1 n2 m2 x0 x1 x2 (fewP ++ [false, true, true, false, true, false, true, true, true, true, true, true, false])) = some ((true, true) :: (false, false) :: tt 3 ((hasB IntKind.i64 (Int.ofNat n0), true) :: (decide (300 < Int.ofNat n0), false) :: tt 3 ((hasB IntKind.i64 (Int.ofNat n1), true) :: (decide (300 < Int.ofNat n1), false) :: tt 3 ((hasB IntKind.i64 (Int.ofNat n2), true) :: (decide (300 < Int.ofNat n2), false) :: (true, true) :: (false, false) :: (true, true) :: (false, false) :: tt 3 ((Nat.ble n0 (List.length x0), true) :: (Nat.ble n0 m0, true) :: (hasB IntKind.i64 (Int.ofNat n0), true) :: (!decide (Prod.snd (dec2 true (win x0 (0) n0)) = 0), true) :: (true, true) :: (false, false) :: tt 3 ((Nat.ble n2 (List.length x2), true) :: (Nat.ble n2 m2, true) :: (hasB IntKind.i64 (Int.ofNat n2), true) :: (!decide (Prod.snd (dec2 true (win x2 (0) n2)) = 0), false) :: tt 2 ((Nat.ble n0 (List.length x0), true) :: (Nat.ble n0 m0, true) :: (hasB IntKind.i64 (Int.ofNat n0), true) :: (!decide (Prod.snd (dec2 true (win x0 (0) n0)) = 0), true) :: (Nat.ble n0 (List.length x0), true) :: (Nat.ble n0 m0, true) :: (hasB IntKind.i64 (Int.ofNat n0), true) :: (Nat.ble n1 (List.length x1), true) :: (Nat.ble n1 m1, true) :: (hasB IntKind.i64 (Int.ofNat n1), true) :: (Nat.ble n2 (List.length x2), true) :: (Nat.ble n2 m2, true) :: (hasB IntKind.i64 (Int.ofNat n2), true) :: (!decide (Prod.snd (dec2 true (win x0 (0) n0)) = 0), true) :: (!decide (Prod.snd (dec2 true (win x0 (0) n0)) = 0), true) :: (!decide (Prod.snd (dec2 true (win x0 (0) n0)) = 0), true) :: tt 2 ((decide (Prod.snd (dec2 true (win x0 (0) n0)) = 0), false) :: []))))))), [], boolA (decide ((dec2 true (win x0 0 n0)).2 = (dec2 true (win x0 0 n0)).2)), []) := by kernel_rfl
theorem bo_101 (n0 m0 n1 m1 n2 m2 : Nat) (x0 x1 x2 : List Int) : segOut Tryz.prog oVg Tryz.f7 800 3 [] (boS n0 m0 n1 m1 n2 m2 x0 x1 x2 (fewP ++ [false, true, true, false, true, true, true, true, true, true, false])) = some ((true, true) :: (false, false) :: tt 3 ((hasB IntKind.i64 (Int.ofNat n0), true) :: (decide (300 < Int.ofNat n0), false) :: tt 3 ((hasB IntKind.i64 (Int.ofNat n1), true) :: (decide (300 < Int.ofNat n1), false) :: tt 3 ((hasB IntKind.i64 (Int.ofNat n2), true) :: (decide (300 < Int.ofNat n2), false) :: (true, true) :: (false, false) :: (true, true) :: (false, false) :: tt 3 ((Nat.ble n0 (List.length x0), true) :: (Nat.ble n0 m0, true) :: (hasB IntKind.i64 (Int.ofNat n0), true) :: (!decide (Prod.snd (dec2 true (win x0 (0) n0)) = 0), true) :: (true, true) :: (false, false) :: tt 3 ((Nat.ble n2 (List.length x2), true) :: (Nat.ble n2 m2, true) :: (hasB IntKind.i64 (Int.ofNat n2), true) :: (!decide (Prod.snd (dec2 true (win x2 (0) n2)) = 0), true) :: (Nat.ble n0 (List.length x0), true) :: (Nat.ble n0 m0, true) :: (hasB IntKind.i64 (Int.ofNat n0), true) :: (Nat.ble n1 (List.length x1), true) :: (Nat.ble n1 m1, true) :: (hasB IntKind.i64 (Int.ofNat n1), true) :: (Nat.ble n2 (List.length x2), true) :: (Nat.ble n2 m2, true) :: (hasB IntKind.i64 (Int.ofNat n2), true) :: (!decide (Prod.snd (dec2 true (win x0 (0) n0)) = 0), true) :: (!decide (Prod.snd (dec2 true (win x0 (0) n0)) = 0), true) :: (!decide (Prod.snd (dec2 true (win x2 (0) n2)) = 0), true) :: tt 2 ((decide (Prod.snd (dec2 true (win x0 (0) n0)) = 0), false) :: [])))))), [], boolA (decide ((dec2 true (win x0 0 n0)).2 = (dec2 true (win x0 0 n0)).2)), []) := by kernel_rfl
theorem bo_110 (n0 m0 n1 m1 n2 m2 : Nat) (x0 x1 x2 : List Int) : segOut Tryz.prog oVg Tryz.f7 800 3 [] (boS n0 m0 n1 m1 n2 m2 x0 x1 x2 (fewP ++ [false, true, true, false, true, false, true, true, true, true, true, true, false])) = some ((true, true) :: (false, false) :: tt 3 ((hasB IntKind.i64 (Int.ofNat n0), true) :: (decide (300 < Int.ofNat n0), false) :: tt 3 ((hasB IntKind.i64 (Int.ofNat n1), true) :: (decide (300 < Int.ofNat n1), false) :: tt 3 ((hasB IntKind.i64 (Int.ofNat n2), true) :: (decide (300 < Int.ofNat n2), false) :: (true, true) :: (false, false) :: (true, true) :: (false, false) :: tt 3 ((Nat.ble n0 (List.length x0), true) :: (Nat.ble n0 m0, true) :: (hasB IntKind.i64 (Int.ofNat n0), true) :: (!decide (Prod.snd (dec2 true (win x0 (0) n0)) = 0), true) :: (true, true) :: (false, false) :: tt 3 ((Nat.ble n2 (List.length x2), true) :: (Nat.ble n2 m2, true) :: (hasB IntKind.i64 (Int.ofNat n2), true) :: (!decide (Prod.snd (dec2 true (win x2 (0) n2)) = 0), false) :: tt 2 ((Nat.ble n0 (List.length x0), true) :: (Nat.ble n0 m0, true) :: (hasB IntKind.i64 (Int.ofNat n0), true) :: (!decide (Prod.snd (dec2 true (win x0 (0) n0)) = 0), true) :: (Nat.ble n0 (List.length x0), true) :: (Nat.ble n0 m0, true) :: (hasB IntKind.i64 (Int.ofNat n0), true) :: (Nat.ble n1 (List.length x1), true) :: (Nat.ble n1 m1, true) :: (hasB IntKind.i64 (Int.ofNat n1), true) :: (Nat.ble n2 (List.length x2), true) :: (Nat.ble n2 m2, true) :: (hasB IntKind.i64 (Int.ofNat n2), true) :: (!decide (Prod.snd (dec2 true (win x0 (0) n0)) = 0), true) :: (!decide (Prod.snd (dec2 true (win x0 (0) n0)) = 0), true) :: (!decide (Prod.snd (dec2 true (win x0 (0) n0)) = 0), true) :: tt 2 ((decide (Prod.snd (dec2 true (win x0 (0) n0)) = 0), false) :: []))))))), [], boolA (decide ((dec2 true (win x0 0 n0)).2 = (dec2 true (win x0 0 n0)).2)), []) := by kernel_rfl
theorem bo_111 (n0 m0 n1 m1 n2 m2 : Nat) (x0 x1 x2 : List Int) : segOut Tryz.prog oVg Tryz.f7 800 3 [] (boS n0 m0 n1 m1 n2 m2 x0 x1 x2 (fewP ++ [false, true, true, false, true, true, true, true, true, true, false])) = some ((true, true) :: (false, false) :: tt 3 ((hasB IntKind.i64 (Int.ofNat n0), true) :: (decide (300 < Int.ofNat n0), false) :: tt 3 ((hasB IntKind.i64 (Int.ofNat n1), true) :: (decide (300 < Int.ofNat n1), false) :: tt 3 ((hasB IntKind.i64 (Int.ofNat n2), true) :: (decide (300 < Int.ofNat n2), false) :: (true, true) :: (false, false) :: (true, true) :: (false, false) :: tt 3 ((Nat.ble n0 (List.length x0), true) :: (Nat.ble n0 m0, true) :: (hasB IntKind.i64 (Int.ofNat n0), true) :: (!decide (Prod.snd (dec2 true (win x0 (0) n0)) = 0), true) :: (true, true) :: (false, false) :: tt 3 ((Nat.ble n2 (List.length x2), true) :: (Nat.ble n2 m2, true) :: (hasB IntKind.i64 (Int.ofNat n2), true) :: (!decide (Prod.snd (dec2 true (win x2 (0) n2)) = 0), true) :: (Nat.ble n0 (List.length x0), true) :: (Nat.ble n0 m0, true) :: (hasB IntKind.i64 (Int.ofNat n0), true) :: (Nat.ble n1 (List.length x1), true) :: (Nat.ble n1 m1, true) :: (hasB IntKind.i64 (Int.ofNat n1), true) :: (Nat.ble n2 (List.length x2), true) :: (Nat.ble n2 m2, true) :: (hasB IntKind.i64 (Int.ofNat n2), true) :: (!decide (Prod.snd (dec2 true (win x0 (0) n0)) = 0), true) :: (!decide (Prod.snd (dec2 true (win x0 (0) n0)) = 0), true) :: (!decide (Prod.snd (dec2 true (win x2 (0) n2)) = 0), true) :: tt 2 ((decide (Prod.snd (dec2 true (win x0 (0) n0)) = 0), false) :: [])))))), [], boolA (decide ((dec2 true (win x0 0 n0)).2 = (dec2 true (win x0 0 n0)).2)), []) := by kernel_rfl
end Go.Proofs.YtfmajnlfpnjagaaGreat
/- sigillaw21: BlsOrders. -/
namespace Go.Proofs.YtfmajnlfpnjagaaGreat
open Ex Num Rg
open Sh (R av rd mo en mo_en)
set_option maxRecDepth 100000
set_option maxHeartbeats 4000000

theorem pI1_inf {p : P2} (h : pI1 p = true) : p = .inf := by
  cases p with
  | inf => rfl
  | pt x y => cases h
theorem in2_add {p q : P2} (hp : in2 p = true) (hq : in2 q = true) : in2 (Rg.add p q) = true := by
  obtain ⟨a1, a2⟩ := Bool.and_eq_true_iff.1 hp
  obtain ⟨b1, b2⟩ := Bool.and_eq_true_iff.1 hq
  have c1 := (on2_iff _).1 a1
  have c2 := (on2_iff _).1 b1
  unfold in2
  rw [(on2_iff _).2 (on_add C2 c1 c2), smul_addp C2 c1 c2, pI1_inf a2, pI1_inf b2]
  rfl
theorem sA1_eq (p : P2) : sA1 p = p := by
  unfold sA1
  rw [pR2_eq']
  rfl
theorem sA3_eq (p q s : P2) : sA3 p q s = Rg.add (Rg.add p q) s := by
  unfold sA3
  rw [sA1_eq, pR2_eq', pR2_eq', pR2_eq', pR2_eq']
theorem eWn_len (p : P2) {n : Nat} (h : n ≤ 192) : Nat.ble n (e2L true p).length = true := by rw [e2L_len]; exact Nat.ble_eq_true_of_le h
theorem can_tt {f : FuncId} {args : List AV} {H : Heap} {k0 : Nat} (h : CanOk Tryz.prog f args H k0 [] (.val false [.b true]) []) : CanOk Tryz.prog f args H k0 [] (boolA true) [] :=
  can_val h fun _ _ ⟨l1, l2, h1, h3, h4⟩ => ⟨l1, l2, ⟨h1, rfl, trivial⟩, h3, h4⟩
def okB : List (Bool × Bool) → Bool
  | [] => true
  | (x, d) :: r => (x == d) && okB r
theorem okB_ok : ∀ {c : List (Bool × Bool)}, okB c = true → okConds c
  | [], _ => trivial
  | (x, d) :: r, h => by
    obtain ⟨h1, h2⟩ := Bool.and_eq_true_iff.1 h
    exact ⟨beq_iff_eq.1 h1, okB_ok h2⟩
section
variable {n0 m0 n1 m1 n2 m2 : Nat} {x0 x1 x2 : List Int}
noncomputable def boH (x0 x1 x2 : List Int) : Heap := [(0, roB [.seq .u8 x0]), (1, roB [.seq .u8 x1]), (2, roB [.seq .u8 x2])]
theorem bo_run {v : AV} {c : List (Bool × Bool)} {p : List Bool} (h : segOut Tryz.prog oVg Tryz.f7 800 3 [] (boS n0 m0 n1 m1 n2 m2 x0 x1 x2 p) = some (c, [], v, [])) (hc : okConds c) : CanOk Tryz.prog 7 [slA 0 0 n0 m0, slA 1 0 n1 m1, slA 2 0 n2 m2] (boH x0 x1 x2) 3 [] v [] :=
  can_run SVgok KVok Tryz.func7 (by kernel_rfl) (by kernel_rfl) h (by kernel_rfl) hc
theorem bo_ok (y0 : ∀ d ∈ x0, 0 ≤ d ∧ d < 256) (y1 : ∀ d ∈ x1, 0 ≤ d ∧ d < 256) (y2 : ∀ d ∈ x2, 0 ≤ d ∧ d < 256) (a0 : Nat.ble n0 x0.length = true) (b0 : Nat.ble n0 m0 = true) (c0 : hasB .i64 (Int.ofNat n0) = true) (a1 : Nat.ble n1 x1.length = true) (b1 : Nat.ble n1 m1 = true) (c1 : hasB .i64 (Int.ofNat n1) = true) (a2 : Nat.ble n2 x2.length = true) (b2 : Nat.ble n2 m2 = true) (c2 : hasB .i64 (Int.ofNat n2) = true) : CanOk Tryz.prog 7 [slA 0 0 n0 m0, slA 1 0 n1 m1, slA 2 0 n2 m2] (boH x0 x1 x2) 3 [] (boolA true) [] := by
  cases d0 : decide ((300 : Int) < Int.ofNat n0) with
  | true =>
    have r := bo_l0 n0 m0 n1 m1 n2 m2 x0 x1 x2
    rw [c0, d0] at r
    exact can_tt (bo_run r (okB_ok rfl))
  | false =>
  cases d1 : decide ((300 : Int) < Int.ofNat n1) with
  | true =>
    have r := bo_l1 n0 m0 n1 m1 n2 m2 x0 x1 x2
    rw [c0, c1, d0, d1] at r
    exact can_tt (bo_run r (okB_ok rfl))
  | false =>
  cases d2 : decide ((300 : Int) < Int.ofNat n2) with
  | true =>
    have r := bo_l2 n0 m0 n1 m1 n2 m2 x0 x1 x2
    rw [c0, c1, c2, d0, d1, d2] at r
    exact can_tt (bo_run r (okB_ok rfl))
  | false =>
  have E : ∀ (x : List Int) (n : Nat), (!decide ((dec2 true (win x 0 n)).2 = 0)) = true → decide ((dec2 true (win x 0 n)).2 = 0) = false := fun x n h => by
    cases q : decide ((dec2 true (win x 0 n)).2 = 0) with
    | false => rfl
    | true => rw [q] at h; cases h
  have E' : ∀ (x : List Int) (n : Nat), (!decide ((dec2 true (win x 0 n)).2 = 0)) = false → (dec2 true (win x 0 n)).2 = 0 := fun x n h => by
    cases q : decide ((dec2 true (win x 0 n)).2 = 0) with
    | true => exact of_decide_eq_true q
    | false => rw [q] at h; cases h
  cases e0 : (!decide ((dec2 true (win x0 0 n0)).2 = 0)) with
  | true =>
    cases e1 : (!decide ((dec2 true (win x1 0 n1)).2 = 0)) with
    | true =>
      cases e2 : (!decide ((dec2 true (win x2 0 n2)).2 = 0)) with
      | true =>
        have r := bo_111 n0 m0 n1 m1 n2 m2 x0 x1 x2
        have f0 := E _ _ e0
        have f2 := E _ _ e2
        simp only [a0, b0, c0, a1, b1, c1, a2, b2, c2, d0, d1, d2, f0, f2, Bool.not_false] at r
        exact can_bool (bo_run r (okB_ok rfl)) (by simp)
      | false =>
        have r := bo_110 n0 m0 n1 m1 n2 m2 x0 x1 x2
        have f0 := E _ _ e0
        have f2 := decide_eq_true (E' _ _ e2)
        simp only [a0, b0, c0, a1, b1, c1, a2, b2, c2, d0, d1, d2, f0, f2, Bool.not_false, Bool.not_true] at r
        exact can_bool (bo_run r (okB_ok rfl)) (by simp)
    | false =>
      cases e2 : (!decide ((dec2 true (win x2 0 n2)).2 = 0)) with
      | true =>
        have r := bo_101 n0 m0 n1 m1 n2 m2 x0 x1 x2
        have f0 := E _ _ e0
        have f2 := E _ _ e2
        simp only [a0, b0, c0, a1, b1, c1, a2, b2, c2, d0, d1, d2, f0, f2, Bool.not_false] at r
        exact can_bool (bo_run r (okB_ok rfl)) (by simp)
      | false =>
        have r := bo_100 n0 m0 n1 m1 n2 m2 x0 x1 x2
        have f0 := E _ _ e0
        have f2 := decide_eq_true (E' _ _ e2)
        simp only [a0, b0, c0, a1, b1, c1, a2, b2, c2, d0, d1, d2, f0, f2, Bool.not_false, Bool.not_true] at r
        exact can_bool (bo_run r (okB_ok rfl)) (by simp)
  | false =>
    cases e1 : (!decide ((dec2 true (win x1 0 n1)).2 = 0)) with
    | true =>
      cases e2 : (!decide ((dec2 true (win x2 0 n2)).2 = 0)) with
      | true =>
        have r := bo_011 n0 m0 n1 m1 n2 m2 x0 x1 x2
        have f0 := decide_eq_true (E' _ _ e0)
        have f1 := E _ _ e1
        have f2 := E _ _ e2
        simp only [a0, b0, c0, a1, b1, c1, a2, b2, c2, d0, d1, d2, f0, f1, f2, Bool.not_false, Bool.not_true] at r
        exact can_tt (bo_run r (okB_ok rfl))
      | false =>
        have r := bo_010 n0 m0 n1 m1 n2 m2 x0 x1 x2
        have f0 := decide_eq_true (E' _ _ e0)
        have f1 := E _ _ e1
        have f2 := decide_eq_true (E' _ _ e2)
        simp only [a0, b0, c0, a1, b1, c1, a2, b2, c2, d0, d1, d2, f0, f1, f2, Bool.not_false, Bool.not_true] at r
        exact can_tt (bo_run r (okB_ok rfl))
    | false =>
      cases e2 : (!decide ((dec2 true (win x2 0 n2)).2 = 0)) with
      | true =>
        have r := bo_001 n0 m0 n1 m1 n2 m2 x0 x1 x2
        have f0 := decide_eq_true (E' _ _ e0)
        have f1 := decide_eq_true (E' _ _ e1)
        have f2 := E _ _ e2
        simp only [a0, b0, c0, a1, b1, c1, a2, b2, c2, d0, d1, d2, f0, f1, f2, Bool.not_false, Bool.not_true] at r
        exact can_tt (bo_run r (okB_ok rfl))
      | false =>
        have := bo_000 n0 m0 n1 m1 n2 m2 x0 x1 x2
        obtain ⟨i0, w0⟩ := enc_dec2 (win_has y0) (E' _ _ e0)
        obtain ⟨i1, w1⟩ := enc_dec2 (win_has y1) (E' _ _ e1)
        obtain ⟨i2, w2⟩ := enc_dec2 (win_has y2) (E' _ _ e2)
        have o0 := (on2_iff _).1 (in2_on i0)
        have o1 := (on2_iff _).1 (in2_on i1)
        have o2 := (on2_iff _).1 (in2_on i2)
        have hs : sA3 (dPt x2 n2) (dPt x0 n0) (dPt x1 n1) = sA3 (dPt x0 n0) (dPt x1 n1) (dPt x2 n2) := by
          rw [sA3_eq, sA3_eq]
          exact (add_assoc' C2 o2 o0 o1).trans (add_comm' C2 o2 (on_add C2 o0 o1))
        have hi : in2 (pR2 (sA3 (dPt x0 n0) (dPt x1 n1) (dPt x2 n2))) = true := by rw [pR2_eq', sA3_eq]; exact in2_add (in2_add i0 i1) i2
        have hd := dec_enc2 hi true
        have k1 : in2 (pR2 (sA1 (dPt x0 n0))) = true := by rw [pR2_eq', sA1_eq]; exact i0
        have k2 : smB (eWn (pR2 (sA1 (dPt x0 n0)))) (win x0 0 n0) = true := smB_of (by rw [pR2_eq', sA1_eq]; exact w0)
        have k3 : decide ((dec2 true (eWn (pR2 (sA3 (dPt x0 n0) (dPt x1 n1) (dPt x2 n2))))).2 = 0) = true := decide_eq_true (congrArg Prod.snd hd)
        have l1 := fun p => eWn_len p (n := 96) (by decide)
        have a0' : Nat.ble (0 + n0) x0.length = true := by rw [Nat.zero_add]; exact a0
        rw [hs] at this
        simp only [a0, b0, c0, a1, b1, c1, a2, b2, c2, a0', d0, d1, d2, e0, e1, e2, hi, k1, k2, k3, l1, smB_of rfl] at this
        exact can_bool (bo_run this (okB_ok rfl)) (eqQ_of ((congrArg Prod.fst hd).trans (by rw [pR2_eq', sA3_eq, pR2_eq', pR2_eq', pR2_eq', pR2_eq'])))
end
theorem blsOrders_walk : LawWalk Tryz.prog 7 Tryz.f7 := walk_can fun H enc us W base ds ps hv hA => by
  have hp : Tryz.f7.params.toList = [23, 23, 23] := by kernel_rfl
  have hp' : Tryz.f7.params = #[23, 23, 23] := by kernel_rfl
  rw [hp] at hA
  rw [hp'] at hv
  obtain ⟨v1, us1, d1, ds1, p1, q1, rfl, rfl, t1, hA⟩ := args_cons hA
  obtain ⟨v2, us2, d2, ds2, p2, q2, rfl, rfl, t2, hA⟩ := args_cons hA
  obtain ⟨v3, us3, d3, ds3, p3, q3, rfl, rfl, t3, hA⟩ := args_cons hA
  obtain rfl := args0 hA rfl
  obtain ⟨L0, z0, n0, m0, y0, a0, b0, c0, r0, A0⟩ := bytes_arg_m (hv 0 _ v1 rfl rfl) t1 (ArgsOk.nil W)
  obtain ⟨L1, z1, n1, m1, y1, a1, b1, c1, r1, A1⟩ := bytes_arg_m (hv 1 _ v2 rfl rfl) t2 A0
  obtain ⟨L2, z2, n2, m2, y2, a2, b2, c2, r2, A2⟩ := bytes_arg_m (hv 2 _ v3 rfl rfl) t3 A1
  refine ⟨_, _, [slA 0 0 n0 m0, slA 1 0 n1 m1, slA 2 0 n2 m2], A2, ⟨v1, _, relA_mono (locEnv_le _ L2) (relA_mono (locEnv_le _ L1) r0), ⟨v2, _, relA_mono (locEnv_le _ L2) r1, ⟨v3, _, r2, rfl, rfl⟩, rfl⟩, rfl⟩, ?_⟩
  exact bo_ok y0 y1 y2 (Nat.ble_eq_true_of_le a0) (Nat.ble_eq_true_of_le b0) c0 (Nat.ble_eq_true_of_le a1) (Nat.ble_eq_true_of_le b1) c1 (Nat.ble_eq_true_of_le a2) (Nat.ble_eq_true_of_le b2) c2
end Go.Proofs.YtfmajnlfpnjagaaGreat
