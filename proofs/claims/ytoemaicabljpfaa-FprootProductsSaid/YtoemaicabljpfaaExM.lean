/- The executor's steps through a function's code, and what a run says of a call. -/
import Derived.Test.YtoemaicabljpfaaExL
namespace Go.Proofs.Ytoemaicabljpfaa.Ex

structure ASt where
  todo : List Item
  s : St

/-- What is written down on the way: conditions, the keys that may have been written. -/
structure Log where
  conds : List (Bool × Bool)
  keys : List Nat

def aRegion (P : Program) (O : Orc) (ops : Array Oper) (draw : Bool) (s : St) : Option (Log × St) :=
  match runOps P O ops ops.toList 0 s with
  | some (recs, s') => match draw with
    | false => some (⟨recConds recs, recKeys recs⟩, s')
    | true => match chkAll recs (masks ops.toList []) 0, allEdges ops.toList 0 with
      | true, true => some (⟨recConds recs, recKeys recs⟩, s')
      | _, _ => none
  | none => none

def aStep (P : Program) (O : Orc) (x : ASt) : Option (Log × ASt) :=
  match x.todo with
  | .code .skip :: k => some (⟨[], []⟩, ⟨k, x.s⟩)
  | .code (.label _) :: k => some (⟨[], []⟩, ⟨k, x.s⟩)
  | .inBlock _ :: k => some (⟨[], []⟩, ⟨k, x.s⟩)
  | .inScope _ :: k => some (⟨[], []⟩, ⟨k, x.s⟩)
  | .code (.seq a b) :: k => some (⟨[], []⟩, ⟨.code a :: .code b :: k, x.s⟩)
  | .code (.cond c a b) :: k => match evO (tget x.s.T) c with
    | some (.val false [.b true]) => some (⟨[], []⟩, ⟨.code a :: k, x.s⟩)
    | some (.val false [.b false]) => some (⟨[], []⟩, ⟨.code b :: k, x.s⟩)
    | some (.val false [.v (.bool z)]) => match x.s.path with
      | true :: rest => some (⟨[(z, true)], []⟩, ⟨.code a :: k, { x.s with path := rest }⟩)
      | false :: rest => some (⟨[(z, false)], []⟩, ⟨.code b :: k, { x.s with path := rest }⟩)
      | [] => none
    | _ => none
  | .code (.block id c) :: k => some (⟨[], []⟩, ⟨.code c :: .inBlock id :: k, x.s⟩)
  | .code (.loop c) :: k => some (⟨[], []⟩, ⟨.code c :: .inLoop c :: k, x.s⟩)
  | .inLoop c :: k => some (⟨[], []⟩, ⟨.code c :: .inLoop c :: k, x.s⟩)
  | .code (.scope c) :: k => some (⟨[], []⟩, ⟨.code c :: .inScope c :: k, x.s⟩)
  | .code (.exit id) :: k => match exitTo id k with
    | some k' => some (⟨[], []⟩, ⟨k', x.s⟩)
    | none => none
  | .code (.goto l) :: k => match gotoIn l k with
    | some k' => some (⟨[], []⟩, ⟨k', x.s⟩)
    | none => none
  | .code (.region _ ops draw) :: k => match aRegion P O ops draw x.s with
    | some (g, s') => some (g, ⟨k, s'⟩)
    | none => none
  | _ => none

/-- From here the frame ends as R says. -/
def Safe (P : Program) (f : FuncId) (R : Ending → World → Prop) (todo : List Item) (a : Act) (w : World) : Prop :=
  ∀ (b : Frame) (cs : List Frame), b.fn = f → b.kind = .normal → ∃ e w' fr, R e w' ∧ Comes P (lone (b.at a todo) cs w) (lone fr cs w') e ∧ fr.fn = f ∧ fr.leaving P w' e

section
variable {P : Program} {f : FuncId} {R : Ending → World → Prop} {a : Act} {w : World} {k : List Item}
theorem Safe.of_step {todo todo' : List Item} (h : ∀ (b : Frame) (cs : List Frame), step P (lone (b.at a todo) cs w) = .next (lone (b.at a todo') cs w)) (hs : Safe P f R todo' a w) : Safe P f R todo a w := by
  intro b cs hb hk
  obtain ⟨e, w', fr, h1, h2, h3, h4⟩ := hs b cs hb hk
  exact ⟨e, w', fr, h1, .of_steps (.one (h b cs)) h2, h3, h4⟩
theorem Safe.of_wp {c : Code} {k : List Item} (h : c.wp P (fun e a' w' => e = .normal ∧ Safe P f R k a' w') a w) : Safe P f R (.code c :: k) a w := by
  intro b cs hb hk
  obtain ⟨e, a', w', ⟨he, hs⟩, harr⟩ := h b k cs
  subst he
  obtain ⟨e, w'', fr, h1, h2, h3, h4⟩ := hs b cs hb hk
  exact ⟨e, w'', fr, h1, .of_steps harr h2, h3, h4⟩
theorem step_scope {b : Frame} {cs : List Frame} {c : Code} : step P (lone (b.at a (.code (.scope c) :: k)) cs w) = .next (lone (b.at a (.code c :: .inScope c :: k)) cs w) :=
  step_lone_go (by simp [stepG, stepG.exec, Frame.at])
theorem step_inScope {b : Frame} {cs : List Frame} {c : Code} : step P (lone (b.at a (.inScope c :: k)) cs w) = .next (lone (b.at a k) cs w) :=
  step_lone_go (by simp [stepG, stepG.exec, Frame.at])
theorem Safe.done {fn : Func} {v : Value} {todo : List Item} (hfn : P.funcs[f]? = some fn) (hd : a.defers = []) (hr : (results fn a.tmps).run P w = .ok v w) (hR : R (.returned v) w)
    (ht : (∃ k, todo = .code .ret :: k) ∨ todo = []) : Safe P f R todo a w := by
  intro b cs hb hk
  rcases ht with ⟨k, rfl⟩ | rfl
  · exact ⟨.returned v, w, { b.at a (.code .ret :: k) with mode := .returning }, hR, Steps.one step_ret, hb, rfl, hd, hk, fn, by show P.funcs[b.fn]? = some fn; rw [hb]; exact hfn, hr⟩
  · exact ⟨.returned v, w, { b.at a [] with mode := .returning }, hR, Steps.one step_end, hb, rfl, hd, hk, fn, by show P.funcs[b.fn]? = some fn; rw [hb]; exact hfn, hr⟩
end

/-- An abstract state from which the frame ends as R says, whatever it stands for. -/
def ASafe (P : Program) (f : FuncId) (β0 : Env) (w0 : World) (R : Ending → World → Prop) (n : Nat) (W : List Nat) (x : ASt) : Prop :=
  ∀ (β : Env) (a : Act) (w : World), Inv β0 w0 W n β (tget x.s.T) x.s.H a w → (∀ b, x.s.fr ≤ b → β b = none) → Safe P f R x.todo a w

def wfSt (n : Nat) (s : St) : Prop := (∀ b, s.fr ≤ b → hget s.H b = none) ∧ s.T.length = n

theorem Inv.mono {β0 : Env} {w0 : World} {W W' : List Nat} {n : Nat} {β : Env} {τ : Nat → AV} {H : Heap} {a : Act} {w : World} (i : Inv β0 w0 W n β τ H a w) (h : ∀ k ∈ W, k ∈ W') : Inv β0 w0 W' n β τ H a w :=
  { i with
    new := fun b X hb => (i.new b X hb).imp id fun q B m e => (q B m e).imp id fun ⟨k, m', h1, h2⟩ => ⟨k, m', h k h1, h2⟩
    frame := fun B hB hno => i.frame B hB fun k m hk => hno k m (h k hk) }

section
variable {P : Program} {O : Orc} (hO : OrcOk P O) (hm : P.follows .mixedOrders = true) {f : FuncId} {β0 : Env} {w0 : World} {R : Ending → World → Prop} {n : Nat} {W : List Nat}
include hO hm

theorem region_safe {id : Nat} {ops : Array Oper} {draw : Bool} {s s' : St} {g : Log} {k : List Item} (h : aRegion P O ops draw s = some (g, s')) (hc : okConds g.conds) (hwf : wfSt n s)
    (hs : ASafe P f β0 w0 R n (W ++ g.keys) ⟨k, s'⟩) : ASafe P f β0 w0 R n W ⟨.code (.region id ops draw) :: k, s⟩ := by
  intro β a w hi hf
  obtain ⟨hfH, hn⟩ := hwf
  have hi' := hi.mono (W' := W ++ g.keys) (fun k hk => List.mem_append.2 (.inl hk))
  unfold aRegion at h
  split at h
  · rename_i recs s1 hrun
    split at h
    · injection h with h; injection h with h1 h2; subst h1; subst h2
      refine Safe.of_wp (wp_region ?_)
      have := seq_ok hO (Q := fun e a' w' => e = .normal ∧ Safe P f R k a' w') ops.toList 0 s s1 recs β a w (by simp) hrun hc hi' hf hfH hn (fun k hk => List.mem_append.2 (.inr hk)) (fun β a w hi hf => ⟨rfl, hs β a w hi hf⟩)
      rw [List.range_eq_range']
      simpa using this
    · split at h
      · rename_i hchk hedge
        injection h with h; injection h with h1 h2; subst h1; subst h2
        refine Safe.of_wp (wp_region_any hm ?_)
        obtain ⟨r1, r2, r3, r4, r5, r6⟩ := runOps_all hrun hfH
        have hlist : ∀ j, (Array.replicate ops.size false).getD j false = false := by
          intro j
          rw [Array.getD_eq_getD_getElem?, Array.getElem?_replicate]
          split <;> rfl
        have e2 : ∀ {X : Type} (L : List (Nat → Option X)) (i : Nat) (s : Nat → X), stG (fun i => (Array.replicate ops.size false).getD i false) i L s = s := by
          intro X L
          induction L with
          | nil => intro i s; rfl
          | cons f L ih => intro i s; rw [stG, hlist]; exact ih _ _
        refine any_ok hO (Q := fun e a' w' => e = .normal ∧ Safe P f R k a' w') hrun hchk hedge hc hfH hn (fun k hk => List.mem_append.2 (.inr hk)) (fun β a w hi hf => ⟨rfl, hs β a w hi hf⟩) _ _ β a _ (by simp) ?_ ?_ ?_ ?_ ?_
        · refine Nat.le_trans List.countP_le_length ?_
          simp
        · refine (hi'.drew).congr (fun t => by rw [e2]) (fun b => by rw [hD_get r2, e2])
        · intro b hb
          have : s.fr ≤ s1.fr := (runOps_fresh hrun hfH).2.1
          exact hf b (Nat.le_trans this hb)
        · intro j r hj _ b h1 h2
          obtain ⟨_, _, _, _, _, _, _, _, _, _, _, _, q9, _⟩ := r5 j r hj
          exact hf b (Nat.le_trans q9 h1)
        · intro j hj
          rw [hlist] at hj; cases hj
      · cases h
  · cases h

theorem step_safe {x y : ASt} {g : Log} (h : aStep P O x = some (g, y)) (hc : okConds g.conds) (hwf : wfSt n x.s) (hs : ASafe P f β0 w0 R n (W ++ g.keys) y) : ASafe P f β0 w0 R n W x := by
  obtain ⟨todo, s⟩ := x
  unfold aStep at h
  simp only at h
  have pl : ∀ {k' : List Item}, (⟨[], []⟩, ⟨k', s⟩) = (g, y) → (∀ (a : Act) (w : World) (b : Frame) (cs : List Frame), step P (lone (b.at a todo) cs w) = .next (lone (b.at a k') cs w)) → ASafe P f β0 w0 R n W ⟨todo, s⟩ := by
    intro k' he hst β a w hi hf
    injection he with h1 h2; subst h1; subst h2
    exact Safe.of_step (hst a w) (hs β a w (by simpa using hi) hf)
  split at h
  all_goals first | (cases h; done) | skip
  · injection h with h; exact pl h (fun _ _ _ _ => step_skip)
  · injection h with h; exact pl h (fun _ _ _ _ => step_label)
  · injection h with h; exact pl h (fun _ _ _ _ => step_inBlock)
  · injection h with h; exact pl h (fun _ _ _ _ => step_inScope)
  · injection h with h; exact pl h (fun _ _ _ _ => step_seq)
  · rename_i c ca cb k
    have cond : ∀ (z : Bool) (path' : List Bool) (cc : List (Bool × Bool)), (⟨cc, []⟩, ⟨.code (if z then ca else cb) :: k, { s with path := path' }⟩) = (g, y) → (okConds cc → ∀ (β : Env) (a : Act), (∀ t, relA β (tget s.T t) (a.tmps.getD t undef)) → a.eval c = .bool z) → ASafe P f β0 w0 R n W ⟨.code (.cond c ca cb) :: k, s⟩ := by
      intro z path' cc he hev β a w hi hf
      injection he with h1 h2; subst h1; subst h2
      refine Safe.of_step (fun b cs => step_cond (hev hc β a hi.tmp)) (hs β a w (by simpa using hi) hf)
    split at h
    · rename_i hev
      injection h with h
      refine cond true s.path [] (by simpa using h) fun _ β a ht => ?_
      have := rel_one (evO_rel ht hev)
      simpa [relC] using this
    · rename_i hev
      injection h with h
      refine cond false s.path [] (by simpa using h) fun _ β a ht => ?_
      have := rel_one (evO_rel ht hev)
      simpa [relC] using this
    · rename_i z hev
      split at h
      · rename_i rest hp
        injection h with h
        refine cond true rest [(z, true)] (by simpa using h) fun hz β a ht => ?_
        have := (rel_one (evO_rel ht hev)).1
        injection this with this _
        rw [this, hz.1]
      · rename_i rest hp
        injection h with h
        refine cond false rest [(z, false)] (by simpa using h) fun hz β a ht => ?_
        have := (rel_one (evO_rel ht hev)).1
        injection this with this _
        rw [this, hz.1]
      · cases h
    · cases h
  · injection h with h; exact pl h (fun _ _ _ _ => step_block)
  · injection h with h; exact pl h (fun _ _ _ _ => step_loop)
  · injection h with h; exact pl h (fun _ _ _ _ => step_inLoop)
  · injection h with h; exact pl h (fun _ _ _ _ => step_scope)
  · split at h
    · rename_i k' he
      injection h with h; exact pl h (fun _ _ _ _ => step_exit he)
    · cases h
  · split at h
    · rename_i k' he
      injection h with h; exact pl h (fun _ _ _ _ => step_goto he)
    · cases h
  · split at h
    · rename_i g' s' hr
      injection h with h; injection h with h1 h2; subst h1; subst h2
      exact region_safe hO hm hr hc hwf hs
    · cases h

omit hO hm in
theorem aStep_wf {x y : ASt} {g : Log} (h : aStep P O x = some (g, y)) (hwf : wfSt n x.s) : wfSt n y.s := by
  obtain ⟨todo, s⟩ := x
  unfold aStep at h
  simp only at h hwf
  have pl : ∀ {k' : List Item} {c : Log}, (c, (⟨k', s⟩ : ASt)) = (g, y) → wfSt n y.s := by
    intro k' c he
    injection he with h1 h2; subst h2; exact hwf
  split at h
  all_goals first | (cases h; done) | skip
  all_goals first | (injection h with h; exact pl h) | skip
  · split at h
    · injection h with h; exact pl h
    · injection h with h; exact pl h
    · split at h
      · injection h with h; injection h with h1 h2; subst h2; exact hwf
      · injection h with h; injection h with h1 h2; subst h2; exact hwf
      · cases h
    · cases h
  · split at h
    · injection h with h; exact pl h
    · cases h
  · split at h
    · injection h with h; exact pl h
    · cases h
  · split at h
    · rename_i g' s' hr
      injection h with h; injection h with h1 h2; subst h2
      unfold aRegion at hr
      split at hr
      · rename_i recs s1 hrun
        have := runOps_fresh hrun hwf.1
        have hw : wfSt n s1 := ⟨this.1, by rw [this.2.2]; exact hwf.2⟩
        split at hr
        · injection hr with hr; injection hr with _ hr; subst hr; exact hw
        · split at hr
          · injection hr with hr; injection hr with _ hr; subst hr; exact hw
          · cases hr
      · cases hr
    · cases h
end

/- many steps; 'stop': how many items are to come where a loop's head is to be stopped at -/
def isHead (stop : Option Nat) (before : List Item) (after : List Item) : Bool :=
  match stop, before with
  | some d, .inLoop _ :: _ => match d with | 0 => true | d + 1 => Nat.beq after.length (d + 1)
  | some d, .code (.loop _) :: _ => match d with | 0 => true | d + 1 => Nat.beq after.length (d + 1)
  | _, _ => false
def aEnd : List Item → Bool
  | [] => true
  | .code .ret :: _ => true
  | _ => false
def aRun (P : Program) (O : Orc) (stop : Option Nat) : Nat → ASt → Option (Log × ASt)
  | 0, _ => none
  | n + 1, x => match aEnd x.todo with
    | true => some (⟨[], []⟩, x)
    | false => match aStep P O x with
      | some (g, y) => match isHead stop x.todo y.todo with
        | true => some (g, y)
        | false => match aRun P O stop n y with
          | some (g', z) => some (⟨g.conds ++ g'.conds, cat g.keys g'.keys⟩, z)
          | none => none
      | none => none

section
variable {P : Program} {O : Orc} (hO : OrcOk P O) (hm : P.follows .mixedOrders = true) {f : FuncId} {β0 : Env} {w0 : World} {R : Ending → World → Prop} {n : Nat}
include hO hm
theorem run_safe {stop : Option Nat} : ∀ {m : Nat} {W : List Nat} {x y : ASt} {g : Log}, aRun P O stop m x = some (g, y) → okConds g.conds → wfSt n x.s → (wfSt n y.s → ASafe P f β0 w0 R n (W ++ g.keys) y) → ASafe P f β0 w0 R n W x
  | 0, _, _, _, _, h, _, _, _ => by simp [aRun] at h
  | m + 1, W, x, y, g, h, hc, hwf, hs => by
    simp only [aRun] at h
    split at h
    · injection h with h; injection h with h1 h2; subst h1; subst h2
      have := hs hwf
      simpa using this
    · split at h
      · rename_i g1 y1 hst
        split at h
        · injection h with h; injection h with h1 h2; subst h1; subst h2
          exact step_safe hO hm hst hc hwf (hs (aStep_wf hst hwf))
        · split at h
          · rename_i g2 z hr
            injection h with h; injection h with h1 h2; subst h1; subst h2
            obtain ⟨c1, c2⟩ := okConds_append.1 hc
            refine step_safe hO hm hst c1 hwf (run_safe hr c2 (aStep_wf hst hwf) fun hw => ?_)
            have := hs hw
            simpa [cat_eq] using this
          · cases h
      · cases h
end

/- what is answered -/
def aResult (P : Program) (T : List AV) (H : Heap) : ResultVar → Option (Bool × List Ch)
  | .tmp t => match tget T t with
    | .val g cs => some (g, cs)
    | _ => none
  | .cell a t => match tget T a with
    | .val false [.p bk off] => match hget H bk with
      | some blk => match loadCs P t blk.cs off [] with
        | some r => match r.conds, r.val with
          | [], .val g cs => some (g, cs)
          | _, _ => none
        | none => none
      | none => none
    | _ => none
def aResults (P : Program) (T : List AV) (H : Heap) : List ResultVar → Option (List (Bool × List Ch))
  | [] => some []
  | x :: r => match aResult P T H x, aResults P T H r with
    | some a, some l => some (a :: l)
    | _, _ => none
def oneOf (l : List (Bool × List Ch)) : AV := match l with
  | [(g, cs)] => .val g cs
  | l => .tup l
theorem aResult_run {P : Program} {β : Env} {T : List AV} {H : Heap} {tmps : Array Value} {w : World} (ht : ∀ t, relA β (tget T t) (tmps.getD t undef)) (g : Good β H w) {x : ResultVar} {a : Bool × List Ch} (h : aResult P T H x = some a) :
    ∃ u, ((match x with | .tmp t => pure (tmps.getD t undef) | .cell a t => do loadVar t (← asAddr (tmps.getD a undef)) : Sem Value)).run P w = .ok u w ∧ relG β a.1 a.2 u := by
  unfold aResult at h
  split at h
  · rename_i t
    split at h
    · rename_i gg cs hT
      injection h with h; subst h
      have := ht t
      rw [hT] at this
      exact ⟨_, rfl, this⟩
    · cases h
  · rename_i ad t
    split at h
    · rename_i bk off hT
      split at h
      · rename_i blk hb
        split at h
        · rename_i r hl
          split at h
          · rename_i gg cs hcv hvv
            injection h with h; subst h
            have := ht ad
            rw [hT] at this
            obtain ⟨B', n', e4, e5⟩ := rel_one this
            injection e5 with e5 _
            rcases g.heap _ _ hb with ⟨B, n, l, t', e1, e2, e3, _⟩ | ⟨e1, _⟩
            · rw [e1] at e4; injection e4 with e4; injection e4 with e4 e4'; subst e4; subst e4'
              obtain ⟨v, hv, he⟩ := loadCs_sound g e2 e3 hl (by rw [hcv]; trivial) 0
              refine ⟨v, ?_, ?_⟩
              · simp only [e5, asAddr, Sem.run_bind, Sem.run_pure, Result.andThen_ok, hv]
              · have := he.val
                rw [hvv] at this
                exact this
            · rw [e1] at e4; cases e4
          · cases h
        · cases h
      · cases h
    · cases h
theorem aResults_run {P : Program} {β : Env} {T : List AV} {H : Heap} {fn : Func} {tmps : Array Value} {w : World} (ht : ∀ t, relA β (tget T t) (tmps.getD t undef)) (g : Good β H w) {l : List (Bool × List Ch)} (h : aResults P T H fn.results.toList = some l) :
    ∃ v, (results fn tmps).run P w = .ok v w ∧ relA β (oneOf l) v := by
  have key : ∀ (rs : List ResultVar) (l : List (Bool × List Ch)), aResults P T H rs = some l →
      ∃ us, (rs.mapM (m := Sem) fun | .tmp t => pure (tmps.getD t undef) | .cell a t => do loadVar t (← asAddr (tmps.getD a undef))).run P w = .ok us w ∧ relT β l us := by
    intro rs
    induction rs with
    | nil => intro l h; simp only [aResults, Option.some.injEq] at h; subst h; exact ⟨[], by simp, rfl⟩
    | cons x rs ih =>
      intro l h
      simp only [aResults] at h
      split at h
      · rename_i a l' h1 h2
        injection h with h; subst h
        obtain ⟨u, hu, hr⟩ := aResult_run ht g h1
        obtain ⟨us, hus, hrs⟩ := ih l' h2
        refine ⟨u :: us, ?_, u, us, hr, hrs, rfl⟩
        rw [List.mapM_cons, Sem.run_bind, hu]
        simp only [Result.andThen_ok, Sem.run_bind, hus, Sem.run_pure]
      · cases h
  obtain ⟨us, hus, hrel⟩ := key _ _ h
  unfold results
  rw [Array.mapM_eq_mapM_toList, Sem.run_bind, Sem.run_map]
  refine ⟨if h : us.toArray.size = 1 then us.toArray[0] else .tuple us.toArray, ?_, ?_⟩
  · have e : ∀ (x : Sem (List Value)), x.run P w = .ok us w → ((x.run P w).andThen fun a w' => Result.ok a.toArray w').andThen (fun vs w' => Result.ok (if h : vs.size = 1 then vs[0] else Value.tuple vs) w') = .ok (if h : us.toArray.size = 1 then us.toArray[0] else .tuple us.toArray) w := by
      intro x hx; rw [hx]; rfl
    exact e _ hus
  unfold oneOf
  split
  · rename_i gg cs
    obtain ⟨u, l', h1, h2, h3⟩ := hrel
    simp only [relT] at h2; subst h2; subst h3
    show relA β (.val gg cs) u
    exact h1
  · rename_i hno
    have hlen : us.length = l.length := by
      have : ∀ (l : List (Bool × List Ch)) (us : List Value), relT β l us → us.length = l.length := by
        intro l
        induction l with
        | nil => intro us h; simp only [relT] at h; simp [h]
        | cons x l ih => intro us ⟨u, l', h1, h2, h3⟩; simp [h3, ih _ h2]
      exact this _ _ hrel
    rw [dif_neg (by
      intro h1
      have : l.length = 1 := by rw [← hlen]; simpa using h1
      obtain ⟨⟨gg, cs⟩, rfl⟩ := List.length_eq_one_iff.1 this
      exact hno gg cs rfl)]
    exact ⟨us, hrel, rfl⟩
end Go.Proofs.Ytoemaicabljpfaa.Ex
