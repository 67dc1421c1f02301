/- One operation of the executor, and that the model's operation does what it says. -/
import Derived.Test.YtoemaicabljpfaaExH
namespace Go.Proofs.Ytoemaicabljpfaa.Ex

abbrev ASpec := List AV → Heap → Nat → List Bool → Option R
structure Orc where
  call : FuncId → Option ASpec
  eqt : TypeId → Option (List (Option IntKind))

def relAs (β : Env) : List AV → List Value → Prop
  | [], l => l = []
  | x :: xs, l => ∃ u us, relA β x u ∧ relAs β xs us ∧ l = u :: us
theorem relAs_append {β : Env} : ∀ {xs ys : List AV} {us vs : List Value}, relAs β xs us → relAs β ys vs → relAs β (xs ++ ys) (us ++ vs)
  | [], _, us, _, h, k => by simp only [relAs] at h; subst h; simpa using k
  | x :: xs, ys, us, vs, ⟨u, us', h1, h2, h3⟩, k => ⟨u, us' ++ vs, h1, relAs_append h2 k, by simp [h3]⟩

/-- A call, to a function with a body or to one that the model knows by itself. -/
def CallX (P : Program) (f : FuncId) (args : Array Value) (w : World) (R : Ending → World → Prop) : Prop :=
  match (callFunc f args).run P w with
  | .ok (.value v) w' => R (.returned v) w'
  | .ok (.enter f' args') w' => Calls P f' args' w' R
  | _ => False

def Ret (β : Env) (fr : Nat) (r : R) (w : World) : Ending → World → Prop := fun e w' => ∃ u β', e = .returned u ∧ Eff β fr r w u w' β'

def SpecOk (P : Program) (f : FuncId) (s : ASpec) : Prop :=
  ∀ (args : List AV) (H : Heap) (fr : Nat) (path : List Bool) (r : R) (β : Env) (us : List Value) (w : World), s args H fr path = some r → okConds r.conds → relAs β args us → Good β H w →
    (∀ b, fr ≤ b → b < fr + r.nw → β b = none) → CallX P f ⟨us⟩ w (Ret β fr r w)
structure OrcOk (P : Program) (O : Orc) : Prop where
  call : ∀ f s, O.call f = some s → SpecOk P f s
  eqt : ∀ t ks, O.eqt t = some ks → leafs P 20 t = some ks ∧ P.eqGuardType P.depth t = false ∧ (match P.underlying t with | some d => wide d | none => false) = true

def evOs (τ : Nat → AV) : List Operand → Option (List AV)
  | [] => some []
  | x :: xs => match evO τ x, evOs τ xs with
    | some a, some r => some (a :: r)
    | _, _ => none
theorem evOs_rel {β : Env} {τ : Nat → AV} {a : Act} (ht : ∀ t, relA β (τ t) (a.tmps.getD t undef)) : ∀ {xs : List Operand} {r : List AV}, evOs τ xs = some r → relAs β r (xs.map a.eval)
  | [], r, h => by simp only [evOs, Option.some.injEq] at h; subst h; rfl
  | x :: xs, r, h => by
    simp only [evOs] at h
    split at h
    · rename_i A r' h1 h2
      injection h with h; subst h
      exact ⟨_, _, evO_rel ht h1, evOs_rel ht h2, rfl⟩
    · cases h

def capA : List (Nat × Nat) → List AV
  | [] => []
  | (b, o) :: r => .val false [.p b o] :: capA r
theorem capA_rel {β : Env} : ∀ {caps : List (Nat × Nat)} {ps : List Value}, relP β caps ps → relAs β (capA caps) ps
  | [], ps, h => by simpa [relP, relAs, capA] using h
  | (b, o) :: r, ps, ⟨B, n, l', h1, h2, h3⟩ => ⟨_, l', rel_one' ⟨B, n, h1, rfl⟩, capA_rel h2, h3⟩

def asCaps : List AV → Option (List (Nat × Nat))
  | [] => some []
  | .val false [.p b o] :: r => match asCaps r with | some l => some ((b, o) :: l) | none => none
  | _ => none
theorem asCaps_rel {β : Env} : ∀ {xs : List AV} {caps : List (Nat × Nat)} {us : List Value}, asCaps xs = some caps → relAs β xs us → relP β caps us
  | [], caps, us, h, hr => by simp only [asCaps, Option.some.injEq] at h; subst h; simpa [relP, relAs] using hr
  | x :: xs, caps, us, h, hr => by
    unfold asCaps at h
    split at h
    · cases ‹_ :: _ = []›
    · rename_i b o r he
      injection he with e1 e2; subst e1; subst e2
      split at h
      · rename_i l hl
        injection h with h; subst h
        obtain ⟨u, us', h1, h2, h3⟩ := hr
        obtain ⟨B, n, e1, e2⟩ := rel_one h1
        injection e2 with e2 _; subst e2
        exact ⟨B, n, us', e1, asCaps_rel hl h2, h3⟩
      · cases h
    · cases h

def aCall (P : Program) (O : Orc) (c : Call) (τ : Nat → AV) (H : Heap) (fr : Nat) (path : List Bool) : Option R :=
  match evOs τ c.args.toList with
  | none => none
  | some args => match c.callee with
    | .value f => match evO τ f with
      | some (.val false [.v (.func (.func id) ⟨[]⟩ ⟨[]⟩)]) => match O.call id with
        | some s => s args H fr path
        | none => none
      | some (.val false [.clo id caps]) => match O.call id with
        | some s => s (args ++ capA caps) H fr path
        | none => none
      | _ => none
    | .builtin .len => match args, c.argTypes[0]? with
      | [x], some t => match Nat.beq c.argTypes.size 1 with
        | true => aLen P t (some x) path
        | false => none
      | _, _ => none
    | .builtin .max => match args with
      | [x, y] => aMax true (some x) (some y) path
      | _ => none
    | .builtin .min => match args with
      | [x, y] => aMax false (some x) (some y) path
      | _ => none
    | .builtin .copy => match args, c.argTypes.toList with
      | [x, y], [dT, _] => aCopy P dT (some x) (some y) H path
      | _, _ => none
    | .builtin .clear => match args, c.argTypes.toList with
      | [x], [t] => aClear P t (some x) H path
      | _, _ => none
    | .builtin .append => match args with
      | [x, y] => aAppend P c.argTypes (some x) (some y) H fr path
      | _ => none
    | _ => none

def aPick (c x y : Option AV) (path : List Bool) : Option R :=
  match asB c with
  | some (true, z) => match z, x, y with
    | true, some A, _ => some (pureR A path)
    | false, _, some A => some (pureR A path)
    | _, _, _ => none
  | some (false, z) => match path, x, y with
    | true :: rest, some A, _ => some ⟨A, [], 0, [(z, true)], rest⟩
    | false :: rest, _, some A => some ⟨A, [], 0, [(z, false)], rest⟩
    | _, _, _ => none
  | none => none

def aBin (P : Program) (O : Orc) (op : BinOp) (t : TypeId) (x y : Option AV) (path : List Bool) : Option R :=
  match asI x, asI y with
  | some (c, k, i), some (c', k', j) => match op with
    | .shl | .shr => match shOp op (c && c') k i j with
      | some (z, l) => some ⟨mkI (c && c') k z, [], 0, l, path⟩
      | none => none
    | _ => match decide (k = k') with
      | true => match intOp op (c && c') k i j with
        | some (z, l) => some ⟨mkI (c && c') k z, [], 0, l, path⟩
        | none => match cmpOp op i j with
          | some z => some (pureR (mkB (c && c') z) path)
          | none => none
      | false => none
  | _, _ => match asB x, asB y, P.underlying t with
    | some (c, b), some (c', b'), some .bool => match op with
      | .eql => some (pureR (mkB (c && c') (b == b')) path)
      | .neq => some (pureR (mkB (c && c') (!(b == b'))) path)
      | _ => none
    | _, _, _ => match x, y, O.eqt t with
      | some (.val true a), some (.val true b), some ks => match fitsB (ks.length + 2) ks a && fitsB (ks.length + 2) ks b, eqL (ks.length + 2) a b, op with
        | true, some e, .eql => some (pureR (mkB false e) path)
        | true, some e, .neq => some (pureR (mkB false (!e)) path)
        | _, _, _ => none
      | _, _, _ => none

def aop (P : Program) (O : Orc) (o : Oper) (τ : Nat → AV) (H : Heap) (fr : Nat) (path : List Bool) : Option R :=
  match o.op with
  | .move x | .assign x => match evO τ x with | some A => some (pureR A path) | none => none
  | .pick c x y => aPick (evO τ c) (evO τ x) (evO τ y) path
  | .alloc t => aAlloc P t fr path
  | .box t x => aBox t (evO τ x) fr path
  | .build t parts => aBuild P τ t parts.toList path
  | .buildSlice t len parts => aBuildSlice P τ t len parts.toList fr path
  | .load t x => aLoad P t (evO τ x) H path
  | .store t x y => aStore P t (evO τ x) (evO τ y) H path
  | .nilCheck x => match evO τ x with
    | some (.val false [.p b o]) => some (pureR (.val false [.p b o]) path)
    | some (.val false [.clo f c]) => some (pureR (.val false [.clo f c]) path)
    | some (.val false [.v (.func (.func f) a c)]) => some (pureR (.val false [.v (.func (.func f) a c)]) path)
    | _ => none
  | .binOp op t x y _ => aBin P O op t (evO τ x) (evO τ y) path
  | .unOp op _ x => aUn op (evO τ x) path
  | .convert s d x => aConvert P s d (evO τ x) path
  | .sliceToArrayPointer t x => aArrayAt P t (evO τ x) path
  | .makeFunc (.func f) first captured => match first.toList, evOs τ captured.toList with
    | [], some xs => match asCaps xs with
      | some caps => some (pureR (.val false [.clo f caps]) path)
      | none => none
    | _, _ => none
  | .makeSlice t l c => aMake P t (evO τ l) (evO τ c) fr path
  | .slice t x lo hi mx => aSlice P t (evO τ x) (lo.map (evO τ)) (hi.map (evO τ)) (mx.map (evO τ)) path
  | .fieldAddr t x f => aFieldAddr P t (evO τ x) f path
  | .field t x f => aField P t (evO τ x) f path
  | .indexAddr t x i => aIndexAddr P t (evO τ x) (evO τ i) path
  | .index t x i => aIndex P t (evO τ x) (evO τ i) path
  | .extract x i => match evO τ x with
    | some (.tup xs) => match xs[i]? with
      | some (g, cs) => some (pureR (.val g cs) path)
      | none => none
    | _ => none
  | .call c => aCall P O c τ H fr path
  | _ => none

theorem relT_get {β : Env} : ∀ {xs : List (Bool × List Ch)} {us : List Value} {i : Nat} {g : Bool} {cs : List Ch}, relT β xs us → xs[i]? = some (g, cs) → ∃ u, us[i]? = some u ∧ relG β g cs u
  | [], _, i, _, _, _, h => by simp at h
  | (g', c') :: xs, us, 0, g, cs, ⟨u, l', h1, _, h3⟩, h => by
    simp only [List.getElem?_cons_zero, Option.some.injEq, Prod.mk.injEq] at h
    obtain ⟨rfl, rfl⟩ := h
    exact ⟨u, by simp [h3], h1⟩
  | (g', c') :: xs, us, i + 1, g, cs, ⟨u, l', h1, h2, h3⟩, h => by
    obtain ⟨v, hv, hr⟩ := relT_get h2 (by simpa using h)
    exact ⟨v, by simpa [h3] using hv, hr⟩

section
variable {P : Program} {O : Orc} {β : Env} {H : Heap} {w : World} {τ : Nat → AV} {a : Act}

theorem aBin_sound (hO : OrcOk P O) {op : BinOp} {t : TypeId} {x y : Option AV} {u v : Value} {X Y : Operand} {path : List Bool} {r : R} (g : Good β H w) (hx : ∀ A, x = some A → relA β A u) (hy : ∀ A, y = some A → relA β A v)
    (h : aBin P O op t x y path = some r) (hc : okConds r.conds) (fr : Nat) : ∃ z, (do eqGuard op t X Y u v; binOp op t u v : Sem Value).run P w = .ok z w ∧ Eff β fr r w z w β := by
  unfold aBin at h
  split at h
  · rename_i c k i c' k' j hi hj
    obtain ⟨rfl, i1⟩ := asI_rel hx hi
    obtain ⟨rfl, j1⟩ := asI_rel hy hj
    split at h
    · split at h
      · rename_i z l hz
        injection h with h; subst h
        obtain ⟨q1, q2⟩ := shOp_run (P := P) (w := w) (yk := k') hz hc i1 t X Y
        exact ⟨_, q1, Eff.pure_ g (mkI_rel _ q2)⟩
      · cases h
    · split at h
      · rename_i z l hz
        injection h with h; subst h
        obtain ⟨q1, q2⟩ := shOp_run (P := P) (w := w) (yk := k') hz hc i1 t X Y
        exact ⟨_, q1, Eff.pure_ g (mkI_rel _ q2)⟩
      · cases h
    · split at h
      · rename_i hk
        have hk' : k = k' := by simpa using hk
        subst hk'
        split at h
        · rename_i z l hz
          injection h with h; subst h
          obtain ⟨q1, q2⟩ := intOp_run (P := P) (w := w) hz hc i1 t X Y
          exact ⟨_, q1, Eff.pure_ g (mkI_rel _ q2)⟩
        · split at h
          · rename_i z hz
            injection h with h; subst h
            exact ⟨_, cmpOp_run (P := P) (w := w) hz t X Y, Eff.pure_ g (mkB_rel _ _)⟩
          · cases h
      · cases h
  · split at h
    · rename_i c b c' b' hb hb' hu
      obtain rfl := asB_rel hx hb
      obtain rfl := asB_rel hy hb'
      split at h
      · injection h with h; subst h
        refine ⟨.bool (b == b'), ?_, Eff.pure_ g (mkB_rel _ _)⟩
        rw [Sem.run_bind, eqGuard_at_bool]
        simp only [Sem.run_pure, Result.andThen_ok]
        exact run_eql_bool w t b b' hu
      · injection h with h; subst h
        refine ⟨.bool (!(b == b')), ?_, Eff.pure_ g (mkB_rel _ _)⟩
        rw [Sem.run_bind, eqGuard_at_bool]
        simp only [Sem.run_pure, Result.andThen_ok]
        exact run_neq_bool w t b b' hu
      · cases h
    split at h
    · rename_i A B ks hk _ _
      obtain ⟨l, hl, rfl⟩ := hx _ rfl
      obtain ⟨m, hm, rfl⟩ := hy _ rfl
      obtain ⟨k1, k2, k3⟩ := hO.eqt _ _ hk
      have core : ∀ e, (fitsB (ks.length + 2) ks A && fitsB (ks.length + 2) ks B) = true → eqL (ks.length + 2) A B = some e → (Op.equalIn 10000 t (.agg ⟨l⟩) (.agg ⟨m⟩)).run P w = .ok e w := by
        intro e hf he
        have hf' := Bool.and_eq_true_iff.1 hf
        have := leafs_eq 20 t ks 10000 k1 (by decide) l m (.agg ⟨l⟩) (.agg ⟨m⟩) w (fitsB_spec hf'.1 hl) (fitsB_spec hf'.2 hm) (by
          unfold shapeV; split at k3
          · rename_i d hd; simp [hd, k3]
          · cases k3) (by
          unfold shapeV; split at k3
          · rename_i d hd; simp [hd, k3]
          · cases k3)
        rw [this, eqL_sound he hl hm]
      split at h
      · rename_i e hf he
        injection h with h; subst h
        refine ⟨.bool e, ?_, Eff.pure_ g (mkB_rel _ _)⟩
        rw [Sem.run_bind, run_eqGuard_agg w .eql t X Y _ _ k2]
        simp only [Result.andThen_ok]
        rw [run_eql_struct, core e hf he]
        rfl
      · rename_i e hf he
        injection h with h; subst h
        refine ⟨.bool !e, ?_, Eff.pure_ g (mkB_rel _ _)⟩
        rw [Sem.run_bind, run_eqGuard_agg w .neq t X Y _ _ k2]
        simp only [Result.andThen_ok]
        rw [run_neq_struct, core e hf he]
        rfl
      · cases h
    · cases h

theorem aPick_sound {x y z : Option AV} {u v p : Value} {path : List Bool} {r : R} (g : Good β H w) (hz : ∀ A, z = some A → relA β A p) (hx : ∀ A, x = some A → relA β A u) (hy : ∀ A, y = some A → relA β A v)
    (h : aPick z x y path = some r) (hc : okConds r.conds) (fr : Nat) : ∃ q, (do pure (Next.value (if ← asBool p then u else v)) : Sem Next).run P w = .ok (.value q) w ∧ Eff β fr r w q w β := by
  unfold aPick at h
  split at h
  · rename_i b hb
    have := asB_rel hz hb
    subst this
    split at h
    · injection h with h; subst h
      exact ⟨u, by simp [asBool], Eff.pure_ g (hx _ rfl)⟩
    · injection h with h; subst h
      exact ⟨v, by simp [asBool], Eff.pure_ g (hy _ rfl)⟩
    · cases h
  · rename_i b hb
    have := asB_rel hz hb
    subst this
    split at h
    · injection h with h; subst h
      have := hc.1
      subst this
      exact ⟨u, by simp [asBool], Eff.pure_ g (hx _ rfl)⟩
    · injection h with h; subst h
      have := hc.1
      subst this
      exact ⟨v, by simp [asBool], Eff.pure_ g (hy _ rfl)⟩
    · cases h
  · cases h

theorem wp_of_value {o : Oper} {next : Act → World → Prop} {Q : Exit → Act → World → Prop} {u : Value} {w' : World} (h : (execOp a.eval o).run P w = .ok (.value u) w') (hn : next (a.put o.dst u) w') : o.wp P a w next Q := by
  unfold Oper.wp; rw [h]; exact hn
theorem wp_of_skip {o : Oper} {next : Act → World → Prop} {Q : Exit → Act → World → Prop} {w' : World} (h : (execOp a.eval o).run P w = .ok .skip w') (hn : next (a.put o.dst undef) w') : o.wp P a w next Q := by
  unfold Oper.wp; rw [h]; exact hn
theorem run_v {s : Sem Value} {u : Value} {w' : World} (h : s.run P w = .ok u w') : (do pure (Next.value (← s)) : Sem Next).run P w = .ok (.value u) w' := by
  simp [h]
theorem run_u {s : Sem Unit} {w' : World} (h : s.run P w = .ok () w') : (do s; pure Next.skip : Sem Next).run P w = .ok .skip w' := by
  simp [h]

theorem ret_wp {o : Oper} {next : Act → World → Prop} {Q : Exit → Act → World → Prop} {f : FuncId} {us : Array Value} {fr : Nat} {r : R} (h : CallX P f us w (Ret β fr r w))
    (he : (execOp a.eval o).run P w = (callFunc f us).run P w) (hn : ∀ u w' β', Eff β fr r w u w' β' → next (a.put o.dst u) w') : o.wp P a w next Q := by
  unfold Oper.wp
  rw [he]
  unfold CallX at h
  split at h
  · rename_i v w' hr
    rw [hr]
    obtain ⟨u, β', e1, e2⟩ := h
    injection e1 with e1; subst e1
    exact hn _ _ _ e2
  · rename_i f' args' w' hr
    rw [hr]
    refine Calls.mono h fun e w'' hq => ?_
    obtain ⟨u, β', rfl, e2⟩ := hq
    exact hn _ _ _ e2
  · exact h.elim

theorem aCall_wp (hO : OrcOk P O) (ht : ∀ t, relA β (τ t) (a.tmps.getD t undef)) (g : Good β H w) {o : Oper} {c : Call} (ho : o.op = .call c) {fr : Nat} {path : List Bool} {r : R} (h : aCall P O c τ H fr path = some r) (hc : okConds r.conds)
    (hf : ∀ b, fr ≤ b → b < fr + r.nw → β b = none) {next : Act → World → Prop} {Q : Exit → Act → World → Prop} (hn : ∀ u w' β', Eff β fr r w u w' β' → next (a.put o.dst u) w') : o.wp P a w next Q := by
  unfold aCall at h
  split at h
  case h_1 => cases h
  rename_i args hargs
  have hrel := evOs_rel ht hargs
  have hmap : c.args.map a.eval = ⟨c.args.toList.map a.eval⟩ := by apply Array.ext'; simp
  have hbuiltin : ∀ b, c.callee = .builtin b → ∃ k, (execOp a.eval o).run P w = (builtin b c.argTypes o.type k (c.args.map a.eval)).run P w := by
    intro b hb
    refine ⟨c.args.map fun x => match x with | .const _ => true | _ => false, ?_⟩
    simp only [execOp, ho, resolve, hb, Sem.run_bind, Sem.run_pure, Result.andThen_ok, invoke]
    rfl
  split at h
  · rename_i f hcal
    split at h
    · rename_i id hev
      split at h
      · rename_i s hs
        have hr := (rel_one (evO_rel ht hev)).1
        injection hr with hr _
        refine ret_wp (hO.call _ _ hs args H fr path r β _ w h hc hrel g hf) ?_ hn
        simp [execOp, ho, resolve, hcal, hr, Deferred.ofValue, invoke, hmap]
      · cases h
    · rename_i id caps hev
      split at h
      · rename_i s hs
        obtain ⟨ps, hp, hr⟩ := rel_one (evO_rel ht hev)
        injection hr with hr _
        refine ret_wp (hO.call _ _ hs _ H fr path r β _ w h hc (relAs_append hrel (capA_rel hp)) g hf) ?_ hn
        simp [execOp, ho, resolve, hcal, hr, Deferred.ofValue, invoke, hmap]
      · cases h
    · cases h
  · rename_i hcal
    split at h
    · rename_i x t hcc
      split at h
      · rename_i hsz
        obtain ⟨u, us, h1, h2, h3⟩ := hrel
        simp only [relAs] at h2; subst h2
        obtain ⟨v, hv, he⟩ := aLen_sound (ty := o.type) (u := u) g (fun A hA => by injection hA with hA; subst hA; exact h1) h hc fr
        have hat : c.argTypes = #[t] := by
          have h1 := nbeq.1 hsz
          rcases hq : c.argTypes with ⟨l⟩
          rw [hq] at h1 hcc
          cases l with
          | nil => simp at h1
          | cons y l => cases l with
            | nil => simp at hcc; rw [hcc]
            | cons z l => simp at h1
        refine wp_of_value ?_ (hn _ _ _ he)
        obtain ⟨k, hk⟩ := hbuiltin _ hcal
        rw [hk]
        simp only [builtin, hmap, h3, hat]
        simp [hv]
      · cases h
    · cases h
  · rename_i hcal
    split at h
    · rename_i x y
      obtain ⟨u, us, h1, h2, h3⟩ := hrel
      obtain ⟨v, us', k1, k2, k3⟩ := h2
      simp only [relAs] at k2; subst k2; subst k3
      obtain ⟨z, hz, he⟩ := aMax_sound (P := P) (ts := c.argTypes) (ty := o.type) (u := u) (v := v) g (fun A hA => by injection hA with hA; subst hA; exact h1) (fun A hA => by injection hA with hA; subst hA; exact k1) h fr
      refine wp_of_value ?_ (hn _ _ _ he)
      obtain ⟨k, hk⟩ := hbuiltin _ hcal
      rw [hk]
      simp only [builtin, hmap, h3]
      simp only at hz
      simp [hz]
    · cases h
  · rename_i hcal
    split at h
    · rename_i x y
      obtain ⟨u, us, h1, h2, h3⟩ := hrel
      obtain ⟨v, us', k1, k2, k3⟩ := h2
      simp only [relAs] at k2; subst k2; subst k3
      obtain ⟨z, hz, he⟩ := aMax_sound (P := P) (ts := c.argTypes) (ty := o.type) (u := u) (v := v) g (fun A hA => by injection hA with hA; subst hA; exact h1) (fun A hA => by injection hA with hA; subst hA; exact k1) h fr
      refine wp_of_value ?_ (hn _ _ _ he)
      obtain ⟨k, hk⟩ := hbuiltin _ hcal
      rw [hk]
      simp only [builtin, hmap, h3]
      simp only at hz
      simp [hz]
    · cases h
  · rename_i hcal
    split at h
    · rename_i x y dT sT hat
      obtain ⟨u, us, h1, h2, h3⟩ := hrel
      obtain ⟨v, us', k1, k2, k3⟩ := h2
      simp only [relAs] at k2; subst k2; subst k3
      obtain ⟨z, w', hz, he⟩ := aCopy_sound (sT := sT) (ty := o.type) (u := u) (v := v) g (fun A hA => by injection hA with hA; subst hA; exact h1) (fun A hA => by injection hA with hA; subst hA; exact k1) h hc fr
      have hat' : c.argTypes = #[dT, sT] := by apply Array.ext'; rw [hat]
      refine wp_of_value (u := z) (w' := w') ?_ (hn _ _ _ (by
        refine { he with val := ?_ }
        have hv : r.val = .any := by
          unfold aCopy at h
          split at h
          · split at h
            · split at h
              · split at h
                · injection h with h; subst h; rfl
                · cases h
              · cases h
            · cases h
          · cases h
        rw [hv]; trivial))
      obtain ⟨k, hk⟩ := hbuiltin _ hcal
      rw [hk]
      simp only [builtin, hmap, h3, hat']
      simp [hz]
    · cases h
  · rename_i hcal
    split at h
    · rename_i x t hat
      obtain ⟨u, us, h1, h2, h3⟩ := hrel
      simp only [relAs] at h2; subst h2
      obtain ⟨z, w', hz, he⟩ := aClear_sound (ty := o.type) (u := u) g (fun A hA => by injection hA with hA; subst hA; exact h1) h hc fr
      have hat' : c.argTypes = #[t] := by apply Array.ext'; rw [hat]
      refine wp_of_value (u := z) (w' := w') ?_ (hn _ _ _ he)
      obtain ⟨k, hk⟩ := hbuiltin _ hcal
      rw [hk]
      simp only [builtin, hmap, h3, hat']
      simp [hz]
    · cases h
  · rename_i hcal
    split at h
    · rename_i x y
      obtain ⟨u, us, h1, h2, h3⟩ := hrel
      obtain ⟨v, us', k1, k2, k3⟩ := h2
      simp only [relAs] at k2; subst k2; subst k3
      obtain ⟨z, w', β', hz, he⟩ := aAppend_sound (ty := o.type) (u := u) (v := v) g (fun A hA => by injection hA with hA; subst hA; exact h1) (fun A hA => by injection hA with hA; subst hA; exact k1) h hc hf
      refine wp_of_value (u := z) (w' := w') ?_ (hn _ _ _ he)
      obtain ⟨k, hk⟩ := hbuiltin _ hcal
      rw [hk]
      simp only [builtin, hmap, h3]
      simp [hz]
    · cases h
  · cases h

theorem aop_wp (hO : OrcOk P O) (ht : ∀ t, relA β (τ t) (a.tmps.getD t undef)) (g : Good β H w) {o : Oper} {fr : Nat} {path : List Bool} {r : R} (h : aop P O o τ H fr path = some r) (hc : okConds r.conds)
    (hf : ∀ b, fr ≤ b → b < fr + r.nw → β b = none) {next : Act → World → Prop} {Q : Exit → Act → World → Prop} (hn : ∀ u w' β', Eff β fr r w u w' β' → next (a.put o.dst u) w') : o.wp P a w next Q := by
  have ev : ∀ (x : Operand) (A : AV), evO τ x = some A → relA β A (a.eval x) := fun x A hA => evO_rel ht hA
  have evm : ∀ (x : Option Operand), bRel β (x.map (evO τ)) (x.map a.eval) := by
    intro x
    cases x with
    | none => trivial
    | some x => exact ev x
  unfold aop at h
  split at h
  case h_1 x ho =>
    split at h
    · rename_i A hA
      injection h with h; subst h
      exact wp_of_value (by simp [execOp, ho]) (hn _ _ _ (Eff.pure_ g (ev _ _ hA)))
    · cases h
  case h_2 x ho =>
    split at h
    · rename_i A hA
      injection h with h; subst h
      exact wp_of_value (by simp [execOp, ho]) (hn _ _ _ (Eff.pure_ g (ev _ _ hA)))
    · cases h
  case h_3 c x y ho =>
    obtain ⟨q, hq, he⟩ := aPick_sound (P := P) g (ev c) (ev x) (ev y) h hc fr
    exact wp_of_value (by simp only [execOp, ho]; exact hq) (hn _ _ _ he)
  case h_4 t ho =>
    obtain ⟨u, w', β', hq, he⟩ := aAlloc_sound g h hf
    exact wp_of_value (by simp only [execOp, ho]; exact run_v hq) (hn _ _ _ he)
  case h_5 t x ho =>
    obtain ⟨u, w', β', hq, he⟩ := aBox_sound (P := P) g (ev x) h hf
    exact wp_of_value (by simp only [execOp, ho]; exact run_v hq) (hn _ _ _ he)
  case h_6 t parts ho =>
    obtain ⟨u, hq, he⟩ := aBuild_sound ht g h fr
    exact wp_of_value (by simp only [execOp, ho]; exact run_v hq) (hn _ _ _ he)
  case h_7 t len parts ho =>
    obtain ⟨u, w', β', hq, he⟩ := aBuildSlice_sound ht g h hf
    exact wp_of_value (by simp only [execOp, ho]; exact run_v hq) (hn _ _ _ he)
  case h_8 t x ho =>
    obtain ⟨u, hq, he⟩ := aLoad_sound g (ev x) h hc fr
    exact wp_of_value (by simp only [execOp, ho]; exact run_v hq) (hn _ _ _ he)
  case h_9 t x y ho =>
    obtain ⟨w', hq, he⟩ := aStore_sound g (ev x) (ev y) h hc fr
    exact wp_of_skip (by simp only [execOp, ho]; exact run_u hq) (hn _ _ _ he)
  case h_10 x ho =>
    split at h
    · rename_i b off hA
      injection h with h; subst h
      obtain ⟨B, n, e1, e2⟩ := rel_one (ev _ _ hA)
      injection e2 with e2 _
      exact wp_of_value (u := .pointer (some ⟨B, off, none⟩)) (by simp [execOp, ho, e2]) (hn _ _ _ (Eff.pure_ g (rel_one' ⟨B, n, e1, rfl⟩)))
    · rename_i f c hA
      injection h with h; subst h
      obtain ⟨ps, e1, e2⟩ := rel_one (ev _ _ hA)
      injection e2 with e2 _
      exact wp_of_value (u := .func (.func f) #[] ⟨ps⟩) (by simp [execOp, ho, e2]) (hn _ _ _ (Eff.pure_ g (rel_one' ⟨ps, e1, rfl⟩)))
    · rename_i f x' c hA
      injection h with h; subst h
      have e2 := (rel_one (ev _ _ hA)).1
      injection e2 with e2 _
      exact wp_of_value (u := .func (.func f) x' c) (by simp [execOp, ho, e2]) (hn _ _ _ (Eff.pure_ g (rel_one' ⟨rfl, rfl, trivial⟩)))
    · cases h
  case h_11 op t x y yt ho =>
    obtain ⟨u, hq, he⟩ := aBin_sound hO (X := x) (Y := y) g (ev x) (ev y) h hc fr
    exact wp_of_value (by simp only [execOp, ho]; exact run_v hq) (hn _ _ _ he)
  case h_12 op t x ho =>
    obtain ⟨u, hq, he⟩ := aUn_sound (P := P) g (ev x) h fr
    exact wp_of_value (by simp only [execOp, ho]; exact run_v hq) (hn _ _ _ he)
  case h_13 s d x ho =>
    obtain ⟨u, hq, he⟩ := aConvert_sound g (ev x) h fr
    exact wp_of_value (by simp only [execOp, ho]; exact run_v hq) (hn _ _ _ he)
  case h_14 t x ho =>
    obtain ⟨u, hq, he⟩ := aArrayAt_sound g (ev x) h hc fr
    exact wp_of_value (by simp only [execOp, ho]; exact run_v hq) (hn _ _ _ he)
  case h_15 f first captured ho =>
    split at h
    · rename_i xs h1 h2
      split at h
      · rename_i caps h3
        injection h with h; subst h
        have hp := asCaps_rel h3 (evOs_rel ht h2)
        refine wp_of_value (u := .func (.func f) #[] ⟨captured.toList.map a.eval⟩) ?_ (hn _ _ _ (Eff.pure_ g (rel_one' ⟨_, hp, rfl⟩)))
        have hfirst : first = #[] := by apply Array.ext'; simpa using h1
        have hmap : captured.map a.eval = ⟨captured.toList.map a.eval⟩ := by apply Array.ext'; simp
        simp [execOp, ho, Instr.makeFunc, hfirst, hmap]
      · cases h
    · cases h
  case h_16 t l c ho =>
    obtain ⟨u, w', β', hq, he⟩ := aMake_sound g (ev l) (ev c) h hc hf
    exact wp_of_value (by simp only [execOp, ho]; exact run_v hq) (hn _ _ _ he)
  case h_17 t x lo hi mx ho =>
    obtain ⟨u, hq, he⟩ := aSlice_sound g (ev x) (evm lo) (evm hi) (evm mx) h hc fr
    exact wp_of_value (by simp only [execOp, ho]; exact run_v hq) (hn _ _ _ he)
  case h_18 t x f ho =>
    obtain ⟨u, hq, he⟩ := aFieldAddr_sound g (ev x) h fr
    exact wp_of_value (by simp only [execOp, ho]; exact run_v hq) (hn _ _ _ he)
  case h_19 t x f ho =>
    obtain ⟨u, hq, he⟩ := aField_sound g (ev x) h fr
    exact wp_of_value (by simp only [execOp, ho]; exact run_v hq) (hn _ _ _ he)
  case h_20 t x i ho =>
    obtain ⟨u, hq, he⟩ := aIndexAddr_sound g (ev x) (ev i) h hc fr
    exact wp_of_value (by simp only [execOp, ho]; exact run_v hq) (hn _ _ _ he)
  case h_21 t x i ho =>
    obtain ⟨u, hq, he⟩ := aIndex_sound g (ev x) (ev i) h fr
    exact wp_of_value (by simp only [execOp, ho]; exact run_v hq) (hn _ _ _ he)
  case h_22 x i ho =>
    split at h
    · rename_i xs hA
      split at h
      · rename_i gg cs hi
        injection h with h; subst h
        obtain ⟨us, e1, e2⟩ := ev _ _ hA
        obtain ⟨u, e3, e4⟩ := relT_get e1 hi
        exact wp_of_value (u := u) (by simp [execOp, ho, e2, Instr.extract, e3]) (hn _ _ _ (Eff.pure_ g e4))
      · cases h
    · cases h
  case h_23 c ho => exact aCall_wp hO ht g ho h hc hf hn
  case h_24 => cases h
end
end Go.Proofs.Ytoemaicabljpfaa.Ex
