/- Runs from one loop's head to the next: what is forgotten there. -/
import Derived.Test.YtoemaicabljpfaaExN
namespace Go.Proofs.Ytoemaicabljpfaa.Ex

def forgetT (keep : List Nat) : Nat → List AV → List AV
  | _, [] => []
  | i, x :: r => match mem i keep with
    | true => x :: forgetT keep (i + 1) r
    | false => .any :: forgetT keep (i + 1) r
def allLt (n : Nat) : List Nat → Bool
  | [] => true
  | k :: r => match Nat.blt k n with | true => allLt n r | false => false
def tLt (n : Nat) : List AV → Bool
  | [] => true
  | x :: r => match allLt n (avKeys x) with | true => tLt n r | false => false
def hLt (n : Nat) : Heap → Bool
  | [] => true
  | (k, y) :: r => match Nat.blt k n, y with
    | true, some blk => match allLt n (chsKeys blk.cs) with | true => hLt n r | false => false
    | true, none => hLt n r
    | false, _ => false
theorem nblt {a b : Nat} : Nat.blt a b = true ↔ a < b := by unfold Nat.blt; exact ⟨Nat.le_of_ble_eq_true, Nat.ble_eq_true_of_le⟩
theorem allLt_spec {n : Nat} : ∀ {l : List Nat}, allLt n l = true → ∀ k ∈ l, k < n
  | [], _, k, h => by cases h
  | x :: r, h, k, hk => by
    simp only [allLt] at h
    split at h
    · rename_i hb
      rcases List.mem_cons.1 hk with rfl | hk
      · exact nblt.1 hb
      · exact allLt_spec h k hk
    · cases h

/-- The environment without the keys from n on. -/
def cutEnv (β : Env) (n : Nat) : Env := fun b => match Nat.blt b n with | true => β b | false => none
theorem cutEnv_lt {β : Env} {n b : Nat} (h : b < n) : cutEnv β n b = β b := by simp [cutEnv, nblt.2 h]
theorem cutEnv_ge {β : Env} {n b : Nat} (h : n ≤ b) : cutEnv β n b = none := by
  have : Nat.blt b n = false := by cases hb : Nat.blt b n with | false => rfl | true => have := nblt.1 hb; omega
  simp [cutEnv, this]
theorem cutEnv_some {β : Env} {n b : Nat} {X : Loc} (h : cutEnv β n b = some X) : β b = some X ∧ b < n := by
  rcases Nat.lt_or_ge b n with hlt | hge
  · rw [cutEnv_lt hlt] at h; exact ⟨h, hlt⟩
  · rw [cutEnv_ge hge] at h; cases h
section
variable {β β' : Env}
theorem relP_on : ∀ {caps : List (Nat × Nat)} {l : List Value}, (∀ k ∈ caps.map (·.1), β' k = β k) → relP β caps l → relP β' caps l
  | [], _, _, h => h
  | (b, o) :: r, l, hk, ⟨B, n, l', h1, h2, h3⟩ => ⟨B, n, l', by rw [hk b (by simp)]; exact h1, relP_on (fun k h => hk k (by simp at h ⊢; exact .inr h)) h2, h3⟩
theorem relC_on {c : Ch} {l : List Value} (hk : ∀ k ∈ chKeys c, β' k = β k) (h : relC β c l) : relC β' c l := by
  cases c <;> simp only [chKeys] at hk <;> simp only [relC] at h ⊢
  case n => exact h
  case b => exact h
  case v => exact h
  case p => rw [hk _ (by simp)]; exact h
  case sl => rw [hk _ (by simp)]; exact h
  case sx => rw [hk _ (by simp)]; exact h
  case num => exact h
  case seq => exact h
  case clo => obtain ⟨ps, h1, h2⟩ := h; exact ⟨ps, relP_on hk h1, h2⟩
theorem relL_on : ∀ {cs : List Ch} {l : List Value}, (∀ k ∈ chsKeys cs, β' k = β k) → relL β cs l → relL β' cs l
  | [], _, _, h => h
  | c :: cs, l, hk, ⟨l1, l2, h1, h2, h3⟩ => by
    simp only [chsKeys, cat_eq, List.mem_append] at hk
    exact ⟨l1, l2, relC_on (fun k h => hk k (.inl h)) h1, relL_on (fun k h => hk k (.inr h)) h2, h3⟩
theorem relG_on {g : Bool} {cs : List Ch} {u : Value} (hk : ∀ k ∈ chsKeys cs, β' k = β k) (h : relG β g cs u) : relG β' g cs u := by
  cases g
  · exact relL_on hk h
  · obtain ⟨l, h1, h2⟩ := h; exact ⟨l, relL_on hk h1, h2⟩
theorem relT_on : ∀ {xs : List (Bool × List Ch)} {l : List Value}, (∀ k ∈ tupKeys xs, β' k = β k) → relT β xs l → relT β' xs l
  | [], _, _, h => h
  | (g, cs) :: xs, l, hk, ⟨u, l', h1, h2, h3⟩ => by
    simp only [tupKeys, cat_eq, List.mem_append] at hk
    exact ⟨u, l', relG_on (fun k h => hk k (.inl h)) h1, relT_on (fun k h => hk k (.inr h)) h2, h3⟩
theorem relA_on {x : AV} {u : Value} (hk : ∀ k ∈ avKeys x, β' k = β k) (h : relA β x u) : relA β' x u := by
  cases x with
  | val g cs => exact relG_on hk h
  | tup xs => obtain ⟨us, h1, h2⟩ := h; exact ⟨us, relT_on hk h1, h2⟩
  | any => trivial
end

def forget (keep ks : List Nat) (fr : Nat) (path : List Bool) (s : St) : Option St :=
  match tLt fr (forgetT keep 0 s.T), hLt fr (restrict s.H ks) with
  | true, true => some ⟨forgetT keep 0 s.T, restrict s.H ks, fr, path⟩
  | _, _ => none

theorem tLt_get {n : Nat} : ∀ {T : List AV} {t : Nat}, tLt n T = true → ∀ k ∈ avKeys (tget T t), k < n
  | [], _, _, k, h => by simp [tget, avKeys] at h
  | x :: r, 0, h, k, hk => by
    simp only [tLt] at h
    split at h
    · rename_i h1; exact allLt_spec h1 k hk
    · cases h
  | x :: r, t + 1, h, k, hk => by
    simp only [tLt] at h
    split at h
    · exact tLt_get h k hk
    · cases h
theorem hLt_get {n : Nat} : ∀ {H : Heap} {b : Nat} {blk : Blk}, hLt n H = true → hget H b = some blk → b < n ∧ ∀ k ∈ chsKeys blk.cs, k < n
  | [], _, _, _, h => by cases h
  | (k, y) :: r, b, blk, h, hb => by
    simp only [hLt] at h
    simp only [hget] at hb
    split at h
    · rename_i hk
      split at h
      · rename_i hall
        split at hb
        · rename_i e; rw [← nbeq.1 e]; injection hb with hb; subst hb; exact ⟨nblt.1 hk, allLt_spec hall⟩
        · exact hLt_get h hb
      · cases h
    · rename_i hk
      split at hb
      · cases hb
      · exact hLt_get h hb
    · cases h
theorem forgetT_get (keep : List Nat) : ∀ {T : List AV} {i t : Nat}, tget (forgetT keep i T) t = tget T t ∨ tget (forgetT keep i T) t = .any
  | [], i, t => .inl rfl
  | x :: r, i, 0 => by
    simp only [forgetT]
    split
    · exact .inl rfl
    · exact .inr rfl
  | x :: r, i, t + 1 => by
    simp only [forgetT]
    split <;> exact forgetT_get keep
theorem forgetT_length (keep : List Nat) : ∀ {T : List AV} {i : Nat}, (forgetT keep i T).length = T.length
  | [], _ => rfl
  | x :: r, i => by simp only [forgetT]; split <;> simp [forgetT_length keep]

section
variable {P : Program} {O : Orc} {f : FuncId} {β0 : Env} {w0 : World} {R : Ending → World → Prop} {n : Nat} {W : List Nat}

theorem forget_wf {keep ks : List Nat} {fr : Nat} {path : List Bool} {s s' : St} (h : forget keep ks fr path s = some s') (hwf : wfSt n s) : wfSt n s' := by
  unfold forget at h
  split at h
  · rename_i h1 h2
    injection h with h; subst h
    refine ⟨fun b hb => ?_, by simp only [forgetT_length]; exact hwf.2⟩
    cases hq : hget (restrict s.H ks) b with
    | none => rfl
    | some blk => have := (hLt_get h2 hq).1; simp only at hb; omega
  · cases h

theorem forget_safe {keep ks : List Nat} {fr : Nat} {path : List Bool} {s s' : St} {todo : List Item} (h : forget keep ks fr path s = some s') (hβ0 : ∀ b, fr ≤ b → β0 b = none)
    (hs : ASafe P f β0 w0 R n W ⟨todo, s'⟩) : ASafe P f β0 w0 R n W ⟨todo, s⟩ := by
  unfold forget at h
  split at h
  · rename_i h1 h2
    injection h with h; subst h
    intro β a w hi hf
    refine hs (cutEnv β fr) a w ?_ (fun b hb => cutEnv_ge hb)
    refine { hi with tmp := fun t => ?_, good := ?_, new := fun b X hb => ?_, ext := fun b B hb => ?_ }
    · have hk := tLt_get (t := t) h1
      simp only
      rcases forgetT_get keep (T := s.T) (i := 0) (t := t) with e | e
      · rw [e] at hk ⊢
        exact relA_on (fun k hkk => cutEnv_lt (hk k hkk)) (hi.tmp t)
      · rw [e]; trivial
    · refine ⟨fun b blk hb => ?_, fun b b' B m m' h3 h4 h5 h6 => ?_, fun b B m hb => hi.good.lt b B m (cutEnv_some hb).1⟩
      · obtain ⟨e1, e2⟩ := hLt_get h2 hb
        rcases hi.good.heap b blk (restrict_get hb) with ⟨B, m, l, t, q1, q2, q3⟩ | ⟨q1, q2, q3⟩
        · exact .inl ⟨B, m, l, t, by rw [cutEnv_lt e1]; exact q1, relL_on (fun k hk => cutEnv_lt (e2 k hk)) q2, q3⟩
        · exact .inr ⟨by rw [cutEnv_lt e1]; exact q1, q2, relL_on (fun k hk => cutEnv_lt (e2 k hk)) q3⟩
      · obtain ⟨x, hx⟩ := Option.isSome_iff_exists.1 h3
        obtain ⟨y, hy⟩ := Option.isSome_iff_exists.1 h4
        exact hi.good.inj b b' B m m' (by rw [restrict_get hx]; rfl) (by rw [restrict_get hy]; rfl) (cutEnv_some h5).1 (cutEnv_some h6).1
    · exact hi.new b X (cutEnv_some hb).1
    · have hlt : b < fr := by
        rcases Nat.lt_or_ge b fr with h | h
        · exact h
        · rw [hβ0 b h] at hb; cases hb
      rw [cutEnv_lt hlt]; exact hi.ext b B hb
  · cases h

/-- Keys that came in, of those that were written. -/
def oldKeys (k0 : Nat) : List Nat → List Nat
  | [] => []
  | k :: r => match Nat.blt k k0, mem k (oldKeys k0 r) with
    | true, false => k :: oldKeys k0 r
    | _, _ => oldKeys k0 r
theorem oldKeys_mem {k0 k : Nat} : ∀ {l : List Nat}, k ∈ l → k < k0 → k ∈ oldKeys k0 l
  | [], h, _ => by cases h
  | x :: r, h, hlt => by
    simp only [oldKeys]
    rcases List.mem_cons.1 h with rfl | h
    · rw [nblt.2 hlt]
      cases hm : mem k (oldKeys k0 r) with
      | true => simp only; exact mem_iff.1 hm
      | false => simp
    · have ih := oldKeys_mem h hlt
      split
      · exact List.mem_cons_of_mem _ ih
      · exact ih
theorem Inv.old {W W' : List Nat} {k0 : Nat} {β : Env} {τ : Nat → AV} {H : Heap} {a : Act} {w : World} (i : Inv β0 w0 W n β τ H a w) (h0 : ∀ b, k0 ≤ b → β0 b = none) (h : ∀ k ∈ W, k < k0 → k ∈ W') : Inv β0 w0 W' n β τ H a w :=
  { i with
    new := fun b X hb => (i.new b X hb).imp id fun q B m e => (q B m e).imp id fun ⟨k, m', h1, h2⟩ => ⟨k, m', h k h1 (by
      rcases Nat.lt_or_ge k k0 with h | h
      · exact h
      · rw [h0 k h] at h2; cases h2), h2⟩
    frame := fun B hB hno => i.frame B hB fun k m hk hk2 => hno k m (h k hk (by
      rcases Nat.lt_or_ge k k0 with h | h
      · exact h
      · rw [h0 k h] at hk2; cases hk2)) hk2 }
theorem ASafe.old {W W' : List Nat} {k0 : Nat} {x : ASt} (h0 : ∀ b, k0 ≤ b → β0 b = none) (h : ∀ k ∈ W, k < k0 → k ∈ W') (hs : ASafe P f β0 w0 R n W' x) : ASafe P f β0 w0 R n W x :=
  fun β a w hi hf => hs β a w (hi.old h0 h) hf

/-- A stretch of the run: up to a loop's head (there all is forgotten but what is named), or to the end. -/
def aSeg (P : Program) (O : Orc) (stop : Option Nat) (fuel k0 : Nat) (fg : Option (List Nat × List Nat × Nat)) (x : ASt) : Option (List (Bool × Bool) × List Nat × ASt) :=
  match aRun P O stop fuel x with
  | some (g, y) => match fg with
    | some (keep, ks, fr) => match forget keep ks fr [] y.s, Nat.ble k0 fr with
      | some s', true => some (g.conds, oldKeys k0 g.keys, ⟨y.todo, s'⟩)
      | _, _ => none
    | none => some (g.conds, oldKeys k0 g.keys, y)
  | none => none
theorem seg_safe (hO : OrcOk P O) (hm : P.follows .mixedOrders = true) {stop : Option Nat} {fuel k0 : Nat} {fg : Option (List Nat × List Nat × Nat)} {x y : ASt} {conds : List (Bool × Bool)} {ks : List Nat} (h : aSeg P O stop fuel k0 fg x = some (conds, ks, y))
    (hc : okConds conds) (hwf : wfSt n x.s) (h0 : ∀ b, k0 ≤ b → β0 b = none) (hks : ∀ k ∈ ks, k ∈ W) (hs : wfSt n y.s → ASafe P f β0 w0 R n W y) : ASafe P f β0 w0 R n W x := by
  unfold aSeg at h
  split at h
  case h_2 => cases h
  rename_i g y1 hrun
  have hW : ∀ k ∈ W ++ g.keys, k < k0 → oldKeys k0 g.keys = ks → k ∈ W := by
    intro k hk hlt he
    rcases List.mem_append.1 hk with hk | hk
    · exact hk
    · exact hks k (by rw [← he]; exact oldKeys_mem hk hlt)
  split at h
  · rename_i keep ks' fr
    split at h
    · rename_i s' hfg hle
      injection h with h; injection h with h1 h; injection h with h2 h3
      subst h1; subst h3
      refine run_safe hO hm hrun hc hwf fun hw => ?_
      have hle' := Nat.le_of_ble_eq_true hle
      refine ASafe.old h0 (fun k hk hlt => hW k hk hlt h2) ?_
      exact forget_safe hfg (fun b hb => h0 b (by omega)) (hs (forget_wf hfg hw))
    · cases h
  · injection h with h; injection h with h1 h; injection h with h2 h3
    subst h1; subst h3
    refine run_safe hO hm hrun hc hwf fun hw => ?_
    exact ASafe.old h0 (fun k hk hlt => hW k hk hlt h2) (hs hw)

def wfB (n : Nat) (s : St) : Bool := hLt s.fr s.H && Nat.beq (alen s.T) n
theorem wfB_ok {s : St} (h : wfB n s = true) : wfSt n s := by
  have h' := Bool.and_eq_true_iff.1 h
  refine ⟨fun b hb => ?_, by have := nbeq.1 h'.2; rwa [alen_eq] at this⟩
  cases hq : hget s.H b with
  | none => rfl
  | some blk => have := (hLt_get h'.1 hq).1; omega

/-- The state in which a call begins. -/
def entry (fn : Func) (args : List AV) (H : Heap) (k0 : Nat) (path : List Bool) : ASt :=
  ⟨match fn.body with | some c => [.code c] | none => [], ⟨initT args fn.ntmps, H, k0, path⟩⟩
/-- The result at the end of a run. -/
def aFin (P : Program) (fn : Func) (y : ASt) : Option AV :=
  match aEnd y.todo, aResults P y.s.T y.s.H fn.results.toList with
  | true, some l => some (oneOf l)
  | _, _ => none
theorem fin_safe {fn : Func} {y : ASt} {v : AV} (hfn : P.funcs[f]? = some fn) (h : aFin P fn y = some v) (hR : ∀ e w, Outs β0 w0 W v y.s.H e w → R e w) : ASafe P f β0 w0 R n W y := by
  unfold aFin at h
  split at h
  · rename_i l h1 h2
    injection h with h; subst h
    intro β a w hi hf
    have := safe_end (P := P) (n := n) (W := W) (β0 := β0) (w0 := w0) hfn h1 h2 β a w hi hf
    intro b cs hb hk
    obtain ⟨e, w', fr, q1, q2⟩ := this b cs hb hk
    exact ⟨e, w', fr, hR _ _ q1, q2⟩
  · cases h
end

section
variable {P : Program} {f : FuncId} {fn : Func}
theorem calls_of_entry {R : Ending → World → Prop} (hfn : P.funcs[f]? = some fn) (hb : fn.body.isSome = true) {args : List AV} {H : Heap} {k0 : Nat} {path : List Bool} {β : Env} {us : List Value} {w : World} (hlen : Nat.ble (alen args) fn.ntmps = true)
    (h : ASafe P f β w R fn.ntmps [] (entry fn args H k0 path)) (ha : relAs β args us) (hg : Good β H w) (hf : ∀ b, k0 ≤ b → β b = none) : Calls P f ⟨us⟩ w R := by
  obtain ⟨c, hc⟩ := Option.isSome_iff_exists.1 hb
  have hl := Nat.le_of_ble_eq_true hlen
  rw [alen_eq] at hl
  unfold entry at h
  rw [hc] at h
  exact calls_of_safe hfn hc hl h ha hg hf
end

/- the end of a run whose answer holds no memory -/
open Go.RowKit (Below)
def PureOut (w0 : World) (v : AV) : Ending → World → Prop := fun e w' => ∃ u, e = .returned u ∧ relA noEnv v u ∧ Below w0.heap.size w0 w'
def segRet (P : Program) (O : Orc) (fn : Func) (fuel k0 : Nat) (x : ASt) : Option (List (Bool × Bool) × List Nat × AV) :=
  match aRun P O none fuel x with
  | some (g, y) => match aFin P fn y with
    | some v => some (g.conds, oldKeys k0 g.keys, v)
    | none => none
  | none => none
section
variable {P : Program} {O : Orc} {f : FuncId} {fn : Func} {β0 : Env} {w0 : World} {n : Nat}
theorem ret_safe (hO : OrcOk P O) (hm : P.follows .mixedOrders = true) (hfn : P.funcs[f]? = some fn) {fuel k0 : Nat} {x : ASt} {conds : List (Bool × Bool)} {v : AV} (h : segRet P O fn fuel k0 x = some (conds, [], v)) (hc : okConds conds) (hwf : wfSt n x.s)
    (h0 : ∀ b, k0 ≤ b → β0 b = none) (hk : noKeys v = true) : ASafe P f β0 w0 (PureOut w0 v) n [] x := by
  unfold segRet at h
  split at h
  case h_2 => cases h
  rename_i g y hrun
  split at h
  case h_2 => cases h
  rename_i v' hv
  injection h with h; injection h with h1 h; injection h with h2 h3
  subst h1; subst h3
  refine seg_safe (W := []) hO hm (fuel := fuel) (k0 := k0) (fg := none) (stop := none) (ks := []) (y := y) (by unfold aSeg; rw [hrun]; simp only; rw [h2]) hc hwf h0 (fun _ h => by cases h) fun _ => ?_
  intro β a w hi hf
  unfold aFin at hv
  split at hv
  case h_2 => cases hv
  rename_i l e1 e2
  injection hv with hv; subst hv
  have := safe_end (P := P) (n := n) (W := []) (β0 := β0) (w0 := w0) hfn e1 e2 β a w hi hf
  intro b cs hb hkd
  obtain ⟨e, w', fr, ⟨u, β', q0, q1⟩, q2⟩ := this b cs hb hkd
  exact ⟨e, w', fr, ⟨u, q0, relA_any hk q1.val, q1.os, q1.tape, q1.output, q1.size, fun k hk => q1.frame k hk (fun _ _ h => by cases h)⟩, q2⟩
theorem pure_entry (hfn : P.funcs[f]? = some fn) (hb : fn.body.isSome = true) {args : List AV} {path : List Bool} {v : AV} (hlen : Nat.ble (alen args) fn.ntmps = true)
    (h : ∀ w0, ASafe P f noEnv w0 (PureOut w0 v) fn.ntmps [] (entry fn args [] 0 path)) : PureOk P f args v :=
  fun _ w ha => calls_of_entry hfn hb hlen (h w) ha (Good.none_ w) (fun _ _ => rfl)
/-- The path may be chosen anew at any time. -/
theorem path_safe {R : Ending → World → Prop} {W : List Nat} {todo : List Item} {T : List AV} {H : Heap} {fr : Nat} {p : List Bool} (q : List Bool) (h : ASafe P f β0 w0 R n W ⟨todo, ⟨T, H, fr, q⟩⟩) : ASafe P f β0 w0 R n W ⟨todo, ⟨T, H, fr, p⟩⟩ := h
end
end Go.Proofs.Ytoemaicabljpfaa.Ex
