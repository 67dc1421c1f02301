/- What a run of the executor says of a call of the function: contracts. -/
import Derived.Test.YtoemaicabljpfaaExM
import Derived.Below
namespace Go.Proofs.Ytoemaicabljpfaa.Ex
open Go.RowKit (Below)

def pads : Nat → List AV
  | 0 => []
  | n + 1 => .tup [] :: pads n
def acat : List AV → List AV → List AV
  | [], l => l
  | x :: r, l => x :: acat r l
theorem acat_eq : ∀ (a b : List AV), acat a b = a ++ b
  | [], _ => rfl
  | x :: r, b => by simp [acat, acat_eq r b]
theorem pads_length : ∀ n, (pads n).length = n
  | 0 => rfl
  | n + 1 => by simp [pads, pads_length n]
def alen : List AV → Nat
  | [] => 0
  | _ :: r => alen r + 1
theorem alen_eq : ∀ l : List AV, alen l = l.length
  | [] => rfl
  | _ :: r => by simp [alen, alen_eq r]
def initT (args : List AV) (n : Nat) : List AV := acat args (pads (n - alen args))

theorem relAs_length {β : Env} : ∀ {xs : List AV} {us : List Value}, relAs β xs us → us.length = xs.length
  | [], us, h => by simp only [relAs] at h; simp [h]
  | x :: xs, us, ⟨u, us', _, h2, h3⟩ => by simp [h3, relAs_length h2]
theorem tget_rel {β : Env} : ∀ {xs : List AV} {us : List Value} (m : Nat), relAs β xs us → ∀ t, relA β (tget (xs ++ pads m) t) ((us ++ List.replicate m undef).getD t undef)
  | [], us, 0, h, t => by simp only [relAs] at h; subst h; exact trivial
  | [], us, m + 1, h, 0 => by
    simp only [relAs] at h; subst h
    exact ⟨[], rfl, rfl⟩
  | [], us, m + 1, h, t + 1 => by
    simp only [relAs] at h; subst h
    have := tget_rel (β := β) (xs := []) (us := []) m rfl t
    simpa [pads, tget, List.replicate_succ] using this
  | x :: xs, us, m, ⟨u, us', h1, h2, h3⟩, 0 => by subst h3; exact h1
  | x :: xs, us, m, ⟨u, us', h1, h2, h3⟩, t + 1 => by
    subst h3
    have := tget_rel m h2 t
    simpa [tget] using this

/-- How a call ends: what is answered, what memory holds. -/
structure Out (β0 : Env) (w0 : World) (W : List Nat) (val : AV) (H : Heap) (u : Value) (w : World) (β : Env) : Prop where
  val : relA β val u
  good : Good β H w
  new : ∀ b X, β b = some X → β0 b = some X ∨ ∀ B m, X = .at_ B m → w0.heap.size ≤ B ∨ ∃ k m', k ∈ W ∧ β0 k = some (.at_ B m')
  ext : Env.le β0 β
  frame : ∀ B, B < w0.heap.size → (∀ k m, k ∈ W → β0 k ≠ some (.at_ B m)) → w.heap[B]? = w0.heap[B]?
  size : w0.heap.size ≤ w.heap.size
  os : w.os = w0.os
  tape : w.tape = w0.tape
  output : w.output = w0.output
def Outs (β0 : Env) (w0 : World) (W : List Nat) (val : AV) (H : Heap) : Ending → World → Prop := fun e w => ∃ u β, e = .returned u ∧ Out β0 w0 W val H u w β

section
variable {P : Program} {O : Orc} (hO : OrcOk P O) (hm : P.follows .mixedOrders = true) {f : FuncId} {fn : Func} {c : Code}

theorem calls_of_safe {R : Ending → World → Prop} (hfn : P.funcs[f]? = some fn) (hb : fn.body = some c) {args : List AV} {H : Heap} {fr : Nat} {path : List Bool} {β : Env} {us : List Value} {w : World} (hlen : args.length ≤ fn.ntmps)
    (h : ASafe P f β w R fn.ntmps [] ⟨[.code c], ⟨initT args fn.ntmps, H, fr, path⟩⟩) (ha : relAs β args us) (hg : Good β H w) (hf : ∀ b, fr ≤ b → β b = none) : Calls P f ⟨us⟩ w R := by
  have hul := relAs_length ha
  have hs := h β { tmps := (⟨us⟩ : Array Value) ++ Array.replicate (fn.ntmps - us.length) undef, defers := [] } w ?_ hf
  · intro cs
    let b : Frame := { (default : Frame) with fn := f, kind := .normal }
    have henter : Frame.enter P f ⟨us⟩ .normal = b.at { tmps := (⟨us⟩ : Array Value) ++ Array.replicate (fn.ntmps - us.length) undef, defers := [] } [.code c] := by
      simp [Frame.enter, Frame.at, hfn, hb, b]
    rw [henter]
    exact hs b cs rfl rfl
  · have hT : ∀ t, relA β (tget (initT args fn.ntmps) t) (((⟨us⟩ : Array Value) ++ Array.replicate (fn.ntmps - us.length) undef).getD t undef) := by
      intro t
      have := tget_rel (fn.ntmps - us.length) ha t
      have e : ((⟨us⟩ : Array Value) ++ Array.replicate (fn.ntmps - us.length) undef).getD t undef = (us ++ List.replicate (fn.ntmps - us.length) undef).getD t undef := by
        rw [Array.getD_eq_getD_getElem?, List.getD_eq_getElem?_getD, ← Array.getElem?_toList]
        simp
      rw [e, initT, acat_eq, alen_eq, ← hul]
      exact this
    exact ⟨hT, hg, by simp; omega, rfl, fun b X hb => .inl hb, Env.le_refl _, fun _ _ _ => rfl, Nat.le_refl _, rfl, rfl, rfl⟩

theorem safe_end {β0 : Env} {w0 : World} {n : Nat} {W : List Nat} {y : ASt} {l : List (Bool × List Ch)} (hfn : P.funcs[f]? = some fn) (hend : aEnd y.todo = true) (hres : aResults P y.s.T y.s.H fn.results.toList = some l) :
    ASafe P f β0 w0 (Outs β0 w0 W (oneOf l) y.s.H) n W y := by
  intro β a w hi _
  obtain ⟨v, hv, hr⟩ := aResults_run hi.tmp hi.good hres
  refine Safe.done hfn hi.dfr hv ⟨v, β, rfl, hr, hi.good, hi.new, hi.ext, hi.frame, hi.size, hi.os, hi.tape, hi.output⟩ ?_
  unfold aEnd at hend
  split at hend
  · rename_i h; exact .inr h
  · rename_i k h; exact .inl ⟨k, h⟩
  · cases hend

/- the plainest contracts: no memory comes in, none goes out -/
def noKeys : AV → Bool
  | .val _ cs => nilB (chsKeys cs)
  | .tup xs => nilB (tupKeys xs)
  | .any => false
def noKeysL : List AV → Bool
  | [] => true
  | x :: r => noKeys x && noKeysL r

theorem relP_any {β β' : Env} : ∀ {caps : List (Nat × Nat)} {l : List Value}, caps.map (·.1) = [] → relP β caps l → relP β' caps l
  | [], _, _, h => h
  | _ :: _, _, h, _ => by simp at h
theorem relC_any {β β' : Env} {c : Ch} {l : List Value} (hk : chKeys c = []) (h : relC β c l) : relC β' c l := by
  cases c <;> simp only [chKeys] at hk <;> simp only [relC] at h ⊢
  case n => exact h
  case b => exact h
  case v => exact h
  case p => cases hk
  case sl => cases hk
  case sx => cases hk
  case num => exact h
  case seq => exact h
  case clo => obtain ⟨ps, h1, h2⟩ := h; exact ⟨ps, relP_any hk h1, h2⟩
theorem relL_any {β β' : Env} : ∀ {cs : List Ch} {l : List Value}, chsKeys cs = [] → relL β cs l → relL β' cs l
  | [], _, _, h => h
  | c :: cs, l, hk, ⟨l1, l2, h1, h2, h3⟩ => by
    simp only [chsKeys, cat_eq, List.append_eq_nil_iff] at hk
    exact ⟨l1, l2, relC_any hk.1 h1, relL_any hk.2 h2, h3⟩
theorem relG_any {β β' : Env} {g : Bool} {cs : List Ch} {u : Value} (hk : chsKeys cs = []) (h : relG β g cs u) : relG β' g cs u := by
  cases g
  · exact relL_any hk h
  · obtain ⟨l, h1, h2⟩ := h; exact ⟨l, relL_any hk h1, h2⟩
theorem relT_any {β β' : Env} : ∀ {xs : List (Bool × List Ch)} {l : List Value}, tupKeys xs = [] → relT β xs l → relT β' xs l
  | [], _, _, h => h
  | (g, cs) :: xs, l, hk, ⟨u, l', h1, h2, h3⟩ => by
    simp only [tupKeys, cat_eq, List.append_eq_nil_iff] at hk
    exact ⟨u, l', relG_any hk.1 h1, relT_any hk.2 h2, h3⟩
theorem relA_any {β β' : Env} {x : AV} {u : Value} (hk : noKeys x = true) (h : relA β x u) : relA β' x u := by
  cases x with
  | val g cs => exact relG_any (nilB_spec hk) h
  | tup xs => obtain ⟨us, h1, h2⟩ := h; exact ⟨us, relT_any (nilB_spec hk) h1, h2⟩
  | any => cases hk
theorem relAs_any {β β' : Env} : ∀ {xs : List AV} {us : List Value}, noKeysL xs = true → relAs β xs us → relAs β' xs us
  | [], _, _, h => h
  | x :: xs, us, hk, ⟨u, us', h1, h2, h3⟩ => by
    have hk' := Bool.and_eq_true_iff.1 hk
    exact ⟨u, us', relA_any hk'.1 h1, relAs_any hk'.2 h2, h3⟩

def noEnv : Env := fun _ => none
/-- Called with these values the function answers that value; of what was there nothing turns. -/
def PureOk (P : Program) (f : FuncId) (args : List AV) (v : AV) : Prop :=
  ∀ (us : List Value) (w : World), relAs noEnv args us → Calls P f ⟨us⟩ w fun e w' => ∃ u, e = .returned u ∧ relA noEnv v u ∧ Below w.heap.size w w'

def pureRun (P : Program) (O : Orc) (fn : Func) (args : List AV) (path : List Bool) (fuel : Nat) : Option (List (Bool × Bool) × AV) :=
  match fn.body with
  | some c => match aRun P O none fuel ⟨[.code c], ⟨initT args fn.ntmps, [], 0, path⟩⟩ with
    | some (g, y) => match aEnd y.todo, aResults P y.s.T y.s.H fn.results.toList, Nat.ble (alen args) fn.ntmps with
      | true, some l, true => some (g.conds, oneOf l)
      | _, _, _ => none
    | none => none
  | none => none

theorem Good.none_ (w : World) : Good noEnv [] w where
  heap := fun b blk h => by cases h
  inj := fun b b' B n n' h => by cases h
  lt := fun b B n h => by cases h

include hO hm in
theorem pure_ok (hfn : P.funcs[f]? = some fn) {args : List AV} {path : List Bool} {fuel : Nat} {conds : List (Bool × Bool)} {v : AV} (h : pureRun P O fn args path fuel = some (conds, v)) (hc : okConds conds) (hk : noKeys v = true) : PureOk P f args v := by
  unfold pureRun at h
  split at h
  case h_2 => cases h
  rename_i c hb
  split at h
  case h_2 => cases h
  rename_i g y hrun
  split at h
  case h_2 => cases h
  rename_i l hend hres hlen
  injection h with h; injection h with h1 h2; subst h1; subst h2
  intro us w ha
  have hlen' := Nat.le_of_ble_eq_true hlen
  rw [alen_eq] at hlen'
  refine Calls.mono (calls_of_safe (R := Outs noEnv w g.keys (oneOf l) y.s.H) (fr := 0) (path := path) hfn hb hlen' ?_ ha (Good.none_ w) (fun _ _ => rfl)) ?_
  · refine run_safe hO hm hrun hc ⟨fun _ _ => rfl, ?_⟩ fun _ => ?_
    · simp only [initT, acat_eq, alen_eq, List.length_append, pads_length]; omega
    · rw [List.nil_append]; exact safe_end hfn hend hres
  · rintro e w' ⟨u, β, rfl, ho⟩
    exact ⟨u, rfl, relA_any hk ho.val, ho.os, ho.tape, ho.output, ho.size, fun k hk => ho.frame k hk (fun _ _ _ h => by cases h)⟩

/- contracts on offer -/
theorem callX_of_calls {us : Array Value} {w : World} {R : Ending → World → Prop} (hfn : P.funcs[f]? = some fn) (hb : fn.body.isSome = true) (hname : (fn.name == "runtime.NumGoroutine") = false) (h : Calls P f us w R) : CallX P f us w R := by
  unfold CallX
  have h1 : fn.name ≠ "runtime.NumGoroutine" := by simpa using hname
  have h2 : ¬ fn.body = none := by cases hq : fn.body <;> simp [hq] at hb ⊢
  have : (callFunc f us).run P w = .ok (.enter f us) w := by
    simp [callFunc, hfn, h1, h2]
  rw [this]; exact h

def pureSpec (sp : List AV → Option AV) : ASpec := fun args _ _ path =>
  match noKeysL args, sp args with
  | true, some v => match noKeys v with
    | true => some (pureR v path)
    | false => none
  | _, _ => none
theorem pureSpec_ok {sp : List AV → Option AV} (hfn : P.funcs[f]? = some fn) (hb : fn.body.isSome = true) (hname : (fn.name == "runtime.NumGoroutine") = false) (h : ∀ args v, sp args = some v → PureOk P f args v) : SpecOk P f (pureSpec sp) := by
  intro args H fr path r β us w hs hc ha hg hf
  unfold pureSpec at hs
  split at hs
  · rename_i v hk hv
    split at hs
    · rename_i hkv
      injection hs with hs; subst hs
      refine callX_of_calls hfn hb hname (Calls.mono (h args v hv us w (relAs_any hk ha)) ?_)
      rintro e w' ⟨u, rfl, hu, hbl⟩
      refine ⟨u, β, rfl, ?_⟩
      exact ⟨Env.le_refl _, fun _ _ h => .inl h, fun b B n hb => Nat.lt_of_lt_of_le (hg.lt b B n hb) hbl.size, fun b b' _ _ _ h1 _ h3 => by simp [pureR] at h3; omega, relA_any hkv hu, fun _ _ h => (by cases h), fun B hB _ => hbl.block B hB, hbl.size, hbl.os, hbl.tape, hbl.output⟩
    · cases hs
  · cases hs

/- the two functions of math/bits that the model knows by itself -/
def sumW (a b c : Int) : Int := (a + b + c) % 18446744073709551616
def carW (a b c : Int) : Int := (a + b + c) / 18446744073709551616
def difW (a b c : Int) : Int := (a - b - c) % 18446744073709551616
def borW (a b c : Int) : Int := if a < b + c then 1 else 0
def is01 (c : Int) : Bool := decide (0 ≤ c ∧ c ≤ 1)
def addSpec : ASpec := fun args _ _ path =>
  match args with
  | [x, y, z] => match asI (some x), asI (some y), asI (some z) with
    | some (_, .u64, a), some (_, .u64, b), some (_, .u64, c) => some ⟨.tup [(false, [.v (.int .u64 (sumW a b c))]), (false, [.v (.int .u64 (carW a b c))])], [], 0, [(is01 c, true)], path⟩
    | _, _, _ => none
  | _ => none
def subSpec : ASpec := fun args _ _ path =>
  match args with
  | [x, y, z] => match asI (some x), asI (some y), asI (some z) with
    | some (_, .u64, a), some (_, .u64, b), some (_, .u64, c) => some ⟨.tup [(false, [.v (.int .u64 (difW a b c))]), (false, [.v (.int .u64 (borW a b c))])], [], 0, [(is01 c, true)], path⟩
    | _, _, _ => none
  | _ => none
def sub64Entry : Array Value → Sem Value := fun args => do
  let (x, y, b) ← Extern.MathBitsCarry.three "Sub64" args
  pure (Extern.MathBitsCarry.pair ((x + Extern.MathBitsCarry.m64 - y - b) % Extern.MathBitsCarry.m64) (if x < y + b then 1 else 0))

theorem callX_of_extern {e : Array Value → Sem Value} {us : Array Value} {w w' : World} {v : Value} {R : Ending → World → Prop} (hfn : P.funcs[f]? = some fn) (hname : (fn.name == "runtime.NumGoroutine") = false) (hb : fn.body.isNone = true) (hn : Extern.findNext fn = none) (he : Extern.find fn = some e)
    (hr : (e us).run P w = .ok v w') (h : R (.returned v) w') : CallX P f us w R := by
  unfold CallX
  rw [run_callFunc_extern hfn hname hb hn he us w, hr]
  exact h

theorem u64_bounds {a : Int} (h : has .u64 a) : 0 ≤ a ∧ a < 18446744073709551616 := by
  have := (has_iff _ _).1 h
  simp only [hasB, Bool.and_eq_true, decide_eq_true_eq] at this
  omega
theorem has_u64 {a : Int} (h1 : 0 ≤ a) (h2 : a < 18446744073709551616) : has .u64 a := by
  rw [has_iff]
  simp only [hasB, Bool.and_eq_true, decide_eq_true_eq]
  omega

theorem addSpec_ok (hfn : P.funcs[f]? = some fn) (hname : (fn.name == "runtime.NumGoroutine") = false) (hb : fn.body.isNone = true) (hn : Extern.findNext fn = none) (he : Extern.find fn = some add64Entry) : SpecOk P f addSpec := by
  intro args H fr path r β us w hs hc ha hg hf
  unfold addSpec at hs
  split at hs
  case h_2 => cases hs
  rename_i x y z
  split at hs
  case h_2 => cases hs
  rename_i c1 a c2 b c3 c hx hy hz
  injection hs with hs; subst hs
  obtain ⟨u1, us1, r1, ha, rfl⟩ := ha
  obtain ⟨u2, us2, r2, ha, rfl⟩ := ha
  obtain ⟨u3, us3, r3, ha, rfl⟩ := ha
  simp only [relAs] at ha
  subst ha
  obtain ⟨rfl, p1⟩ := asI_rel (β := β) (u := u1) (fun A hA => by injection hA with hA; subst hA; exact r1) hx
  obtain ⟨rfl, p2⟩ := asI_rel (β := β) (u := u2) (fun A hA => by injection hA with hA; subst hA; exact r2) hy
  obtain ⟨rfl, p3⟩ := asI_rel (β := β) (u := u3) (fun A hA => by injection hA with hA; subst hA; exact r3) hz
  have hcc := hc.1
  simp only [is01, decide_eq_true_eq] at hcc
  have b1 := u64_bounds p1
  have b2 := u64_bounds p2
  refine callX_of_extern hfn hname hb hn he (run_add64 a b c b1.1 b2.1 hcc.1 hcc.2 w) ⟨_, β, rfl, Eff.pure_ hg ⟨_, ⟨_, _, rel_one' ⟨rfl, rfl, ?_⟩, ⟨_, _, rel_one' ⟨rfl, rfl, ?_⟩, rfl, rfl⟩, rfl⟩, rfl⟩⟩
  · show has .u64 ((a + b + c) % 18446744073709551616); exact has_u64 (by omega) (by omega)
  · show has .u64 ((a + b + c) / 18446744073709551616); exact has_u64 (by omega) (by omega)

theorem run_sub64 (x y c : Int) (hx : 0 ≤ x ∧ x < 18446744073709551616) (hy : 0 ≤ y ∧ y < 18446744073709551616) (hc0 : 0 ≤ c) (hc : c ≤ 1) (w : World) :
    (sub64Entry #[.int .u64 x, .int .u64 y, .int .u64 c]).run P w = .ok (.tuple #[.int .u64 ((x - y - c) % 18446744073709551616), .int .u64 (if x < y + c then 1 else 0)]) w := by
  have key : ∀ k : Nat, k ≤ 1 → (sub64Entry #[.int .u64 x, .int .u64 y, .int .u64 (k : Int)]).run P w =
      .ok (Extern.MathBitsCarry.pair ((x.toNat + Extern.MathBitsCarry.m64 - y.toNat - k) % Extern.MathBitsCarry.m64) (if x.toNat < y.toNat + k then 1 else 0)) w := by
    intro k hk
    have : k = 0 ∨ k = 1 := by omega
    rcases this with rfl | rfl <;> rfl
  obtain ⟨k, rfl⟩ := Int.eq_ofNat_of_zero_le hc0
  rw [key k (by omega)]
  obtain ⟨X, rfl⟩ := Int.eq_ofNat_of_zero_le hx.1
  obtain ⟨Y, rfl⟩ := Int.eq_ofNat_of_zero_le hy.1
  simp only [Extern.MathBitsCarry.pair, Extern.MathBitsCarry.m64, Int.toNat_natCast]
  have e1 : (Int.ofNat ((X + 2 ^ 64 - Y - k) % 2 ^ 64)) = ((X : Int) - Y - k) % 18446744073709551616 := by
    have : (X + 2 ^ 64 - Y - k : Nat) = (X + 18446744073709551616 - Y - k : Nat) := rfl
    show (((X + 18446744073709551616 - Y - k) % 18446744073709551616 : Nat) : Int) = _
    omega
  have e2 : (Int.ofNat (if X < Y + k then 1 else 0)) = if (X : Int) < Y + k then 1 else 0 := by
    by_cases h : X < Y + k
    · rw [if_pos h, if_pos (by omega)]; rfl
    · rw [if_neg h, if_neg (by omega)]; rfl
  rw [e1, e2]

theorem subSpec_ok (hfn : P.funcs[f]? = some fn) (hname : (fn.name == "runtime.NumGoroutine") = false) (hb : fn.body.isNone = true) (hn : Extern.findNext fn = none) (he : Extern.find fn = some sub64Entry) : SpecOk P f subSpec := by
  intro args H fr path r β us w hs hc ha hg hf
  unfold subSpec at hs
  split at hs
  case h_2 => cases hs
  rename_i x y z
  split at hs
  case h_2 => cases hs
  rename_i c1 a c2 b c3 c hx hy hz
  injection hs with hs; subst hs
  obtain ⟨u1, us1, r1, ha, rfl⟩ := ha
  obtain ⟨u2, us2, r2, ha, rfl⟩ := ha
  obtain ⟨u3, us3, r3, ha, rfl⟩ := ha
  simp only [relAs] at ha
  subst ha
  obtain ⟨rfl, p1⟩ := asI_rel (β := β) (u := u1) (fun A hA => by injection hA with hA; subst hA; exact r1) hx
  obtain ⟨rfl, p2⟩ := asI_rel (β := β) (u := u2) (fun A hA => by injection hA with hA; subst hA; exact r2) hy
  obtain ⟨rfl, p3⟩ := asI_rel (β := β) (u := u3) (fun A hA => by injection hA with hA; subst hA; exact r3) hz
  have hcc := hc.1
  simp only [is01, decide_eq_true_eq] at hcc
  have b1 := u64_bounds p1
  have b2 := u64_bounds p2
  refine callX_of_extern hfn hname hb hn he (run_sub64 a b c b1 b2 hcc.1 hcc.2 w) ⟨_, β, rfl, Eff.pure_ hg ⟨_, ⟨_, _, rel_one' ⟨rfl, rfl, ?_⟩, ⟨_, _, rel_one' ⟨rfl, rfl, ?_⟩, rfl, rfl⟩, rfl⟩, rfl⟩⟩
  · show has .u64 ((a - b - c) % 18446744073709551616); exact has_u64 (by omega) (by omega)
  · show has .u64 (if a < b + c then 1 else 0)
    split <;> exact has_u64 (by omega) (by omega)

/- a table of contracts -/
def lookS : List (FuncId × ASpec) → FuncId → Option ASpec
  | [], _ => none
  | (k, s) :: r, f => match Nat.beq k f with | true => some s | false => lookS r f
def lookK : List (TypeId × List (Option IntKind)) → TypeId → Option (List (Option IntKind))
  | [], _ => none
  | (k, s) :: r, f => match Nat.beq k f with | true => some s | false => lookK r f
def orc (L : List (FuncId × ASpec)) (K : List (TypeId × List (Option IntKind))) : Orc := ⟨lookS L, lookK K⟩
def SpecsOk (P : Program) : List (FuncId × ASpec) → Prop
  | [] => True
  | (f, s) :: r => SpecOk P f s ∧ SpecsOk P r
def KindsOk (P : Program) : List (TypeId × List (Option IntKind)) → Prop
  | [] => True
  | (t, ks) :: r => (leafs P 20 t = some ks ∧ P.eqGuardType P.depth t = false ∧ (match P.underlying t with | some d => wide d | none => false) = true) ∧ KindsOk P r
theorem lookS_ok {L : List (FuncId × ASpec)} (h : SpecsOk P L) {f : FuncId} {s : ASpec} (hl : lookS L f = some s) : SpecOk P f s := by
  induction L with
  | nil => cases hl
  | cons e L ih =>
    obtain ⟨k, q⟩ := e
    simp only [lookS] at hl
    split at hl
    · rename_i hb
      injection hl with hl; subst hl
      rw [← nbeq.1 hb]; exact h.1
    · exact ih h.2 hl
theorem lookK_ok {L : List (TypeId × List (Option IntKind))} (h : KindsOk P L) {f : TypeId} {s : List (Option IntKind)} (hl : lookK L f = some s) :
    leafs P 20 f = some s ∧ P.eqGuardType P.depth f = false ∧ (match P.underlying f with | some d => wide d | none => false) = true := by
  induction L with
  | nil => cases hl
  | cons e L ih =>
    obtain ⟨k, q⟩ := e
    simp only [lookK] at hl
    split at hl
    · rename_i hb
      injection hl with hl; subst hl
      rw [← nbeq.1 hb]; exact h.1
    · exact ih h.2 hl
theorem orc_ok {L : List (FuncId × ASpec)} {K : List (TypeId × List (Option IntKind))} (h : SpecsOk P L) (k : KindsOk P K) : OrcOk P (orc L K) :=
  ⟨fun _ _ hl => lookS_ok h hl, fun _ _ hl => lookK_ok k hl⟩
end
end Go.Proofs.Ytoemaicabljpfaa.Ex
