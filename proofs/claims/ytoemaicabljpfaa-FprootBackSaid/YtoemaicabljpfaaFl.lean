/- limb.Add: the walk of its loop. -/
import Derived.Test.YtoemaicabljpfaaFk
namespace Go.Proofs.Ytoemaicabljpfaa
open Ex
set_option maxRecDepth 100000

def cryA (x y c : Int) : AV := .tup [(false, [.v (.int .u64 (sumW x y c))]), (false, [.v (.int .u64 (carW x y c))])]
def cry3 (x y c : Int) : List AV := [.val false [.v (.int .u64 x)], .val false [.v (.int .u64 y)], .val false [.v (.int .u64 c)]]
theorem add1_run (x y c : Int) : pureRun Try.prog (orc S11 K0) Try.f85 (cry3 x y c) [] 300 = some ([(is01 c, true)], cryA x y c) := by kernel_rfl
theorem add1_ok {x y c : Int} (h : is01 c = true) : PureOk Try.prog 85 (cry3 x y c) (cryA x y c) := pure_ok (orc_ok S11ok K0ok) mixed Try.func85 (add1_run x y c) ⟨h, trivial⟩ rfl
def slB (same : Bool) (off n m off' n' m' : Nat) : List AV := match same with
  | false => sl2 off n m off' n' m'
  | true => [.val false [.sl 0 off n m], .val false [.sl 0 off' n' m']]
/- contracts under conditions -/
def condSpec (sp : List AV → Option (List (Bool × Bool) × AV)) : ASpec := fun args _ _ path =>
  match noKeysL args, sp args with
  | true, some (c, v) => match noKeys v with
    | true => some { pureR v path with conds := c }
    | false => none
  | _, _ => none
theorem condSpec_ok {P : Program} {f : FuncId} {fn : Func} {sp : List AV → Option (List (Bool × Bool) × AV)} (hfn : P.funcs[f]? = some fn) (hb : fn.body.isSome = true) (hname : (fn.name == "runtime.NumGoroutine") = false) (h : ∀ args c v, sp args = some (c, v) → okConds c → PureOk P f args v) : SpecOk P f (condSpec sp) := by
  intro args H fr path r β us w hs hc ha hg hf
  unfold condSpec at hs
  split at hs
  · rename_i c v hk hv
    split at hs
    · rename_i hkv
      injection hs with hs; subst hs
      refine callX_of_calls hfn hb hname (Calls.mono (h args c v hv hc us w (relAs_any hk ha)) ?_)
      rintro e w' ⟨u, rfl, hu, hbl⟩
      refine ⟨u, β, rfl, ?_⟩
      exact ⟨Env.le_refl _, fun _ _ h => .inl h, fun b B n hb => Nat.lt_of_lt_of_le (hg.lt b B n hb) hbl.size, fun b b' _ _ _ h1 _ h3 => by simp [pureR] at h3; omega, relA_any hkv hu, fun _ _ h => (by cases h), fun B hB _ => hbl.block B hB, hbl.size, hbl.os, hbl.tape, hbl.output⟩
    · cases hs
  · cases hs
def add1Sp : List AV → Option (List (Bool × Bool) × AV)
  | [A, B, C] => match asI (some A), asI (some B), asI (some C) with
    | some (_, .u64, x), some (_, .u64, y), some (_, .u64, c) => some ([(is01 c, true)], cryA x y c)
    | _, _, _ => none
  | _ => none
theorem add1Sp_ok : ∀ args c v, add1Sp args = some (c, v) → okConds c → PureOk Try.prog 85 args v := by
  intro args cs v h hc us w ha
  unfold add1Sp at h
  split at h
  case h_2 => cases h
  rename_i A B C
  split at h
  case h_2 => cases h
  rename_i c1 x c2 y c3 z hx hy hz
  injection h with h; injection h with h1 h2; subst h1; subst h2
  obtain ⟨u1, us1, r1, ⟨u2, us2, r2, ⟨u3, us3, r3, ha, rfl⟩, rfl⟩, rfl⟩ := ha
  exact add1_ok hc.1 _ w ⟨u1, _, (normI hx r1).1, ⟨u2, _, (normI hy r2).1, ⟨u3, us3, (normI hz r3).1, ha, rfl⟩, rfl⟩, rfl⟩
noncomputable def S16 : List (FuncId × ASpec) := (85, condSpec add1Sp) :: S15
theorem S16ok : SpecsOk Try.prog S16 := ⟨condSpec_ok Try.func85 (by kernel_rfl) (by kernel_rfl) add1Sp_ok, S15ok⟩
end Go.Proofs.Ytoemaicabljpfaa
