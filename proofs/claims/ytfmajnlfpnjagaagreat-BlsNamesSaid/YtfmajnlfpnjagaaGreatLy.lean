/- sigillaw12: G1Names, G1Adds, G1Undoes: the walks. -/
import Derived.Test.YtfmajnlfpnjagaaGreatPE
import Derived.Test.YtfmajnlfpnjagaaGreatPC
namespace Go.Proofs.YtfmajnlfpnjagaaGreat
open Ex Num Rg
set_option maxRecDepth 100000
set_option maxHeartbeats 4000000

theorem fitsH_app : ∀ {ks js : List (Option IntKind)} {l : List Value}, fitsH (ks ++ js) l → fitsH ks (l.take ks.length) ∧ fitsH js (l.drop ks.length)
  | [], js, l, h => ⟨trivial, by simpa using h⟩
  | none :: ks, js, [], h => by cases h
  | some _ :: ks, js, [], h => by cases h
  | none :: ks, js, v :: r, h => by
    cases v <;> simp only [List.cons_append, fitsH] at h
    exact fitsH_app (ks := ks) (js := js) h
  | some k :: ks, js, v :: r, h => by
    cases v <;> simp only [List.cons_append, fitsH] at h
    obtain ⟨h1, h2, h3⟩ := h
    have := fitsH_app (ks := ks) (js := js) h3
    exact ⟨⟨h1, h2, this.1⟩, this.2⟩
def g1K : List (Option IntKind) := List.replicate 6 (some .u64) ++ (List.replicate 6 (some .u64) ++ [none])
theorem shp_g1 : shp Tryz.prog 20 59 = some g1K := by kernel_rfl
theorem agg_g1 : isAggT Tryz.prog 59 = true := by kernel_rfl
section
variable {H : Type} {enc : TypeId × Value → H} {W : World} {base : Nat} {v : Value} {d : DataW H} {p : List MemPlace}
theorem g1_arg (hv : Value.okWide Tryz.prog W .any base 59 v) (ht : DataW.Trod enc Tryz.prog W 0 (fun _ => true) true 59 v d p) : ∃ x y i, ∀ β : Env, relA β (g1A x y i) v := by
  have h := plain_of shp_g1 agg_g1 hv ht
  obtain ⟨l, rfl, hl⟩ := h
  obtain ⟨h1, h2⟩ := fitsH_app hl
  obtain ⟨h2, h3⟩ := fitsH_app h2
  obtain ⟨x, hx, ex⟩ := fitsH_words h1
  obtain ⟨y, hy, ey⟩ := fitsH_words h2
  have h4 : ∃ i, List.drop 6 (List.drop 6 l) = [Value.bool i] := by
    have h3' : fitsH [none] (List.drop 6 (List.drop 6 l)) := h3
    cases hq : List.drop 6 (List.drop 6 l) with
    | nil => rw [hq] at h3'; cases h3'
    | cons w r =>
      rw [hq] at h3'
      cases w <;> simp only [fitsH] at h3'
      cases r with
      | nil => exact ⟨_, rfl⟩
      | cons => cases h3'
  obtain ⟨i, hi⟩ := h4
  have ex' : List.take 6 l = words 6 x := ex
  have ey' : List.take 6 (List.drop 6 l) = words 6 y := ey
  refine ⟨x, y, i, fun β => ⟨l, ⟨words 6 x, words 6 y ++ [.bool i], ⟨hx, rfl⟩, ⟨words 6 y, [.bool i], ⟨hy, rfl⟩, ⟨[.bool i], [], ⟨rfl, rfl, trivial⟩, rfl, rfl⟩, rfl⟩, ?_⟩, rfl⟩⟩
  rw [← ex', ← ey', ← hi, List.take_append_drop, List.take_append_drop]
end
/-- Laws of two points. -/
theorem g1s_walk {f : FuncId} {fn : Func} (hp : fn.params.toList = [59, 59]) (h : ∀ x y i x' y' i', PureOk Tryz.prog f [g1A x y i, g1A x' y' i'] (.val false [.b true])) : LawWalk Tryz.prog f fn := by
  refine walk_of fun H enc us W base ds ps hv hA => ?_
  have hv' : ∀ (j : Nat) t v, [59, 59][j]? = some t → us[j]? = some v → Value.okWide Tryz.prog W .any base t v := fun j t v h1 h2 => hv j t v (by rw [← Array.getElem?_toList, hp]; exact h1) h2
  rw [hp] at hA
  obtain ⟨v1, us1, d1, ds1, p1, q1, rfl, rfl, t1, hA⟩ := args_cons hA
  obtain ⟨v2, us2, d2, ds2, p2, q2, rfl, rfl, t2, hA⟩ := args_cons hA
  obtain rfl := args0 hA rfl
  obtain ⟨x, y, i, r1⟩ := g1_arg (hv' 0 _ v1 rfl rfl) t1
  obtain ⟨x', y', i', r2⟩ := g1_arg (hv' 1 _ v2 rfl rfl) t2
  exact ⟨[g1A x y i, g1A x' y' i'], ⟨v1, _, r1 _, ⟨v2, _, r2 _, rfl, rfl⟩, rfl⟩, h x y i x' y' i'⟩

noncomputable def guC (P : Pt FP) (r : List (Bool × Bool)) : List (Bool × Bool) := (eqP (add P (toPt' (neg P))) .inf, true) :: (eqP (add P (toPt' .inf)) P, true) :: (eqP (add (toPt' .inf) P) P, true) :: r
noncomputable def guU (P : Pt FP) : Bool := eqP (neg (toPt' (neg P))) P
section
variable (x y : Nat) (i : Bool) (x' y' : Nat) (i' : Bool)
end
/- G1Closed -/
def uA (e : Nat) : AV := .val false [.v (.int .u64 (e : Int))]
section
variable (x y : Nat) (i : Bool) (x' y' : Nat) (i' : Bool) (e : Nat)
end
end Go.Proofs.YtfmajnlfpnjagaaGreat
