/- sigillaw20: CodecEncodes1, CodecEncodes2: the walks. -/
import Derived.Test.YtbijmogakghliaaGreatPF
import Derived.Test.YtbijmogakghliaaGreatLy
namespace Go.Proofs.YtbijmogakghliaaGreat
open Ex Num Rg
open Sh (R av rd mo en mo_en)
set_option maxRecDepth 100000
set_option maxHeartbeats 4000000

noncomputable def SO23 : List (FuncId × ASpec) := (7, pureSpec yes12) :: (10, nilSpec smSp) :: SQe
theorem SO23ok : SpecsOk Tryz.prog SO23 := ⟨pureSpec_ok Tryz.func7 (by kernel_rfl) (by kernel_rfl) (sp0_ok aw20_ok fun u h => h), nilSpec_ok smSp_ok, SQeok⟩
noncomputable abbrev oO23 : Orc := orc SO23 KQ
theorem oO23ok : OrcOk Tryz.prog oO23 := orc_ok SO23ok KQok
theorem ecL_len (s i b : Bool) (B : List Int) : (ecL s i b B).length = B.length := by
  cases B with
  | nil => cases s <;> cases i <;> cases b <;> rfl
  | cons f t => rw [ecL_cons]; rfl
theorem laL_len (s i b : Bool) (B : List Int) : (laL s i b B).length = B.length := by
  cases B with
  | nil => cases s <;> cases i <;> cases b <;> rfl
  | cons f t => rw [laL_cons]; rfl
/- what both encode -/
theorem c1L_cat (s : Bool) (p : Pt FP) : c1L s p = cat ((l1 p).take (kS s)) := by
  cases s with
  | false => exact b1_cat p
  | true =>
    show octL (ptX p % pN) 48 = octL (ptX p) 48 ++ []
    rw [Nat.mod_eq_of_lt (ptX_lt p), List.append_nil]
theorem c2L_cat (s : Bool) (p : P2) : c2L s p = cat ((l2 p).take (kT s)) := by
  cases s with
  | false => exact b2_cat p
  | true =>
    show o48 (rX p).2 ++ o48 (rX p).1 = octL (rX p).2 48 ++ (octL (rX p).1 48 ++ [])
    rw [o48_eq (rX_lt p).1, o48_eq (rX_lt p).2, List.append_nil]
theorem e1L_n (s : Bool) (p : Pt FP) : (e1L s p).length = 96 := by rw [e1L_ec, ecL_len, b1_cat, cat_length]; rfl
theorem e2L_n (s : Bool) (p : P2) : (e2L s p).length = 192 := by rw [e2L_ec, ecL_len, b2_cat, cat_length]; rfl
theorem r1L_n (s : Bool) (p : Pt FP) : (r1L s p).length = 48 * kS s := by
  unfold r1L
  rw [laL_len, c1L_cat, cat_length]
  cases s <;> rfl
theorem r2L_n (s : Bool) (p : P2) : (r2L s p).length = 48 * kT s := by
  unfold r2L
  rw [laL_len, c2L_cat, cat_length]
  cases s <;> rfl
theorem same1 (s : Bool) (p : Pt FP) : smB (win (e1L s p) 0 (48 * kS s)) (win (r1L s p) 0 (48 * kS s)) = true := by
  refine decide_eq_true ?_
  have hl : laL s (ptI p) (biggerN (ptY p)) (cat ((l1 p).take (kS s))) = ecL s (ptI p) (biggerN (ptY p)) (cat ((l1 p).take (kS s))) := by
    cases s
    · exact laL_ec _ _ _ (ptX_lt p) [ptY p]
    · exact laL_ec _ _ _ (ptX_lt p) []
  show List.take (48 * kS s) (e1L s p) = List.take (48 * kS s) (r1L s p)
  unfold r1L
  rw [e1L_ec, b1_cat, c1L_cat, hl, ecL_take _ _ _ (by have := kS_pos s; omega), ecL_take _ _ _ (by have := kS_pos s; omega), cat_take, cat_take, List.take_take, Nat.min_self]
theorem same2 (s : Bool) (p : P2) : smB (win (e2L s p) 0 (48 * kT s)) (win (r2L s p) 0 (48 * kT s)) = true := by
  refine decide_eq_true ?_
  have hl : laL s (pI1 p) (bg2 (pY1 p)) (cat ((l2 p).take (kT s))) = ecL s (pI1 p) (bg2 (pY1 p)) (cat ((l2 p).take (kT s))) := by
    cases s
    · exact laL_ec _ _ _ (pX1 p).b.isLt [(pX1 p).a.val, (pY1 p).b.val, (pY1 p).a.val]
    · exact laL_ec _ _ _ (pX1 p).b.isLt [(pX1 p).a.val]
  show List.take (48 * kT s) (e2L s p) = List.take (48 * kT s) (r2L s p)
  unfold r2L
  rw [e2L_ec, b2_cat, c2L_cat, hl, ecL_take _ _ _ (by have := kT_pos s; omega), ecL_take _ _ _ (by have := kT_pos s; omega), cat_take, cat_take, List.take_take, Nat.min_self]
/- points of the twisted curve that come in -/
def g2Kk : List (Option IntKind) := List.replicate 6 (some .u64) ++ (List.replicate 6 (some .u64) ++ (List.replicate 6 (some .u64) ++ (List.replicate 6 (some .u64) ++ [none])))
theorem shp_g2k : shp Tryz.prog 20 40 = some g2Kk := by kernel_rfl
theorem agg_g2k : isAggT Tryz.prog 40 = true := by kernel_rfl
theorem fits_num1 {ks : List (Option IntKind)} {l : List Value} (h : fitsH (List.replicate 6 (some .u64) ++ ks) l) : ∃ x t, fitsH ks t ∧ ∀ {β : Env} {cs : List Ch}, relL β cs t → relL β (.num 6 x :: cs) l := by
  obtain ⟨h1, h2⟩ := fitsH_app h
  obtain ⟨x, hx, ex⟩ := fitsH_words h1
  refine ⟨x, _, h2, fun {β cs} hr => ⟨words 6 x, _, ⟨hx, rfl⟩, hr, ?_⟩⟩
  have ex' : List.take 6 l = words 6 x := ex
  rw [← ex']
  exact (List.take_append_drop 6 l).symm
theorem fits_bool1 {l : List Value} (h : fitsH [none] l) : ∃ i, ∀ β : Env, relL β [.v (.bool i)] l := by
  cases l with
  | nil => cases h
  | cons w r =>
    cases w <;> simp only [fitsH] at h
    cases r with
    | nil => exact ⟨_, fun β => ⟨[_], [], ⟨rfl, rfl, trivial⟩, rfl, rfl⟩⟩
    | cons => cases h
theorem g2_arg1 {H : Type} {enc : TypeId × Value → H} {W : World} {base : Nat} {v : Value} {d : DataW H} {p : List MemPlace} (hv : Value.okWide Tryz.prog W .any base 40 v) (ht : DataW.Trod enc Tryz.prog W 0 (fun _ => true) true 40 v d p) : ∃ r : R P2, ∀ β : Env, relA β (va P2 r) v := by
  have h := plain_of shp_g2k agg_g2k hv ht
  obtain ⟨l, rfl, hl⟩ := h
  obtain ⟨a, l1, hl, ha⟩ := fits_num1 hl
  obtain ⟨b, l2, hl, hb⟩ := fits_num1 hl
  obtain ⟨c, l3, hl, hc⟩ := fits_num1 hl
  obtain ⟨d, l4, hl, hd⟩ := fits_num1 hl
  obtain ⟨i, hi⟩ := fits_bool1 hl
  exact ⟨((a, b), (c, d), i), fun β => ⟨l, ha (hb (hc (hd (hi β)))), rfl⟩⟩
/- CodecEncodes1 -/
noncomputable def xeC (a : Bool) (n : Nat) (l m : List Int) : List (Bool × Bool) := (a, true) :: (a, true) :: (Nat.ble n l.length, true) :: (Nat.ble n m.length, true) :: tt 2 [(smB (win l 0 n) (win m 0 n), true)]
section
variable (x y : Nat) (i : Bool)
theorem xe1_e (s : Bool) : pureRun Tryz.prog oO23 Tryz.f3 [g1A x y i, .val false [.b s]] [true, true, true, true, true] 500 = some ((in1 (toPt x y i), false) :: (in1 (toPt x y i), false) :: tt 5 [], .val false [.b true]) := by cases s <;> kernel_rfl
theorem xe1_t : pureRun Tryz.prog oO23 Tryz.f3 [g1A x y i, .val false [.b true]] [false, false, true, true, true] 500 = some (xeC (in1 (toPt x y i)) 48 (e1L true (toPt x y i)) (r1L true (toPt x y i)), .val false [.b true]) := by kernel_rfl
theorem xe1_f : pureRun Tryz.prog oO23 Tryz.f3 [g1A x y i, .val false [.b false]] [false, false, true, true, true] 500 = some (xeC (in1 (toPt x y i)) 96 (e1L false (toPt x y i)) (r1L false (toPt x y i)), .val false [.b true]) := by kernel_rfl
theorem xe1_ok (s : Bool) : PureOk Tryz.prog 3 [g1A x y i, .val false [.b s]] (.val false [.b true]) := by
  have h1 := xe1_e x y i s
  have h2 := xe1_t x y i
  have h3 := xe1_f x y i
  generalize toPt x y i = p at *
  cases hin : in1 p with
  | false => exact pure_ok oO23ok mixed Tryz.func3 h1 ⟨hin, hin, tt_ok 5 trivial⟩ rfl
  | true =>
    have hc : okConds (xeC (in1 p) (48 * kS s) (e1L s p) (r1L s p)) := ⟨hin, hin, by rw [e1L_n]; cases s <;> rfl, by rw [r1L_n]; cases s <;> rfl, tt_ok 2 ⟨same1 s p, trivial⟩⟩
    cases s with
    | true => exact pure_ok oO23ok mixed Tryz.func3 h2 hc rfl
    | false => exact pure_ok oO23ok mixed Tryz.func3 h3 hc rfl
theorem codecEncodes1_walk : LawWalk Tryz.prog 3 Tryz.f3 := walk_of fun H enc us W base ds ps hv hA => by
  have hp : Tryz.f3.params.toList = [26, 4] := by kernel_rfl
  have hp' : Tryz.f3.params = #[26, 4] := by kernel_rfl
  rw [hp] at hA
  rw [hp'] at hv
  obtain ⟨v1, us1, d1, ds1, p1, q1, rfl, rfl, t1, hA⟩ := args_cons hA
  obtain ⟨v2, us2, d2, ds2, p2, q2, rfl, rfl, t2, hA⟩ := args_cons hA
  obtain rfl := args0 hA rfl
  obtain ⟨x, y, i, r1⟩ := g1_arg (hv 0 _ v1 rfl rfl) t1
  obtain ⟨s, r2⟩ := bool_arg (hv 1 _ v2 rfl rfl) t2
  exact ⟨[g1A x y i, .val false [.b s]], ⟨v1, _, r1 _, ⟨v2, _, r2 _, rfl, rfl⟩, rfl⟩, xe1_ok x y i s⟩
end
section
variable (r : R P2)
theorem xe2_e (s : Bool) : pureRun Tryz.prog oO23 Tryz.f5 [va P2 r, .val false [.b s]] [true, true, true, true, true] 500 = some ((in2 (mo r), false) :: (in2 (mo r), false) :: tt 5 [], .val false [.b true]) := by cases s <;> kernel_rfl
theorem xe2_t : pureRun Tryz.prog oO23 Tryz.f5 [va P2 r, .val false [.b true]] [false, false, true, true, true] 500 = some (xeC (in2 (mo r)) 96 (e2L true (mo r)) (r2L true (mo r)), .val false [.b true]) := by kernel_rfl
theorem xe2_f : pureRun Tryz.prog oO23 Tryz.f5 [va P2 r, .val false [.b false]] [false, false, true, true, true] 500 = some (xeC (in2 (mo r)) 192 (e2L false (mo r)) (r2L false (mo r)), .val false [.b true]) := by kernel_rfl
theorem xe2_ok (s : Bool) : PureOk Tryz.prog 5 [va P2 r, .val false [.b s]] (.val false [.b true]) := by
  have h1 := xe2_e r s
  have h2 := xe2_t r
  have h3 := xe2_f r
  generalize (mo r : P2) = p at *
  cases hin : in2 p with
  | false => exact pure_ok oO23ok mixed Tryz.func5 h1 ⟨hin, hin, tt_ok 5 trivial⟩ rfl
  | true =>
    have hc : okConds (xeC (in2 p) (48 * kT s) (e2L s p) (r2L s p)) := ⟨hin, hin, by rw [e2L_n]; cases s <;> rfl, by rw [r2L_n]; cases s <;> rfl, tt_ok 2 ⟨same2 s p, trivial⟩⟩
    cases s with
    | true => exact pure_ok oO23ok mixed Tryz.func5 h2 hc rfl
    | false => exact pure_ok oO23ok mixed Tryz.func5 h3 hc rfl
theorem codecEncodes2_walk : LawWalk Tryz.prog 5 Tryz.f5 := walk_of fun H enc us W base ds ps hv hA => by
  have hp : Tryz.f5.params.toList = [40, 4] := by kernel_rfl
  have hp' : Tryz.f5.params = #[40, 4] := by kernel_rfl
  rw [hp] at hA
  rw [hp'] at hv
  obtain ⟨v1, us1, d1, ds1, p1, q1, rfl, rfl, t1, hA⟩ := args_cons hA
  obtain ⟨v2, us2, d2, ds2, p2, q2, rfl, rfl, t2, hA⟩ := args_cons hA
  obtain rfl := args0 hA rfl
  obtain ⟨r, r1⟩ := g2_arg1 (hv 0 _ v1 rfl rfl) t1
  obtain ⟨s, r2⟩ := bool_arg (hv 1 _ v2 rfl rfl) t2
  exact ⟨[va P2 r, .val false [.b s]], ⟨v1, _, r1 _, ⟨v2, _, r2 _, rfl, rfl⟩, rfl⟩, xe2_ok r s⟩
end
end Go.Proofs.YtbijmogakghliaaGreat
