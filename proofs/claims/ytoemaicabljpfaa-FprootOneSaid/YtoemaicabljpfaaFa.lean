/- Contracts of the smallest functions: math/bits' carries and products, the modulus. -/
import Derived.Test.YtoemaicabljpfaaExO
import Derived.Test.YtoemaicabljpfaaProg
namespace Go.Proofs.Ytoemaicabljpfaa
open Ex
theorem mixed : Try.prog.follows .mixedOrders = true := by kernel_rfl
def S0 : List (FuncId × ASpec) := [(83, subSpec), (86, addSpec)]
def K0 : List (TypeId × List (Option IntKind)) := [(24, List.replicate 6 (some .u64)), (49, List.replicate 12 (some .u64) ++ [none])]
set_option maxRecDepth 100000
theorem K0ok : KindsOk Try.prog K0 := ⟨⟨by kernel_rfl, by kernel_rfl, by kernel_rfl⟩, ⟨by kernel_rfl, by kernel_rfl, by kernel_rfl⟩, trivial⟩
theorem S0ok : SpecsOk Try.prog S0 := ⟨subSpec_ok Try.func83 (by kernel_rfl) (by kernel_rfl) (by kernel_rfl) (by kernel_rfl), addSpec_ok Try.func86 (by kernel_rfl) (by kernel_rfl) (by kernel_rfl) (by kernel_rfl), trivial⟩

theorem normI {β : Env} {A : AV} {u : Value} {c : Bool} {k : IntKind} {i : Int} (h : asI (some A) = some (c, k, i)) (hr : relA β A u) : relA β (.val false [.v (.int k i)]) u ∧ has k i := by
  obtain ⟨rfl, h2⟩ := asI_rel (β := β) (u := u) (fun B hB => by injection hB with hB; subst hB; exact hr) h
  exact ⟨rel_one' ⟨rfl, rfl, h2⟩, h2⟩
theorem relL_num {β : Env} {k x : Nat} (h : x < 2 ^ (64 * k)) : relL β [.num k x] (words k x) := ⟨_, [], ⟨h, rfl⟩, rfl, by simp⟩
theorem normN {β : Env} {k x : Nat} {a : List Ch} {u : Value} (h : asNum k a = some x) (hr : relA β (.val true a) u) :
    relA β (.val true [.num k x]) u ∧ relA β (.val true (wordsCh k x)) u ∧ x < 2 ^ (64 * k) := by
  obtain ⟨l, h1, rfl⟩ := hr
  obtain ⟨h2, h3⟩ := asNum_rel h h1
  subst h2
  exact ⟨⟨_, relL_num h3, rfl⟩, ⟨_, relL_words k x, rfl⟩, h3⟩
theorem toNum {β : Env} {k x : Nat} {u : Value} (hx : x < 2 ^ (64 * k)) (hr : relA β (.val true (wordsCh k x)) u) : relA β (.val true [.num k x]) u := by
  obtain ⟨l, h1, rfl⟩ := hr
  have : l = words k x := by
    have gen : ∀ (is : List Nat) (l : List Value), relL β (is.map fun i => Ch.v (.int .u64 (wordN x i))) l → l = is.map fun i => Value.int .u64 (wordN x i) := by
      intro is
      induction is with
      | nil => intro l h; exact h
      | cons i is ih =>
        intro l ⟨l1, l2, q1, q2, q3⟩
        rw [q3, q1.1, ih l2 q2]; rfl
    exact gen _ _ h1
  subst this
  exact ⟨_, relL_num hx, rfl⟩
theorem asInum {k : Nat} {x : Nat} : asNum k [.num k x] = some x := by simp [asNum]

/- 64 x 64 bits -/
def mulHi (x y : Int) : Int := x * y / 18446744073709551616
def mulLo (x y : Int) : Int := x * y % 18446744073709551616
def mLo (x : Int) : Int := bits .and .u64 x 4294967295
def mHi (x : Int) : Int := Int.fdiv x (2 ^ 32)
def mW (x : Int) : Int := IntKind.u64.wrap x
def mw0 (x y : Int) : Int := mW (mLo x * mLo y)
def mt (x y : Int) : Int := mW (mW (mHi x * mLo y) + mHi (mw0 x y))
def mw1 (x y : Int) : Int := mW (mLo (mt x y) + mW (mLo x * mHi y))
theorem mul64_run (x y : Int) : pureRun Try.prog (orc S0 K0) Try.f96 [.val false [.v (.int .u64 x)], .val false [.v (.int .u64 y)]] [] 300 =
  some ([(decide (0 ≤ (32 : Int) ∧ 0 ≤ x), true), (decide (0 ≤ (32 : Int) ∧ 0 ≤ y), true), (decide (0 ≤ (32 : Int) ∧ 0 ≤ mw0 x y), true), (decide (0 ≤ (32 : Int) ∧ 0 ≤ mt x y), true), (decide (0 ≤ (32 : Int) ∧ 0 ≤ mw1 x y), true)],
    .tup [(false, [.v (.int .u64 (mW (mW (mW (mHi x * mHi y) + mHi (mt x y)) + mHi (mw1 x y))))]), (false, [.v (.int .u64 (mW (x * y)))])]) := by kernel_rfl

theorem mLo_eq {x : Int} (h0 : 0 ≤ x) (h1 : x < 18446744073709551616) : mLo x = x % 4294967296 := by
  obtain ⟨X, rfl⟩ := Int.eq_ofNat_of_zero_le h0
  have h := (bits_nat .u64 64 (by decide) (fun n h0 h1 => by rw [IntKind.wrap_u64]; omega) X 4294967295 (by omega) (by decide)).1
  show bits .and .u64 (X : Int) ((4294967295 : Nat) : Int) = _
  rw [h]
  have e4 : (4294967295 : Nat) = 2 ^ 32 - 1 := by decide
  rw [e4, Nat.and_two_pow_sub_one_eq_mod]
  omega
theorem mHi_eq (x : Int) : mHi x = x / 4294967296 := by
  unfold mHi
  rw [Int.fdiv_eq_ediv_of_nonneg _ (by decide)]
  rfl
theorem mW_eq (x : Int) : mW x = x % 18446744073709551616 := IntKind.wrap_u64 x

theorem mul64_math {x y : Int} (hx : 0 ≤ x ∧ x < 18446744073709551616) (hy : 0 ≤ y ∧ y < 18446744073709551616) :
    mW (mW (mW (mHi x * mHi y) + mHi (mt x y)) + mHi (mw1 x y)) = mulHi x y ∧ mW (x * y) = mulLo x y ∧ 0 ≤ mw0 x y ∧ 0 ≤ mt x y ∧ 0 ≤ mw1 x y := by
  have n0 : ∀ z, 0 ≤ mW z := fun z => by rw [mW_eq]; omega
  refine ⟨?_, mW_eq _, n0 _, n0 _, n0 _⟩
  have hw : ∀ z, 0 ≤ mW z ∧ mW z < 18446744073709551616 := fun z => by rw [mW_eq]; omega
  have lt := mLo_eq (show 0 ≤ mt x y from (hw _).1) (show mt x y < _ from (hw _).2)
  unfold mulHi mw1
  rw [lt, mLo_eq hx.1 hx.2]
  clear lt
  unfold mt mw0
  rw [mLo_eq hx.1 hx.2, mLo_eq hy.1 hy.2]
  simp only [mHi_eq, mW_eq]
  obtain ⟨a, ha⟩ : ∃ a, a = x / 4294967296 := ⟨_, rfl⟩
  obtain ⟨b, hb⟩ : ∃ b, b = x % 4294967296 := ⟨_, rfl⟩
  obtain ⟨c, hc⟩ : ∃ c, c = y / 4294967296 := ⟨_, rfl⟩
  obtain ⟨d, hd⟩ : ∃ d, d = y % 4294967296 := ⟨_, rfl⟩
  have a1 : 0 ≤ a ∧ a ≤ 4294967295 := by omega
  have b1 : 0 ≤ b ∧ b ≤ 4294967295 := by omega
  have c1 : 0 ≤ c ∧ c ≤ 4294967295 := by omega
  have d1 : 0 ≤ d ∧ d ≤ 4294967295 := by omega
  rw [← ha, ← hb, ← hc, ← hd]
  have exy : x * y = (a * c) * 18446744073709551616 + (a * d + b * c) * 4294967296 + b * d := by
    have e1 : x = a * 4294967296 + b := by omega
    have e2 : y = c * 4294967296 + d := by omega
    rw [e1, e2]
    simp only [Int.add_mul, Int.mul_add]
    have q1 : a * 4294967296 * (c * 4294967296) = a * c * 18446744073709551616 := by
      rw [Int.mul_assoc, Int.mul_left_comm 4294967296 c, ← Int.mul_assoc]; omega
    have q2 : a * 4294967296 * d = a * d * 4294967296 := Int.mul_right_comm _ _ _
    have q3 : b * (c * 4294967296) = b * c * 4294967296 := (Int.mul_assoc _ _ _).symm
    omega
  rw [exy]
  have pb : ∀ {u v : Int}, 0 ≤ u ∧ u ≤ 4294967295 → 0 ≤ v ∧ v ≤ 4294967295 → 0 ≤ u * v ∧ u * v ≤ 18446744065119617025 := by
    intro u v hu hv
    refine ⟨Int.mul_nonneg hu.1 hv.1, ?_⟩
    have := Int.mul_le_mul hu.2 hv.2 hv.1 (by omega)
    omega
  have p1 := pb a1 c1
  have p2 := pb a1 d1
  have p3 := pb b1 c1
  have p4 := pb b1 d1
  generalize a * c = AC at *
  generalize a * d = AD at *
  generalize b * c = BC at *
  generalize b * d = BD at *
  clear ha hb hc hd exy a1 b1 c1 d1 pb hx hy n0 hw
  omega

def mulSp : List AV → Option AV
  | [A, B] => match asI (some A), asI (some B) with
    | some (_, .u64, x), some (_, .u64, y) => some (.tup [(false, [.v (.int .u64 (mulHi x y))]), (false, [.v (.int .u64 (mulLo x y))])])
    | _, _ => none
  | _ => none
theorem mul64_ok : ∀ args v, mulSp args = some v → PureOk Try.prog 96 args v := by
  intro args v h us w ha
  unfold mulSp at h
  split at h
  case h_2 => cases h
  rename_i A B
  split at h
  case h_2 => cases h
  rename_i c1 x c2 y hx hy
  injection h with h; subst h
  obtain ⟨u1, us1, r1, ha, rfl⟩ := ha
  obtain ⟨u2, us2, r2, ha, rfl⟩ := ha
  simp only [relAs] at ha
  subst ha
  obtain ⟨q1, h1⟩ := normI hx r1
  obtain ⟨q2, h2⟩ := normI hy r2
  have b1 := u64_bounds h1
  have b2 := u64_bounds h2
  obtain ⟨m1, m2, m3, m4, m5⟩ := mul64_math b1 b2
  have := pure_ok (orc_ok S0ok K0ok) mixed Try.func96 (mul64_run x y) (by simp [okConds, b1.1, b2.1, m3, m4, m5]) rfl _ w ⟨u1, _, q1, ⟨u2, _, q2, rfl, rfl⟩, rfl⟩
  rw [m1, m2] at this
  exact this

def Pw : List Ch := [.n .u64 0xb9feffffffffaaab, .n .u64 0x1eabfffeb153ffff, .n .u64 0x6730d2a0f6b0f624, .n .u64 0x64774b84f38512bf, .n .u64 0x4b1ba7b6434bacd7, .n .u64 0x1a0111ea397fe69a]
theorem P_run : pureRun Try.prog (orc S0 K0) Try.f34 [] [] 100 = some ([], .val true Pw) := by kernel_rfl
theorem P_ok : PureOk Try.prog 34 [] (.val true Pw) := pure_ok (orc_ok S0ok K0ok) mixed Try.func34 P_run trivial rfl
def P_sp : List AV → Option AV | [] => some (.val true Pw) | _ => none
def S1 : List (FuncId × ASpec) := (34, pureSpec P_sp) :: (96, pureSpec mulSp) :: S0
theorem S1ok : SpecsOk Try.prog S1 := ⟨pureSpec_ok Try.func34 (by kernel_rfl) (by kernel_rfl) (fun args v h => by
  unfold P_sp at h
  split at h
  · injection h with h; subst h; exact P_ok
  · cases h), pureSpec_ok Try.func96 (by kernel_rfl) (by kernel_rfl) mul64_ok, S0ok⟩
end Go.Proofs.Ytoemaicabljpfaa
