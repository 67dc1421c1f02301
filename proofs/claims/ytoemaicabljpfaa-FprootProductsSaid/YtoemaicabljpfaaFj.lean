/- The contracts of fproot. -/
import Derived.Test.YtoemaicabljpfaaFi
namespace Go.Proofs.Ytoemaicabljpfaa
open Ex
set_option maxRecDepth 100000

def ws6 (x : Nat) : List Int := (List.range 6).map (wordN x) ++ []
theorem natL_num6 {x : Nat} (h : x < RR) : natL (win (ws6 x) (0 + 0 * 1) (6 - 0)) = x :=
  (show natL (win (ws6 x) (0 + 0 * 1) (6 - 0)) = nest6 (wordN x 0) (wordN x 1) (wordN x 2) (wordN x 3) (wordN x 4) (wordN x 5) by kernel_rfl).trans (nest6_digits h)
def intA (i : Int) : AV := .val false [.v (.int .i64 i)]
def boolA (b : Bool) : AV := .val false [.v (.bool b)]
theorem sign_run (x : Nat) : pureRun Try.prog (orc S11 K0) Try.f32 [num6 x] [] 300 = some ([], intA (wI (bits .and .u64 (wordN (x % pN) 0) 1))) := by kernel_rfl
def signN (x : Nat) : Int := ((x % pN % 2 : Nat) : Int)
theorem word0_mod2 (x : Nat) : wordN x 0 = ((x % 18446744073709551616 : Nat) : Int) := by simp only [wordN, Nat.mul_zero, Nat.pow_zero, Nat.div_one]
theorem and_one (v : Nat) (hv : v < 18446744073709551616) : bits .and .u64 (v : Int) 1 = ((v % 2 : Nat) : Int) := by
  have h := (bits_nat .u64 64 (by decide) (fun n h0 h1 => by rw [IntKind.wrap_u64]; omega) v 1 (by omega) (by decide)).1
  refine Eq.trans h ?_
  rw [Nat.and_one_is_mod]
theorem sign_ok (x : Nat) : PureOk Try.prog 32 [num6 x] (intA (signN x)) := by
  have h := pure_ok (orc_ok S11ok K0ok) mixed Try.func32 (sign_run x) trivial rfl
  have e : wI (bits .and .u64 (wordN (x % pN) 0) 1) = signN x := by
    rw [word0_mod2, and_one _ (by omega), wI_eq (by omega)]
    unfold signN; omega
  rw [e] at h
  exact h
theorem bigger_run (x : Nat) : pureRun Try.prog (orc S11 K0) Try.f33 [num6 x] [] 300 = some (allT 4, boolA (decide (0 < cmpI (natL (win (ws6 (x % pN)) (0 + 0 * 1) (6 - 0))) (natL (win (ws6 (negN x)) (0 + 0 * 1) (6 - 0)))))) := by kernel_rfl
def biggerN (x : Nat) : Bool := decide (negN x < x % pN)
theorem negN_lt (x : Nat) : negN x < pN := Nat.mod_lt _ pN_pos
theorem bigger_ok (x : Nat) : PureOk Try.prog 33 [num6 x] (boolA (biggerN x)) := by
  have h := pure_ok (orc_ok S11ok K0ok) mixed Try.func33 (bigger_run x) (allT_ok _) rfl
  rw [natL_num6 (lt_RR_mod x), natL_num6 (Nat.lt_trans (negN_lt x) (by decide))] at h
  have e : decide (0 < cmpI (x % pN) (negN x)) = biggerN x := by
    unfold cmpI biggerN
    by_cases h1 : x % pN < negN x
    · rw [if_pos h1, decide_eq_false (by omega), decide_eq_false (by omega)]
    · by_cases h2 : negN x < x % pN
      · rw [if_neg h1, if_pos h2, decide_eq_true h2]; rfl
      · rw [if_neg h1, if_neg h2, decide_eq_false h2]; rfl
  rw [e] at h
  exact h
def QN : Nat := 1000602388805416848354447456433976039139220704984751971333014534031007912622709466110671907282253916009473568139947
def QC : List Ch := [.n .u64 0xee7fbfffffffeaab, .n .u64 0x7aaffffac54ffff, .n .u64 0xd9cc34a83dac3d89, .n .u64 0xd91dd2e13ce144af, .n .u64 0x92c6e9ed90d2eb35, .n .u64 0x680447a8e5ff9a6]
theorem quarter_run : pureRun Try.prog (orc S11 K0) Try.f80 [] [] 300 = some ([], .val true QC) := by kernel_rfl
theorem quarter_ok : PureOk Try.prog 80 [] (.val true QC) := pure_ok (orc_ok S11ok K0ok) mixed Try.func80 quarter_run trivial rfl
noncomputable def S12 : List (FuncId × ASpec) := (80, pureSpec fun args => match args with | [] => some (num6 QN) | _ => none) :: (32, pureSpec (sp1 fun x => intA (signN x))) :: (33, pureSpec (sp1 fun x => boolA (biggerN x))) :: S11
theorem S12ok : SpecsOk Try.prog S12 := ⟨pureSpec_ok Try.func80 (by kernel_rfl) (by kernel_rfl) (sp0_ok quarter_ok fun u h => num6_of (by kernel_rfl) h),
  pureSpec_ok Try.func32 (by kernel_rfl) (by kernel_rfl) (sp1_ok fun x _ => sign_ok x),
  pureSpec_ok Try.func33 (by kernel_rfl) (by kernel_rfl) (sp1_ok fun x _ => bigger_ok x), S11ok⟩
def evenN (y : Nat) : Nat := if signN y = 1 then negN y else y
theorem even_yes (y : Nat) : pureRun Try.prog (orc S12 K0) Try.f81 [num6 y] [true] 300 = some ([(decide (signN y = 1), true)], num6 (negN y)) := by kernel_rfl
theorem even_no (y : Nat) : pureRun Try.prog (orc S12 K0) Try.f81 [num6 y] [false] 300 = some ([(decide (signN y = 1), false)], num6 y) := by kernel_rfl
theorem even_ok (y : Nat) : PureOk Try.prog 81 [num6 y] (num6 (evenN y)) := by
  unfold evenN
  by_cases h : signN y = 1
  · rw [if_pos h]; exact pure_ok (orc_ok S12ok K0ok) mixed Try.func81 (even_yes y) ⟨by simp [h], trivial⟩ rfl
  · rw [if_neg h]; exact pure_ok (orc_ok S12ok K0ok) mixed Try.func81 (even_no y) ⟨by simp [h], trivial⟩ rfl
noncomputable def S13 : List (FuncId × ASpec) := (81, pureSpec (sp1 fun x => num6 (evenN x))) :: S12
theorem S13ok : SpecsOk Try.prog S13 := ⟨pureSpec_ok Try.func81 (by kernel_rfl) (by kernel_rfl) (sp1_ok fun x _ => even_ok x), S12ok⟩
noncomputable def sqW (a : Nat) : Nat := powN a (natL (win (ws6 QN) (0 + 0 * 1) (6 - 0)))
end Go.Proofs.Ytoemaicabljpfaa
