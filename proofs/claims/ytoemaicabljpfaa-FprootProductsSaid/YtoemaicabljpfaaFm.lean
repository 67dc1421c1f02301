/- limb.carried: the walk. -/
import Derived.Test.YtoemaicabljpfaaFl
namespace Go.Proofs.Ytoemaicabljpfaa
open Ex
set_option maxRecDepth 100000

def keyB : Bool → Nat | false => 1 | true => 0
def seqHB (same : Bool) (ty : Nat) (xs : List Int) (o : Bool) (ty' : Nat) (ys : List Int) (o' : Bool) : Heap := match same with
  | false => seqH2 ty xs o ty' ys o'
  | true => seqH ty xs o
def secB (same : Bool) (xs ys : List Int) : List Int := match same with | false => ys | true => xs
noncomputable def carTodo : List Item := todoOf (aSeg Try.prog (orc S16 K0) (some 0) 100 2 none (entry Try.f84 [.val false [.sl 0 0 0 0], .val false [.sl 1 0 0 0], .val false [.clo 85 []]] (seqH2 0 [] false 0 [] false) 2 []))
noncomputable def carT (same : Bool) (off n m off' n' m' L : Nat) (c : Ch) (i : Int) : List AV := .val false [.sl 0 off n m] :: .val false [.sl (keyB same) off' n' m'] :: .val false [.clo 85 []] :: .any :: .any :: .any :: .any :: .any :: .val false [.sl 2 0 L L] :: .val false [c] :: .any :: .any :: .any :: .any :: .any :: .any :: .val false [.sl 2 0 L L] :: .val false [.sl 2 0 L L] :: .val false [.v (.int .i64 L)] :: .val false [.v (.int .i64 i)] :: List.replicate (Try.f84.ntmps - 20) .any
noncomputable def carS (same : Bool) (ty off n m ty' off' n' m' : Nat) (xs xs' : List Int) (o o' : Bool) (L : Nat) (ys : List Int) (c : Ch) (i : Int) (p : List Bool) : ASt := ⟨carTodo, ⟨carT same off n m off' n' m' L c i, List.append (seqHB same ty xs o ty' xs' o') [(2, some ⟨22, [.seq .u64 ys], false⟩)], 3, p⟩⟩
def carC (same : Bool) (off n off' n' L : Nat) (xs xs' ys : List Int) (c i : Int) : List (Bool × Bool) := [(decide (i < L), true), (Nat.ble (off + n) xs.length, true), (hasB .i64 n, true), (decide (0 ≤ i), true), (Nat.ble (off' + n') (secB same xs xs').length, true), (hasB .i64 n', true), (decide (0 ≤ i), true), (is01 c, true), (decide (0 ≤ i ∧ i < L), true), (decide (0 + i.toNat * 1 < ys.length), true)]
theorem car_step (same : Bool) (ty off n m ty' off' n' m' : Nat) (xs xs' : List Int) (o o' : Bool) (L : Nat) (ys : List Int) (c i : Int) :
    aSeg Try.prog (orc S16 K0) (some 0) 100 2 (some ([0, 1, 2, 8, 9, 16, 17, 18, 19], [0, 1, 2], 3)) (carS same ty off n m ty' off' n' m' xs xs' o o' L ys (.v (.int .u64 c)) i [true]) =
    some (carC same off n off' n' L xs xs' ys c i, [], carS same ty off n m ty' off' n' m' xs xs' o o' L (ys.set (0 + i.toNat * 1) (sumW (atV xs off n i) (atV (secB same xs xs') off' n' i) c)) (.v (.int .u64 (carW (atV xs off n i) (atV (secB same xs xs') off' n' i) c))) (wI (i + 1)) []) := by
  cases same <;> kernel_rfl
def carH (ys : List Int) : Heap := [(2, some ⟨22, [.seq .u64 ys], false⟩)]
theorem car_exit (same : Bool) (ty off n m ty' off' n' m' : Nat) (xs xs' : List Int) (o o' : Bool) (L : Nat) (ys : List Int) (c i : Int) :
    segOut Try.prog (orc S16 K0) Try.f84 100 2 [2] (carS same ty off n m ty' off' n' m' xs xs' o o' L ys (.v (.int .u64 c)) i [false]) =
    some ([(decide (i < L), false)], [], .tup [(false, [.sl 2 0 L L]), (false, [.v (.int .u64 c)])], carH ys) := by
  cases same <;> kernel_rfl
/- constants told as values -/
def nvA : AV → AV
  | .val g cs => .val g (cs.map nv)
  | a => a
theorem relA_nv {β : Env} {a : AV} {u : Value} (h : relA β a u) : relA β (nvA a) u := by
  cases a with
  | val g cs => cases g with
    | false => exact relL_nv h
    | true => obtain ⟨l, q, e⟩ := h; exact ⟨l, relL_nv q, e⟩
  | tup xs => exact h
  | any => exact h
theorem tget_nv : ∀ (T : List AV) (t : Nat), tget (T.map nvA) t = nvA (tget T t) ∨ tget (T.map nvA) t = tget T t
  | [], _ => .inr rfl
  | _ :: _, 0 => .inl rfl
  | _ :: r, t + 1 => tget_nv r t
theorem nv_safe {P : Program} {f : FuncId} {β0 : Env} {w0 : World} {R : Ending → World → Prop} {n : Nat} {W : List Nat} {todo : List Item} {T : List AV} {H : Heap} {fr : Nat} {p : List Bool} (h : ASafe P f β0 w0 R n W ⟨todo, ⟨T.map nvA, H, fr, p⟩⟩) : ASafe P f β0 w0 R n W ⟨todo, ⟨T, H, fr, p⟩⟩ := by
  intro β a w hi hf
  refine h β a w { hi with tmp := fun t => ?_ } hf
  rcases tget_nv T t with e | e
  · show relA β (tget (T.map nvA) t) _
    rw [e]; exact relA_nv (hi.tmp t)
  · show relA β (tget (T.map nvA) t) _
    rw [e]; exact hi.tmp t
def carA (same : Bool) (off n m off' n' m' : Nat) : List AV := [.val false [.sl 0 off n m], .val false [.sl (keyB same) off' n' m'], .val false [.clo 85 []]]
def maxN (n n' : Nat) : Nat := (maxI n n').toNat
noncomputable def car0 (same : Bool) (off n m off' n' m' : Nat) : List AV := .val false [.sl 0 off n m] :: .val false [.sl (keyB same) off' n' m'] :: .val false [.clo 85 []] :: .any :: .any :: .any :: .any :: .any :: .val false [.sl 2 0 (maxN n n') (maxN n n')] :: .val false [.n .u64 0] :: .any :: .any :: .any :: .any :: .any :: .any :: .val false [.sl 2 0 (maxN n n') (maxN n n')] :: .val false [.sl 2 0 (maxN n n') (maxN n n')] :: .val false [.v (.int .i64 (maxN n n'))] :: .val false [.n .i64 0] :: List.replicate (Try.f84.ntmps - 20) .any
theorem car_entry (same : Bool) (ty off n m ty' off' n' m' : Nat) (xs xs' : List Int) (o o' : Bool) :
    aSeg Try.prog (orc S16 K0) (some 0) 100 2 (some ([0, 1, 2, 8, 9, 16, 17, 18, 19], [0, 1, 2], 3)) (entry Try.f84 (carA same off n m off' n' m') (seqHB same ty xs o ty' xs' o') 2 []) =
    some ([(hasB .i64 n, true), (hasB .i64 n', true), (decide (0 ≤ maxI n n' ∧ maxI n n' ≤ maxI n n' ∧ ((8 : Nat) : Int) * maxI n n' ≤ 281474976710656 ∧ maxI n n' ≤ 9223372036854775807), true), (hasB .i64 (maxN n n'), true)], [],
      ⟨carTodo, ⟨car0 same off n m off' n' m', List.append (seqHB same ty xs o ty' xs' o') (carH (List.replicate (maxN n n') 0)), 3, []⟩⟩) := by
  cases same <;> kernel_rfl
/- carries of whole numbers -/
def cyN (A B i : Nat) : Nat := (A % 2 ^ (64 * i) + B % 2 ^ (64 * i)) / 2 ^ (64 * i)
theorem cyN_le (A B i : Nat) : cyN A B i ≤ 1 := by
  have hp : 0 < 2 ^ (64 * i) := Nat.pow_pos (by decide)
  have h1 := Nat.mod_lt A hp
  have h2 := Nat.mod_lt B hp
  exact Nat.le_of_lt_succ (Nat.div_lt_of_lt_mul (by omega))
theorem cy_gen (A B Q W : Nat) (hp : 0 < Q) : (A % (Q * W) + B % (Q * W)) / (Q * W) = (A / Q % W + B / Q % W + (A % Q + B % Q) / Q) / W ∧ (A + B) / Q = A / Q + B / Q + (A % Q + B % Q) / Q := by
  constructor
  · rw [Nat.mod_mul, Nat.mod_mul, ← Nat.div_div_eq_div_mul]
    congr 1
    rw [show A % Q + Q * (A / Q % W) + (B % Q + Q * (B / Q % W)) = A % Q + B % Q + Q * (A / Q % W + B / Q % W) by rw [Nat.mul_add]; omega, Nat.add_mul_div_left _ _ hp]
    omega
  · have ea := Nat.div_add_mod A Q
    have eb := Nat.div_add_mod B Q
    rw [show A + B = A % Q + B % Q + Q * (A / Q + B / Q) by rw [Nat.mul_add]; omega, Nat.add_mul_div_left _ _ hp]
    omega
theorem cyN_step (A B i : Nat) : A / 2 ^ (64 * i) % 18446744073709551616 + B / 2 ^ (64 * i) % 18446744073709551616 + cyN A B i = (A + B) / 2 ^ (64 * i) % 18446744073709551616 + 18446744073709551616 * cyN A B (i + 1) := by
  obtain ⟨h1, h2⟩ := cy_gen A B (2 ^ (64 * i)) 18446744073709551616 (Nat.pow_pos (by decide))
  have e : 2 ^ (64 * (i + 1)) = 2 ^ (64 * i) * 18446744073709551616 := by rw [show 64 * (i + 1) = 64 * i + 64 by omega, Nat.pow_add]
  unfold cyN
  rw [e, h1, h2]
  omega
end Go.Proofs.Ytoemaicabljpfaa
