/- The contracts of limb: words, orders. -/
import Derived.Test.YtoemaicabljpfaaFg
namespace Go.Proofs.Ytoemaicabljpfaa
open Ex
set_option maxRecDepth 100000

def win (xs : List Int) (off n : Nat) : List Int := (xs.drop off).take n
theorem win_has {xs : List Int} {off n : Nat} {P : Int → Prop} (h : ∀ d ∈ xs, P d) : ∀ d ∈ win xs off n, P d := fun d hd => h d (List.mem_of_mem_drop (List.mem_of_mem_take hd))
def atV (xs : List Int) (off n : Nat) (i : Int) : Int := (win xs off n).getD i.toNat 0
def atA (off n m : Nat) (i : Int) : List AV := [.val false [.sl 0 off n m], .val false [.v (.int .i64 i)]]
theorem at_in (ty off n m : Nat) (i : Int) (xs : List Int) (o : Bool) : segOut Try.prog (orc S0 K0) Try.f87 100 1 [] (entry Try.f87 (atA off n m i) (seqH ty xs o) 1 [true]) =
  some ([(hasB .i64 n, true), (decide (i < n), true), (decide (0 ≤ i ∧ i < n), true), (decide (off + i.toNat * 1 < xs.length), true)], [], .val false [.v (.int .u64 (xs.getD (off + i.toNat * 1) 0))], []) := by kernel_rfl
theorem at_out (ty off n m : Nat) (i : Int) (xs : List Int) (o : Bool) : segOut Try.prog (orc S0 K0) Try.f87 100 1 [] (entry Try.f87 (atA off n m i) (seqH ty xs o) 1 [false]) =
  some ([(hasB .i64 n, true), (decide (i < n), false)], [], .val false [.n .u64 0], []) := by kernel_rfl
theorem can_val {P : Program} {f : FuncId} {args0 : List AV} {H0 H1 : Heap} {k0 : Nat} {W : List Nat} {v v' : AV} (h : CanOk P f args0 H0 k0 W v H1) (hv : ∀ β u, relA β v u → relA β v' u) : CanOk P f args0 H0 k0 W v' H1 :=
  fun β us w a b c => Calls.mono (h β us w a b c) fun _ _ ⟨u, β', q1, q2⟩ => ⟨u, β', q1, { q2 with val := hv _ _ q2.val }⟩
theorem nv_val {β : Env} {k : IntKind} {i : Int} {u : Value} (h : relA β (.val false [.n k i]) u) : relA β (.val false [.v (.int k i)]) u := relL_nv (cs := [.n k i]) h
theorem at_can {ty off n m : Nat} {xs : List Int} {o : Bool} (hlen : off + n ≤ xs.length) (hn : hasB .i64 n = true) {i : Int} (hi : 0 ≤ i) :
    CanOk Try.prog 87 (atA off n m i) (seqH ty xs o) 1 [] (.val false [.v (.int .u64 (atV xs off n i))]) [] := by
  by_cases h : i < n
  · refine can_entry (path := [true]) Try.func87 (by kernel_rfl) (by kernel_rfl) fun β0 w0 hb => ?_
    rw [show atV xs off n i = xs.getD (off + i.toNat * 1) 0 from by rw [Nat.mul_one]; exact bit_word (by omega)]
    exact out_safe (orc_ok S0ok K0ok) mixed Try.func87 (at_in ty off n m i xs o) ⟨hn, by simp [h], by simp [hi, h], by simp; omega, trivial⟩ (wfB_ok (by kernel_rfl)) hb (fun _ h => by cases h)
  · have e : atV xs off n i = 0 := by
      unfold atV win
      rw [List.getD_eq_getElem?_getD, List.getElem?_eq_none (by rw [List.length_take]; omega)]; rfl
    rw [e]
    refine can_val (v := .val false [.n .u64 0]) (can_entry (path := [false]) Try.func87 (by kernel_rfl) (by kernel_rfl) fun β0 w0 hb => ?_) fun _ _ => nv_val
    exact out_safe (orc_ok S0ok K0ok) mixed Try.func87 (at_out ty off n m i xs o) ⟨hn, by simp [h], trivial⟩ (wfB_ok (by kernel_rfl)) hb (fun _ h => by cases h)
def atSpec : ASpec := fun args H fr path =>
  match args with
  | [.val false [.sl k off n _], I] => match asI (some I), hget H k with
    | some (_, .i64, i), some ⟨_, cs, _⟩ => match toSeq .u64 cs with
      | some xs => some (trR [k] 1 fr 0 [] (.val false [.v (.int .u64 (atV xs off n i))]) [] [(Nat.ble (off + n) xs.length, true), (hasB .i64 n, true), (decide (0 ≤ i), true)] path)
      | none => none
    | _, _ => none
  | _ => none
theorem good_seq {β : Env} {H : Heap} {w : World} {k : Nat} {ty : Nat} {cs : List Ch} {o : Bool} {xs : List Int} (hg : Good β H w) (hk : hget H k = some ⟨ty, cs, o⟩) (hxs : toSeq .u64 cs = some xs) :
    (∀ d ∈ xs, 0 ≤ d ∧ d < 18446744073709551616) ∧ Good (inEnv β [k] 1) (seqH ty xs o) w ∧ (∀ j, j < 1 → ∃ X, β (nth [k] j) = some X) := by
  obtain ⟨l, g1⟩ := hget_rel hg hk
  obtain ⟨_, g2⟩ := toSeq_rel hxs g1
  refine ⟨fun d hd => u64_bounds (g2 d hd), good1 (c := [.seq .u64 xs]) hg hk (fun l h => ?_), fun j hj => ?_⟩
  · obtain ⟨q1, q2⟩ := toSeq_rel hxs h
    exact ⟨_, [], ⟨q1, q2⟩, rfl, by simp⟩
  · match j, hj with
    | 0, _ => exact relB_def (hg.heap _ _ hk)
theorem atSpec_ok : SpecOk Try.prog 87 atSpec := by
  refine can_spec Try.func87 (by kernel_rfl) (by kernel_rfl) fun args H fr path r h => ?_
  unfold atSpec at h
  split at h
  case h_2 => cases h
  rename_i k off n m I
  split at h
  case h_2 => cases h
  rename_i c0 i ty cs o hI hk
  split at h
  case h_2 => cases h
  rename_i xs hxs
  injection h with h
  refine ⟨[k], atA off n m i, seqH ty xs o, 1, 0, [], _, [], _, path, h.symm, fun β us w ha hg hc => ?_⟩
  obtain ⟨u1, us1, r1, ⟨u2, us2, r2, ha, rfl⟩, rfl⟩ := ha
  obtain ⟨g1, g2, g3⟩ := good_seq hg hk hxs
  obtain ⟨rfl, p1⟩ := asI_rel (β := β) (u := u2) (fun A hA => by injection hA with hA; subst hA; exact r2) hI
  exact ⟨at_can (Nat.le_of_ble_eq_true hc.1) hc.2.1 (by simpa using hc.2.2.1), by kernel_rfl, ⟨u1, _, r1, ⟨_, us2, rel_one' ⟨rfl, rfl, p1⟩, ha, rfl⟩, rfl⟩, g2, g3⟩
noncomputable def S10 : List (FuncId × ASpec) := (87, atSpec) :: S9
theorem S10ok : SpecsOk Try.prog S10 := ⟨atSpec_ok, S9ok⟩
end Go.Proofs.Ytoemaicabljpfaa
