/- The contracts of limb.carried (with limb.Add's step) and limb.Add. -/
import Derived.Test.YtoemaicabljpfaaFn
namespace Go.Proofs.Ytoemaicabljpfaa
open Ex
set_option maxRecDepth 100000

def addR (k t fr off n off' n' : Nat) (xs ys : List Int) (path : List Bool) : R :=
  trR [k, t] 2 fr 1 [] (.tup [(false, [.sl 2 0 (max n n') (max n n')]), (false, [.v (.int .u64 (addC xs off n ys off' n' (max n n')))])]) (carH (outL (addS xs off n ys off' n') (max n n') (max n n')))
    [(Nat.ble (off + n) xs.length, true), (Nat.ble (off' + n') ys.length, true), (hasB .i64 n, true), (hasB .i64 n', true), (Nat.ble n 35184372088832, true), (Nat.ble n' 35184372088832, true)] path
def add2 (H : Heap) (fr : Nat) (path : List Bool) (k off n t off' n' : Nat) : Option R :=
  match hget H k, hget H t with
  | some ⟨_, cs, _⟩, some ⟨_, ds, _⟩ => match toSeq .u64 cs, toSeq .u64 ds with
    | some xs, some ys => some (addR k t fr off n off' n' xs ys path)
    | _, _ => none
  | _, _ => none
/-- A function without captured variables, told as a constant or as a closure. -/
def asFn : AV → Option FuncId
  | .val false [.clo g []] => some g
  | .val false [.v (.func (.func g) ⟨[]⟩ ⟨[]⟩)] => some g
  | _ => none
theorem asFn_rel {β β' : Env} {A : AV} {g : FuncId} {u : Value} (h : asFn A = some g) (hr : relA β A u) : relA β' (.val false [.clo g []]) u := by
  unfold asFn at h
  split at h
  · injection h with h; subst h; exact relA_any rfl hr
  · injection h with h; subst h
    obtain ⟨l1, l2, ⟨h1, _⟩, h3, h4⟩ := hr
    subst h1; subst h3
    exact ⟨_, [], ⟨[], rfl, rfl⟩, rfl, h4⟩
  · cases h
def carSpec : ASpec := fun args H fr path =>
  match args with
  | [.val false [.sl k off n _], .val false [.sl t off' n' _], F] => match asFn F with
    | some g => match Nat.beq g 85 with
      | true => add2 H fr path k off n t off' n'
      | false => none
    | none => none
  | _ => none
theorem good_two {β : Env} {H : Heap} {w : World} {k t : Nat} {ty ty' : Nat} {cs ds : List Ch} {o o' : Bool} {xs ys : List Int} (hg : Good β H w) (hk : hget H k = some ⟨ty, cs, o⟩) (ht : hget H t = some ⟨ty', ds, o'⟩) (hxs : toSeq .u64 cs = some xs) (hys : toSeq .u64 ds = some ys) :
    (∀ d ∈ xs, 0 ≤ d ∧ d < 18446744073709551616) ∧ (∀ d ∈ ys, 0 ≤ d ∧ d < 18446744073709551616) ∧ secB (Nat.beq k t) xs ys = ys ∧ Good (inEnv β [k, t] 2) (seqHB (Nat.beq k t) ty xs o ty' ys o') w ∧ (∀ j, j < 2 → ∃ X, β (nth [k, t] j) = some X) ∧ inEnv β [k, t] 2 (keyB (Nat.beq k t)) = β t := by
  have hd : ∀ j, j < 2 → ∃ X, β (nth [k, t] j) = some X := fun j hj => by
    match j, hj with
    | 0, _ => exact relB_def (hg.heap _ _ hk)
    | 1, _ => exact relB_def (hg.heap _ _ ht)
  cases hne : Nat.beq k t with
  | false =>
    obtain ⟨g1, g2, g3, g4⟩ := good_seq2 hg hk ht hxs hys hne
    exact ⟨g1, g2, rfl, g3, hd, rfl⟩
  | true =>
    have e := nbeq.1 hne
    subst e
    rw [hk] at ht; injection ht with ht; injection ht with h1 h2 h3; subst h1; subst h2; subst h3
    rw [hxs] at hys; injection hys with hys; subst hys
    obtain ⟨g1, g2, g3⟩ := good_seq hg hk hxs
    have z : ∀ b blk, hget (seqHB true ty xs o ty xs o) b = some blk → b = 0 ∧ blk = ⟨ty, [.seq .u64 xs], o⟩ := by
      intro b blk hb
      simp only [seqHB, seqH, hget] at hb
      split at hb
      · rename_i e; injection hb with hb; exact ⟨(nbeq.1 e).symm, hb.symm⟩
      · cases hb
    refine ⟨g1, g1, rfl, ⟨fun b blk hb => ?_, fun b b' B m m' h3 h4 h5 h6 => ?_, fun b B m hb => ?_⟩, hd, rfl⟩
    · obtain ⟨rfl, rfl⟩ := z b blk hb
      rcases g2.heap 0 _ rfl with ⟨B, m, l, t, q1, q2, q3⟩ | ⟨q1, q2, q3⟩
      · exact .inl ⟨B, m, l, t, q1, relL_any (by rfl) q2, q3⟩
      · exact .inr ⟨q1, q2, relL_any (by rfl) q3⟩
    · obtain ⟨x, hx⟩ := Option.isSome_iff_exists.1 h3
      obtain ⟨y, hy⟩ := Option.isSome_iff_exists.1 h4
      rw [(z b x hx).1, (z b' y hy).1]
    · unfold inEnv at hb
      split at hb
      · exact hg.lt _ _ _ hb
      · cases hb
theorem carSpec_ok : SpecOk Try.prog 84 carSpec := by
  refine can_spec Try.func84 (by kernel_rfl) (by kernel_rfl) fun args H fr path r h => ?_
  unfold carSpec at h
  split at h
  case h_2 => cases h
  rename_i k off n m t off' n' m' F
  split at h
  case h_2 => cases h
  rename_i g hF
  split at h
  case h_2 => cases h
  rename_i hgg
  unfold add2 at h
  split at h
  case h_2 => cases h
  rename_i ty cs o ty' ds o' hk ht
  split at h
  case h_2 => cases h
  rename_i xs ys hxs hys
  injection h with h
  have hg0 := nbeq.1 hgg
  subst hg0
  refine ⟨[k, t], carA (Nat.beq k t) off n m off' n' m', seqHB (Nat.beq k t) ty xs o ty' ys o', 2, 1, [], _, _, _, path, h.symm, fun β us w ha hg hc => ?_⟩
  obtain ⟨u1, us1, r1, ⟨u2, us2, r2, ⟨u3, us3, r3, ha, rfl⟩, rfl⟩, rfl⟩ := ha
  obtain ⟨g1, g1', hsec, g2, g3, g4⟩ := good_two hg hk ht hxs hys
  have hcan := car_can (same := Nat.beq k t) (ty := ty) (m := m) (ty' := ty') (m' := m') (o := o) (o' := o') (xs' := ys) g1 (by rw [hsec]; exact g1') (Nat.le_of_ble_eq_true hc.1) (by rw [hsec]; exact Nat.le_of_ble_eq_true hc.2.1) hc.2.2.1 hc.2.2.2.1 ⟨Nat.le_of_ble_eq_true hc.2.2.2.2.1, Nat.le_of_ble_eq_true hc.2.2.2.2.2.1⟩
  rw [hsec] at hcan
  refine ⟨hcan, by kernel_rfl, ⟨u1, _, r1, ⟨u2, _, ?_, ⟨u3, us3, asFn_rel hF r3, ha, rfl⟩, rfl⟩, rfl⟩, g2, g3⟩
  obtain ⟨l1, l2, ⟨B, q, h1, h2⟩, h3, h4⟩ := r2
  exact ⟨l1, l2, ⟨B, q, by rw [g4]; exact h1, h2⟩, h3, h4⟩
noncomputable def S17 : List (FuncId × ASpec) := (84, carSpec) :: S16
theorem S17ok : SpecsOk Try.prog S17 := ⟨carSpec_ok, S16ok⟩
def addA (same : Bool) (off n m off' n' m' : Nat) : List AV := [.val false [.sl 0 off n m], .val false [.sl (keyB same) off' n' m']]
theorem addl_run (same : Bool) (ty off n m ty' off' n' m' : Nat) (xs xs' : List Int) (o o' : Bool) :
  segOut Try.prog (orc S17 K0) Try.f35 100 2 [2] (entry Try.f35 (addA same off n m off' n' m') (seqHB same ty xs o ty' xs' o') 2 []) =
  some ((addR 0 0 0 off n off' n' xs (secB same xs xs') []).conds, [], .tup [(false, [.sl 2 0 (max n n') (max n n')]), (false, [.v (.int .u64 (addC xs off n (secB same xs xs') off' n' (max n n')))])], carH (outL (addS xs off n (secB same xs xs') off' n') (max n n') (max n n'))) := by
  cases same <;> kernel_rfl
theorem addl_can {same : Bool} {ty off n m ty' off' n' m' : Nat} {xs xs' : List Int} {o o' : Bool} (hc : okConds (addR 0 0 0 off n off' n' xs (secB same xs xs') []).conds) :
    CanOk Try.prog 35 (addA same off n m off' n' m') (seqHB same ty xs o ty' xs' o') 2 [] (.tup [(false, [.sl 2 0 (max n n') (max n n')]), (false, [.v (.int .u64 (addC xs off n (secB same xs xs') off' n' (max n n')))])]) (carH (outL (addS xs off n (secB same xs xs') off' n') (max n n') (max n n'))) := by
  refine can_entry (path := []) Try.func35 (by kernel_rfl) (by kernel_rfl) fun β0 w0 hb => ?_
  exact out_safe (orc_ok S17ok K0ok) mixed Try.func35 (addl_run same ty off n m ty' off' n' m' xs xs' o o') hc (wfB_ok (by cases same <;> kernel_rfl)) hb (fun _ h => by cases h)
def addlSpec : ASpec := fun args H fr path =>
  match args with
  | [.val false [.sl k off n _], .val false [.sl t off' n' _]] => add2 H fr path k off n t off' n'
  | _ => none
theorem addlSpec_ok : SpecOk Try.prog 35 addlSpec := by
  refine can_spec Try.func35 (by kernel_rfl) (by kernel_rfl) fun args H fr path r h => ?_
  unfold addlSpec at h
  split at h
  case h_2 => cases h
  rename_i k off n m t off' n' m'
  unfold add2 at h
  split at h
  case h_2 => cases h
  rename_i ty cs o ty' ds o' hk ht
  split at h
  case h_2 => cases h
  rename_i xs ys hxs hys
  injection h with h
  refine ⟨[k, t], addA (Nat.beq k t) off n m off' n' m', seqHB (Nat.beq k t) ty xs o ty' ys o', 2, 1, [], _, _, _, path, h.symm, fun β us w ha hg hc => ?_⟩
  obtain ⟨u1, us1, r1, ⟨u2, us2, r2, ha, rfl⟩, rfl⟩ := ha
  obtain ⟨g1, g1', hsec, g2, g3, g4⟩ := good_two hg hk ht hxs hys
  have hcan := addl_can (same := Nat.beq k t) (ty := ty) (m := m) (ty' := ty') (m' := m') (o := o) (o' := o') (off := off) (n := n) (off' := off') (n' := n') (xs := xs) (xs' := ys) (by rw [hsec]; exact hc)
  rw [hsec] at hcan
  refine ⟨hcan, by kernel_rfl, ⟨u1, _, r1, ⟨u2, _, ?_, ha, rfl⟩, rfl⟩, g2, g3⟩
  obtain ⟨l1, l2, ⟨B, q, h1, h2⟩, h3, h4⟩ := r2
  exact ⟨l1, l2, ⟨B, q, by rw [g4]; exact h1, h2⟩, h3, h4⟩
noncomputable def S18 : List (FuncId × ASpec) := (35, addlSpec) :: S17
theorem S18ok : SpecsOk Try.prog S18 := ⟨addlSpec_ok, S17ok⟩
end Go.Proofs.Ytoemaicabljpfaa
