/- sigillaw12: G1Sums: the walk. -/
import Derived.Test.YtccmbnbphianbaaMk
import Derived.Test.YtccmbnbphianbaaPE
namespace Go.Proofs.Ytccmbnbphianbaa
open Ex Num Rg
set_option maxRecDepth 100000

theorem under_rows : Try.prog.underlying 22 = some (.slice 25) := by kernel_rfl
theorem cells_rows1 : Try.prog.cellsOf 25 = 1 := by kernel_rfl
theorem under_pts : Try.prog.underlying 23 = some (.slice 30) := by kernel_rfl
theorem cells_pts : Try.prog.cellsOf 30 = 13 := by kernel_rfl
theorem lenn1 {α : Type} {l : List α} (h : l.length = 1) : ∃ c0, l = [c0] := by
  match l, h with
  | [c0], _ => exact ⟨c0, rfl⟩
theorem lenn2 {α : Type} {l : List α} (h : l.length = 2) : ∃ c0 c1, l = [c0, c1] := by
  match l, h with
  | [c0, c1], _ => exact ⟨c0, c1, rfl⟩
theorem lenn3 {α : Type} {l : List α} (h : l.length = 3) : ∃ c0 c1 c2, l = [c0, c1, c2] := by
  match l, h with
  | [c0, c1, c2], _ => exact ⟨c0, c1, c2, rfl⟩
theorem locEnv_app (ls r : List Ex.Loc) : Env.le (locEnv ls) (locEnv (ls ++ r)) := fun b X h => by
  have hb : b < ls.length := by
    rcases Nat.lt_or_ge b ls.length with q | q
    · exact q
    · simp only [locEnv] at h; rw [List.getElem?_eq_none q] at h; cases h
  simp only [locEnv] at h ⊢
  rw [List.getElem?_append_left hb]; exact h
def HRow (W : World) (L : Ex.Loc) (n m : Nat) (v : Value) (css : List (List Value)) : Prop := ∀ ls : List Ex.Loc, relA (locEnv (ls ++ [L])) (.val false [.sl ls.length 0 n m]) v ∧ ∀ chs l r, css.flatten = l ++ r → relL (locEnv (ls ++ [L])) chs l → relB (locEnv (ls ++ [L])) (roB chs) ls.length W
theorem sums_put {W : World} {v1 v2 : Value} {LK LP : Ex.Loc} {n M n' M' : Nat} {css cps : List (List Value)} (hltK : ∀ B q, LK = Ex.Loc.at_ B q → B < W.heap.size) (hltP : ∀ B q, LP = Ex.Loc.at_ B q → B < W.heap.size) (hK : HRow W LK n M v1 css) (hP : HRow W LP n' M' v2 cps)
    {ls : List Ex.Loc} {bs : List Blk} (A : ArgsOk W ls bs) {chs pch : List Ch} {l r l' r' : List Value} (e : css.flatten = l ++ r) (e' : cps.flatten = l' ++ r') (hr : relL (locEnv ls) chs l) (hp : relL (locEnv ls) pch l')
    (hc : CanOk Try.prog 3 [slA ls.length 0 n M, slA (ls ++ [LK]).length 0 n' M'] (enumH 0 (bs ++ [roB chs] ++ [roB pch])) (bs ++ [roB chs] ++ [roB pch]).length [] (boolA true) []) :
    ∃ ls bs args, ArgsOk W ls bs ∧ relAs (locEnv ls) args [v1, v2] ∧ CanOk Try.prog 3 args (enumH 0 bs) bs.length [] (boolA true) [] := by
  have A1 := A.snoc ((hK ls).2 chs l r e (relL_mono (locEnv_le ls LK) hr)) rfl hltK
  have A2 := A1.snoc ((hP (ls ++ [LK])).2 pch l' r' e' (relL_mono (locEnv_le _ LP) (relL_mono (locEnv_le ls LK) hp))) rfl hltP
  have ha : relAs (locEnv (ls ++ [LK] ++ [LP])) [slA ls.length 0 n M, slA (ls ++ [LK]).length 0 n' M'] [v1, v2] := ⟨v1, _, relA_mono (locEnv_le _ LP) (hK ls).1, ⟨v2, _, (hP (ls ++ [LK])).1, rfl, rfl⟩, rfl⟩
  exact ⟨_, _, _, A2, ha, hc⟩
theorem relL_nil {β : Env} : relL β [] [] := rfl
theorem v_rel {β : Env} (oa : Option Addr) (n m : Nat) : relC β (.v (.slice oa n m)) [.slice oa n m] := ⟨rfl, rfl, trivial⟩
theorem v_row {β : Env} {cs : List Ch} {l : List Value} (oa : Option Addr) (n m : Nat) (h : relL β cs l) : relL β (.v (.slice oa n m) :: cs) ([.slice oa n m] ++ l) := ⟨_, _, v_rel oa n m, h, rfl⟩
theorem c_row {β : Env} {c : Ch} {v : Value} {cs : List Ch} {l : List Value} (h1 : relC β c [v]) (h : relL β cs l) : relL β (c :: cs) ([v] ++ l) := ⟨_, _, h1, h, rfl⟩
section
variable {n m n' m' : Nat} (bn : hasB .i64 (n : Int) = true) (bn' : hasB .i64 (n' : Int) = true)
include bn bn'
theorem can_long (h : 3 < n ∨ 3 < n') : CanOk Try.prog 3 [slA 0 0 n m, slA 1 0 n' m'] [(0, some (roB [])), (1, some (roB []))] 2 [] (boolA true) [] := by
  by_cases h3 : 3 < n
  · exact can_val (can_run STcok KGok Try.func3 (by kernel_rfl) (by kernel_rfl) (su_l1 n m n' m') (by kernel_rfl) ⟨bn, decide_eq_true (by omega), trivial⟩) fun _ _ q => b_true q
  · exact can_val (can_run STcok KGok Try.func3 (by kernel_rfl) (by kernel_rfl) (su_l2 n m n' m') (by kernel_rfl) ⟨bn, decide_eq_false (by omega), bn', decide_eq_true (by omega), trivial⟩) fun _ _ q => b_true q
end
theorem can_b0 {n m n' m' : Nat} (bn : hasB .i64 (n : Int) = true) (bn' : hasB .i64 (n' : Int) = true) (h3 : ¬ 3 < n) (h3' : ¬ 3 < n') (hi : 0 < n) {a0 : Option Addr} {n0 m0 : Nat} (b0 : hasB .i64 (n0 : Int) = true) (q0 : 1 < n0) : CanOk Try.prog 3 [slA 0 0 n m, slA 1 0 n' m'] [(0, some (roB [.v (.slice a0 n0 m0)])), (1, some (roB []))] 2 [] (boolA true) [] :=
  can_val (can_run STcok KGok Try.func3 (by kernel_rfl) (by kernel_rfl) (su_b0 n m n' m' a0 n0 m0) (by kernel_rfl) ⟨bn, decide_eq_false (by omega), bn', decide_eq_false (by omega), ⟨bn, decide_eq_true (by omega), decide_eq_true (by omega), b0, decide_eq_true (by omega), trivial⟩⟩) fun _ _ q => b_true q
theorem can_b1 {n m n' m' : Nat} (bn : hasB .i64 (n : Int) = true) (bn' : hasB .i64 (n' : Int) = true) (h3 : ¬ 3 < n) (h3' : ¬ 3 < n') (hi : 1 < n) {a0 : Option Addr} {n0 m0 : Nat} (b0 : hasB .i64 (n0 : Int) = true) {a1 : Option Addr} {n1 m1 : Nat} (b1 : hasB .i64 (n1 : Int) = true) (q0 : ¬ 1 < n0) (q1 : 1 < n1) : CanOk Try.prog 3 [slA 0 0 n m, slA 1 0 n' m'] [(0, some (roB [.v (.slice a0 n0 m0), .v (.slice a1 n1 m1)])), (1, some (roB []))] 2 [] (boolA true) [] :=
  can_val (can_run STcok KGok Try.func3 (by kernel_rfl) (by kernel_rfl) (su_b1 n m n' m' a0 a1 n0 m0 n1 m1) (by kernel_rfl) ⟨bn, decide_eq_false (by omega), bn', decide_eq_false (by omega), ⟨bn, decide_eq_true (by omega), decide_eq_true (by omega), b0, decide_eq_false (by omega), ⟨bn, decide_eq_true (by omega), decide_eq_true (by omega), b1, decide_eq_true (by omega), trivial⟩⟩⟩) fun _ _ q => b_true q
theorem can_b2 {n m n' m' : Nat} (bn : hasB .i64 (n : Int) = true) (bn' : hasB .i64 (n' : Int) = true) (h3 : ¬ 3 < n) (h3' : ¬ 3 < n') (hi : 2 < n) {a0 : Option Addr} {n0 m0 : Nat} (b0 : hasB .i64 (n0 : Int) = true) {a1 : Option Addr} {n1 m1 : Nat} (b1 : hasB .i64 (n1 : Int) = true) {a2 : Option Addr} {n2 m2 : Nat} (b2 : hasB .i64 (n2 : Int) = true) (q0 : ¬ 1 < n0) (q1 : ¬ 1 < n1) (q2 : 1 < n2) : CanOk Try.prog 3 [slA 0 0 n m, slA 1 0 n' m'] [(0, some (roB [.v (.slice a0 n0 m0), .v (.slice a1 n1 m1), .v (.slice a2 n2 m2)])), (1, some (roB []))] 2 [] (boolA true) [] :=
  can_val (can_run STcok KGok Try.func3 (by kernel_rfl) (by kernel_rfl) (su_b2 n m n' m' a0 a1 a2 n0 m0 n1 m1 n2 m2) (by kernel_rfl) ⟨bn, decide_eq_false (by omega), bn', decide_eq_false (by omega), ⟨bn, decide_eq_true (by omega), decide_eq_true (by omega), b0, decide_eq_false (by omega), ⟨bn, decide_eq_true (by omega), decide_eq_true (by omega), b1, decide_eq_false (by omega), ⟨bn, decide_eq_true (by omega), decide_eq_true (by omega), b2, decide_eq_true (by omega), trivial⟩⟩⟩⟩) fun _ _ q => b_true q
theorem can_d0 {m n' m' : Nat} (bn' : hasB .i64 (n' : Int) = true) (h3' : ¬ 3 < n') (hne : n' ≠ 0)   : CanOk Try.prog 3 [slA 0 0 0 m, slA 1 0 n' m'] [(0, some (roB [])), (1, some (roB []))] 2 [] (boolA true) [] := by
  have d : (!decide (((0 : Nat) : Int) = n')) = true := by rw [decide_eq_false (by omega)]; rfl
  exact can_val (can_run STcok KGok Try.func3 (by kernel_rfl) (by kernel_rfl) (su_d0 m n' m'  ) (by kernel_rfl) ⟨rfl, rfl, bn', decide_eq_false (by omega), ⟨rfl, rfl, rfl, bn', d, rfl, bn', d, rfl, trivial⟩⟩) fun _ _ q => b_true q
theorem can_d1 {m n' m' : Nat} (bn' : hasB .i64 (n' : Int) = true) (h3' : ¬ 3 < n') (hne : n' ≠ 1) {a0 : Option Addr} {n0 m0 : Nat} (b0 : hasB .i64 (n0 : Int) = true) (q0 : ¬ 1 < n0) : CanOk Try.prog 3 [slA 0 0 1 m, slA 1 0 n' m'] [(0, some (roB [.v (.slice a0 n0 m0)])), (1, some (roB []))] 2 [] (boolA true) [] := by
  have d : (!decide (((1 : Nat) : Int) = n')) = true := by rw [decide_eq_false (by omega)]; rfl
  exact can_val (can_run STcok KGok Try.func3 (by kernel_rfl) (by kernel_rfl) (su_d1 m n' m' a0 n0 m0) (by kernel_rfl) ⟨rfl, rfl, bn', decide_eq_false (by omega), tt_ok 3 ⟨b0, decide_eq_false (by omega), ⟨rfl, rfl, rfl, bn', d, rfl, bn', d, rfl, trivial⟩⟩⟩) fun _ _ q => b_true q
theorem can_d2 {m n' m' : Nat} (bn' : hasB .i64 (n' : Int) = true) (h3' : ¬ 3 < n') (hne : n' ≠ 2) {a0 : Option Addr} {n0 m0 : Nat} (b0 : hasB .i64 (n0 : Int) = true) {a1 : Option Addr} {n1 m1 : Nat} (b1 : hasB .i64 (n1 : Int) = true) (q0 : ¬ 1 < n0) (q1 : ¬ 1 < n1) : CanOk Try.prog 3 [slA 0 0 2 m, slA 1 0 n' m'] [(0, some (roB [.v (.slice a0 n0 m0), .v (.slice a1 n1 m1)])), (1, some (roB []))] 2 [] (boolA true) [] := by
  have d : (!decide (((2 : Nat) : Int) = n')) = true := by rw [decide_eq_false (by omega)]; rfl
  exact can_val (can_run STcok KGok Try.func3 (by kernel_rfl) (by kernel_rfl) (su_d2 m n' m' a0 a1 n0 m0 n1 m1) (by kernel_rfl) ⟨rfl, rfl, bn', decide_eq_false (by omega), tt_ok 3 ⟨b0, decide_eq_false (by omega), tt_ok 3 ⟨b1, decide_eq_false (by omega), ⟨rfl, rfl, rfl, bn', d, rfl, bn', d, rfl, trivial⟩⟩⟩⟩) fun _ _ q => b_true q
theorem can_d3 {m n' m' : Nat} (bn' : hasB .i64 (n' : Int) = true) (h3' : ¬ 3 < n') (hne : n' ≠ 3) {a0 : Option Addr} {n0 m0 : Nat} (b0 : hasB .i64 (n0 : Int) = true) {a1 : Option Addr} {n1 m1 : Nat} (b1 : hasB .i64 (n1 : Int) = true) {a2 : Option Addr} {n2 m2 : Nat} (b2 : hasB .i64 (n2 : Int) = true) (q0 : ¬ 1 < n0) (q1 : ¬ 1 < n1) (q2 : ¬ 1 < n2) : CanOk Try.prog 3 [slA 0 0 3 m, slA 1 0 n' m'] [(0, some (roB [.v (.slice a0 n0 m0), .v (.slice a1 n1 m1), .v (.slice a2 n2 m2)])), (1, some (roB []))] 2 [] (boolA true) [] := by
  have d : (!decide (((3 : Nat) : Int) = n')) = true := by rw [decide_eq_false (by omega)]; rfl
  exact can_val (can_run STcok KGok Try.func3 (by kernel_rfl) (by kernel_rfl) (su_d3 m n' m' a0 a1 a2 n0 m0 n1 m1 n2 m2) (by kernel_rfl) ⟨rfl, rfl, bn', decide_eq_false (by omega), tt_ok 3 ⟨b0, decide_eq_false (by omega), tt_ok 3 ⟨b1, decide_eq_false (by omega), tt_ok 3 ⟨b2, decide_eq_false (by omega), ⟨rfl, rfl, rfl, bn', d, rfl, bn', d, rfl, trivial⟩⟩⟩⟩⟩) fun _ _ q => b_true q
theorem g1Sums_walk : LawWalk Try.prog 3 Try.f3 := walk_can fun H enc us W base ds ps hv hA => by
  have hp : Try.f3.params.toList = [22, 23] := by kernel_rfl
  have hp' : Try.f3.params = #[22, 23] := by kernel_rfl
  rw [hp] at hA
  rw [hp'] at hv
  obtain ⟨v1, us1, d1, ds1, p1, q1, rfl, rfl, t1, hA⟩ := args_cons hA
  obtain ⟨v2, us2, d2, ds2, p2, q2, rfl, rfl, t2, hA⟩ := args_cons hA
  obtain rfl := args0 hA rfl
  obtain ⟨LK, n, M, css, hcl, _, hml, hltK, hrows, hK⟩ := rows_arg under_rows cells_rows1 (hv 0 _ v1 rfl rfl) t1
  obtain ⟨LP, n', M', cps, hcl', _, hml', hltP, hpts, hP⟩ := rows_arg under_pts cells_pts (hv 1 _ v2 rfl rfl) t2
  have bn := len_has hml
  have bn' := len_has hml'
  have hK : HRow W LK n M v1 css := hK
  have hP : HRow W LP n' M' v2 cps := hP
  have A0 := ArgsOk.nil W
  by_cases h : 3 < n ∨ 3 < n'
  · exact sums_put hltK hltP hK hP A0 (chs := []) (pch := []) (l := []) (l' := []) rfl rfl relL_nil relL_nil (can_long bn bn' h)
  have h3 : ¬ 3 < n := fun q => h (.inl q)
  have h3' : ¬ 3 < n' := fun q => h (.inr q)
  have hw : ∀ cs ∈ css, _ := fun cs hcs => let ⟨_, _, hy⟩ := (hrows cs hcs).2; words_cell hy
  have hg : ∀ cs ∈ cps, _ := fun cs hcs => let ⟨_, _, hy⟩ := (hpts cs hcs).2; g1_cells hy
  by_cases k0 : n = 0
  · subst k0
    obtain rfl := List.length_eq_zero_iff.1 hcl
    by_cases hne : n' ≠ 0
    · exact sums_put hltK hltP hK hP A0 (pch := []) (l := []) (r := []) (l' := []) rfl rfl relL_nil relL_nil (can_d0 bn' h3' hne  )
    have hne : n' = 0 := by omega
    subst hne
    obtain rfl := List.length_eq_zero_iff.1 hcl'
    exact sums_put hltK hltP hK hP A0 (pch := []) (l := []) (r := []) (l' := []) (r' := []) (by simp) (by simp) relL_nil relL_nil (su_z )
  by_cases k1 : n = 1
  · subst k1
    obtain ⟨c0, rfl⟩ := lenn1 hcl
    obtain ⟨a0, n0, m0, rfl, b0, o0⟩ := hw c0 (by simp)
    by_cases q0 : 1 < n0
    · exact sums_put hltK hltP hK hP A0 (pch := []) (l := [.slice a0 n0 m0] ++ []) (r := []) (l' := []) rfl rfl (v_row a0 n0 m0 relL_nil) relL_nil (can_b0 bn bn' h3 h3' (by decide) b0 q0)
    by_cases hne : n' ≠ 1
    · exact sums_put hltK hltP hK hP A0 (pch := []) (l := [.slice a0 n0 m0] ++ []) (r := []) (l' := []) rfl rfl (v_row a0 n0 m0 relL_nil) relL_nil (can_d1 bn' h3' hne b0 q0)
    have hne : n' = 1 := by omega
    subst hne
    obtain ⟨d0, rfl⟩ := lenn1 hcl'
    obtain ⟨x0, y0, i0, g0⟩ := hg d0 (by simp)
    by_cases w0 : n0 = 1
    · subst w0
      obtain ⟨L0, z0, _, h0, lt0, r0⟩ := o0 rfl
      have s0 : relC (locEnv [L0]) (.sl 0 0 1 m0) [.slice a0 1 m0] := (r0 []).1
      have A1 : ArgsOk W [L0] [roB [.seq .u64 z0]] := A0.snoc (r0 []).2 rfl lt0
      exact sums_put hltK hltP hK hP A1 (pch := [.num 6 x0, .num 6 y0, .v (.bool i0)]) (l := [.slice a0 1 m0] ++ []) (r := []) (l' := d0 ++ []) (r' := []) (by simp) (by simp) (c_row (show relC (locEnv [L0]) (.sl 0 0 1 m0) [.slice a0 1 m0] from relC_mono (locEnv_app [L0] []) s0) relL_nil) (relL_append (g0 _) relL_nil) (su_o h0)
    · have w0 : n0 = 0 := by omega
      subst w0
      exact sums_put hltK hltP hK hP A0 (pch := [.num 6 x0, .num 6 y0, .v (.bool i0)]) (l := [.slice a0 0 m0] ++ []) (r := []) (l' := d0 ++ []) (r' := []) (by simp) (by simp) (v_row a0 0 m0 relL_nil) (relL_append (g0 _) relL_nil) (su_e )
  by_cases k2 : n = 2
  · subst k2
    obtain ⟨c0, c1, rfl⟩ := lenn2 hcl
    obtain ⟨a0, n0, m0, rfl, b0, o0⟩ := hw c0 (by simp)
    obtain ⟨a1, n1, m1, rfl, b1, o1⟩ := hw c1 (by simp)
    by_cases q0 : 1 < n0
    · exact sums_put hltK hltP hK hP A0 (pch := []) (l := [.slice a0 n0 m0] ++ []) (r := [.slice a1 n1 m1]) (l' := []) rfl rfl (v_row a0 n0 m0 relL_nil) relL_nil (can_b0 bn bn' h3 h3' (by decide) b0 q0)
    by_cases q1 : 1 < n1
    · exact sums_put hltK hltP hK hP A0 (pch := []) (l := [.slice a0 n0 m0] ++ ([.slice a1 n1 m1] ++ [])) (r := []) (l' := []) rfl rfl (v_row a0 n0 m0 (v_row a1 n1 m1 relL_nil)) relL_nil (can_b1 bn bn' h3 h3' (by decide) b0 b1 q0 q1)
    by_cases hne : n' ≠ 2
    · exact sums_put hltK hltP hK hP A0 (pch := []) (l := [.slice a0 n0 m0] ++ ([.slice a1 n1 m1] ++ [])) (r := []) (l' := []) rfl rfl (v_row a0 n0 m0 (v_row a1 n1 m1 relL_nil)) relL_nil (can_d2 bn' h3' hne b0 b1 q0 q1)
    have hne : n' = 2 := by omega
    subst hne
    obtain ⟨d0, d1, rfl⟩ := lenn2 hcl'
    obtain ⟨x0, y0, i0, g0⟩ := hg d0 (by simp)
    obtain ⟨x1, y1, i1, g1⟩ := hg d1 (by simp)
    by_cases w0 : n0 = 1
    · subst w0
      obtain ⟨L0, z0, _, h0, lt0, r0⟩ := o0 rfl
      have s0 : relC (locEnv [L0]) (.sl 0 0 1 m0) [.slice a0 1 m0] := (r0 []).1
      have A1 : ArgsOk W [L0] [roB [.seq .u64 z0]] := A0.snoc (r0 []).2 rfl lt0
      by_cases w1 : n1 = 1
      · subst w1
        obtain ⟨L1, z1, _, h1, lt1, r1⟩ := o1 rfl
        have s1 : relC (locEnv [L0, L1]) (.sl 1 0 1 m1) [.slice a1 1 m1] := (r1 [L0]).1
        have A2 : ArgsOk W [L0, L1] [roB [.seq .u64 z0], roB [.seq .u64 z1]] := A1.snoc (r1 [L0]).2 rfl lt1
        exact sums_put hltK hltP hK hP A2 (pch := [.num 6 x0, .num 6 y0, .v (.bool i0), .num 6 x1, .num 6 y1, .v (.bool i1)]) (l := [.slice a0 1 m0] ++ ([.slice a1 1 m1] ++ [])) (r := []) (l' := d0 ++ (d1 ++ [])) (r' := []) (by simp) (by simp) (c_row (show relC (locEnv [L0, L1]) (.sl 0 0 1 m0) [.slice a0 1 m0] from relC_mono (locEnv_app [L0] [L1]) s0) (c_row (show relC (locEnv [L0, L1]) (.sl 1 0 1 m1) [.slice a1 1 m1] from relC_mono (locEnv_app [L0, L1] []) s1) relL_nil)) (relL_append (g0 _) (relL_append (g1 _) relL_nil)) (su_oo h0 h1)
      · have w1 : n1 = 0 := by omega
        subst w1
        exact sums_put hltK hltP hK hP A1 (pch := [.num 6 x0, .num 6 y0, .v (.bool i0), .num 6 x1, .num 6 y1, .v (.bool i1)]) (l := [.slice a0 1 m0] ++ ([.slice a1 0 m1] ++ [])) (r := []) (l' := d0 ++ (d1 ++ [])) (r' := []) (by simp) (by simp) (c_row (show relC (locEnv [L0]) (.sl 0 0 1 m0) [.slice a0 1 m0] from relC_mono (locEnv_app [L0] []) s0) (v_row a1 0 m1 relL_nil)) (relL_append (g0 _) (relL_append (g1 _) relL_nil)) (su_oe h0)
    · have w0 : n0 = 0 := by omega
      subst w0
      by_cases w1 : n1 = 1
      · subst w1
        obtain ⟨L1, z1, _, h1, lt1, r1⟩ := o1 rfl
        have s1 : relC (locEnv [L1]) (.sl 0 0 1 m1) [.slice a1 1 m1] := (r1 []).1
        have A1 : ArgsOk W [L1] [roB [.seq .u64 z1]] := A0.snoc (r1 []).2 rfl lt1
        exact sums_put hltK hltP hK hP A1 (pch := [.num 6 x0, .num 6 y0, .v (.bool i0), .num 6 x1, .num 6 y1, .v (.bool i1)]) (l := [.slice a0 0 m0] ++ ([.slice a1 1 m1] ++ [])) (r := []) (l' := d0 ++ (d1 ++ [])) (r' := []) (by simp) (by simp) (v_row a0 0 m0 (c_row (show relC (locEnv [L1]) (.sl 0 0 1 m1) [.slice a1 1 m1] from relC_mono (locEnv_app [L1] []) s1) relL_nil)) (relL_append (g0 _) (relL_append (g1 _) relL_nil)) (su_eo h1)
      · have w1 : n1 = 0 := by omega
        subst w1
        exact sums_put hltK hltP hK hP A0 (pch := [.num 6 x0, .num 6 y0, .v (.bool i0), .num 6 x1, .num 6 y1, .v (.bool i1)]) (l := [.slice a0 0 m0] ++ ([.slice a1 0 m1] ++ [])) (r := []) (l' := d0 ++ (d1 ++ [])) (r' := []) (by simp) (by simp) (v_row a0 0 m0 (v_row a1 0 m1 relL_nil)) (relL_append (g0 _) (relL_append (g1 _) relL_nil)) (su_ee )
  by_cases k3 : n = 3
  · subst k3
    obtain ⟨c0, c1, c2, rfl⟩ := lenn3 hcl
    obtain ⟨a0, n0, m0, rfl, b0, o0⟩ := hw c0 (by simp)
    obtain ⟨a1, n1, m1, rfl, b1, o1⟩ := hw c1 (by simp)
    obtain ⟨a2, n2, m2, rfl, b2, o2⟩ := hw c2 (by simp)
    by_cases q0 : 1 < n0
    · exact sums_put hltK hltP hK hP A0 (pch := []) (l := [.slice a0 n0 m0] ++ []) (r := [.slice a1 n1 m1] ++ [.slice a2 n2 m2]) (l' := []) rfl rfl (v_row a0 n0 m0 relL_nil) relL_nil (can_b0 bn bn' h3 h3' (by decide) b0 q0)
    by_cases q1 : 1 < n1
    · exact sums_put hltK hltP hK hP A0 (pch := []) (l := [.slice a0 n0 m0] ++ ([.slice a1 n1 m1] ++ [])) (r := [.slice a2 n2 m2]) (l' := []) rfl rfl (v_row a0 n0 m0 (v_row a1 n1 m1 relL_nil)) relL_nil (can_b1 bn bn' h3 h3' (by decide) b0 b1 q0 q1)
    by_cases q2 : 1 < n2
    · exact sums_put hltK hltP hK hP A0 (pch := []) (l := [.slice a0 n0 m0] ++ ([.slice a1 n1 m1] ++ ([.slice a2 n2 m2] ++ []))) (r := []) (l' := []) rfl rfl (v_row a0 n0 m0 (v_row a1 n1 m1 (v_row a2 n2 m2 relL_nil))) relL_nil (can_b2 bn bn' h3 h3' (by decide) b0 b1 b2 q0 q1 q2)
    by_cases hne : n' ≠ 3
    · exact sums_put hltK hltP hK hP A0 (pch := []) (l := [.slice a0 n0 m0] ++ ([.slice a1 n1 m1] ++ ([.slice a2 n2 m2] ++ []))) (r := []) (l' := []) rfl rfl (v_row a0 n0 m0 (v_row a1 n1 m1 (v_row a2 n2 m2 relL_nil))) relL_nil (can_d3 bn' h3' hne b0 b1 b2 q0 q1 q2)
    have hne : n' = 3 := by omega
    subst hne
    obtain ⟨d0, d1, d2, rfl⟩ := lenn3 hcl'
    obtain ⟨x0, y0, i0, g0⟩ := hg d0 (by simp)
    obtain ⟨x1, y1, i1, g1⟩ := hg d1 (by simp)
    obtain ⟨x2, y2, i2, g2⟩ := hg d2 (by simp)
    by_cases w0 : n0 = 1
    · subst w0
      obtain ⟨L0, z0, _, h0, lt0, r0⟩ := o0 rfl
      have s0 : relC (locEnv [L0]) (.sl 0 0 1 m0) [.slice a0 1 m0] := (r0 []).1
      have A1 : ArgsOk W [L0] [roB [.seq .u64 z0]] := A0.snoc (r0 []).2 rfl lt0
      by_cases w1 : n1 = 1
      · subst w1
        obtain ⟨L1, z1, _, h1, lt1, r1⟩ := o1 rfl
        have s1 : relC (locEnv [L0, L1]) (.sl 1 0 1 m1) [.slice a1 1 m1] := (r1 [L0]).1
        have A2 : ArgsOk W [L0, L1] [roB [.seq .u64 z0], roB [.seq .u64 z1]] := A1.snoc (r1 [L0]).2 rfl lt1
        by_cases w2 : n2 = 1
        · subst w2
          obtain ⟨L2, z2, _, h2, lt2, r2⟩ := o2 rfl
          have s2 : relC (locEnv [L0, L1, L2]) (.sl 2 0 1 m2) [.slice a2 1 m2] := (r2 [L0, L1]).1
          have A3 : ArgsOk W [L0, L1, L2] [roB [.seq .u64 z0], roB [.seq .u64 z1], roB [.seq .u64 z2]] := A2.snoc (r2 [L0, L1]).2 rfl lt2
          exact sums_put hltK hltP hK hP A3 (pch := [.num 6 x0, .num 6 y0, .v (.bool i0), .num 6 x1, .num 6 y1, .v (.bool i1), .num 6 x2, .num 6 y2, .v (.bool i2)]) (l := [.slice a0 1 m0] ++ ([.slice a1 1 m1] ++ ([.slice a2 1 m2] ++ []))) (r := []) (l' := d0 ++ (d1 ++ (d2 ++ []))) (r' := []) (by simp) (by simp) (c_row (show relC (locEnv [L0, L1, L2]) (.sl 0 0 1 m0) [.slice a0 1 m0] from relC_mono (locEnv_app [L0] [L1, L2]) s0) (c_row (show relC (locEnv [L0, L1, L2]) (.sl 1 0 1 m1) [.slice a1 1 m1] from relC_mono (locEnv_app [L0, L1] [L2]) s1) (c_row (show relC (locEnv [L0, L1, L2]) (.sl 2 0 1 m2) [.slice a2 1 m2] from relC_mono (locEnv_app [L0, L1, L2] []) s2) relL_nil))) (relL_append (g0 _) (relL_append (g1 _) (relL_append (g2 _) relL_nil))) (su_ooo h0 h1 h2)
        · have w2 : n2 = 0 := by omega
          subst w2
          exact sums_put hltK hltP hK hP A2 (pch := [.num 6 x0, .num 6 y0, .v (.bool i0), .num 6 x1, .num 6 y1, .v (.bool i1), .num 6 x2, .num 6 y2, .v (.bool i2)]) (l := [.slice a0 1 m0] ++ ([.slice a1 1 m1] ++ ([.slice a2 0 m2] ++ []))) (r := []) (l' := d0 ++ (d1 ++ (d2 ++ []))) (r' := []) (by simp) (by simp) (c_row (show relC (locEnv [L0, L1]) (.sl 0 0 1 m0) [.slice a0 1 m0] from relC_mono (locEnv_app [L0] [L1]) s0) (c_row (show relC (locEnv [L0, L1]) (.sl 1 0 1 m1) [.slice a1 1 m1] from relC_mono (locEnv_app [L0, L1] []) s1) (v_row a2 0 m2 relL_nil))) (relL_append (g0 _) (relL_append (g1 _) (relL_append (g2 _) relL_nil))) (su_ooe h0 h1)
      · have w1 : n1 = 0 := by omega
        subst w1
        by_cases w2 : n2 = 1
        · subst w2
          obtain ⟨L2, z2, _, h2, lt2, r2⟩ := o2 rfl
          have s2 : relC (locEnv [L0, L2]) (.sl 1 0 1 m2) [.slice a2 1 m2] := (r2 [L0]).1
          have A2 : ArgsOk W [L0, L2] [roB [.seq .u64 z0], roB [.seq .u64 z2]] := A1.snoc (r2 [L0]).2 rfl lt2
          exact sums_put hltK hltP hK hP A2 (pch := [.num 6 x0, .num 6 y0, .v (.bool i0), .num 6 x1, .num 6 y1, .v (.bool i1), .num 6 x2, .num 6 y2, .v (.bool i2)]) (l := [.slice a0 1 m0] ++ ([.slice a1 0 m1] ++ ([.slice a2 1 m2] ++ []))) (r := []) (l' := d0 ++ (d1 ++ (d2 ++ []))) (r' := []) (by simp) (by simp) (c_row (show relC (locEnv [L0, L2]) (.sl 0 0 1 m0) [.slice a0 1 m0] from relC_mono (locEnv_app [L0] [L2]) s0) (v_row a1 0 m1 (c_row (show relC (locEnv [L0, L2]) (.sl 1 0 1 m2) [.slice a2 1 m2] from relC_mono (locEnv_app [L0, L2] []) s2) relL_nil))) (relL_append (g0 _) (relL_append (g1 _) (relL_append (g2 _) relL_nil))) (su_oeo h0 h2)
        · have w2 : n2 = 0 := by omega
          subst w2
          exact sums_put hltK hltP hK hP A1 (pch := [.num 6 x0, .num 6 y0, .v (.bool i0), .num 6 x1, .num 6 y1, .v (.bool i1), .num 6 x2, .num 6 y2, .v (.bool i2)]) (l := [.slice a0 1 m0] ++ ([.slice a1 0 m1] ++ ([.slice a2 0 m2] ++ []))) (r := []) (l' := d0 ++ (d1 ++ (d2 ++ []))) (r' := []) (by simp) (by simp) (c_row (show relC (locEnv [L0]) (.sl 0 0 1 m0) [.slice a0 1 m0] from relC_mono (locEnv_app [L0] []) s0) (v_row a1 0 m1 (v_row a2 0 m2 relL_nil))) (relL_append (g0 _) (relL_append (g1 _) (relL_append (g2 _) relL_nil))) (su_oee h0)
    · have w0 : n0 = 0 := by omega
      subst w0
      by_cases w1 : n1 = 1
      · subst w1
        obtain ⟨L1, z1, _, h1, lt1, r1⟩ := o1 rfl
        have s1 : relC (locEnv [L1]) (.sl 0 0 1 m1) [.slice a1 1 m1] := (r1 []).1
        have A1 : ArgsOk W [L1] [roB [.seq .u64 z1]] := A0.snoc (r1 []).2 rfl lt1
        by_cases w2 : n2 = 1
        · subst w2
          obtain ⟨L2, z2, _, h2, lt2, r2⟩ := o2 rfl
          have s2 : relC (locEnv [L1, L2]) (.sl 1 0 1 m2) [.slice a2 1 m2] := (r2 [L1]).1
          have A2 : ArgsOk W [L1, L2] [roB [.seq .u64 z1], roB [.seq .u64 z2]] := A1.snoc (r2 [L1]).2 rfl lt2
          exact sums_put hltK hltP hK hP A2 (pch := [.num 6 x0, .num 6 y0, .v (.bool i0), .num 6 x1, .num 6 y1, .v (.bool i1), .num 6 x2, .num 6 y2, .v (.bool i2)]) (l := [.slice a0 0 m0] ++ ([.slice a1 1 m1] ++ ([.slice a2 1 m2] ++ []))) (r := []) (l' := d0 ++ (d1 ++ (d2 ++ []))) (r' := []) (by simp) (by simp) (v_row a0 0 m0 (c_row (show relC (locEnv [L1, L2]) (.sl 0 0 1 m1) [.slice a1 1 m1] from relC_mono (locEnv_app [L1] [L2]) s1) (c_row (show relC (locEnv [L1, L2]) (.sl 1 0 1 m2) [.slice a2 1 m2] from relC_mono (locEnv_app [L1, L2] []) s2) relL_nil))) (relL_append (g0 _) (relL_append (g1 _) (relL_append (g2 _) relL_nil))) (su_eoo h1 h2)
        · have w2 : n2 = 0 := by omega
          subst w2
          exact sums_put hltK hltP hK hP A1 (pch := [.num 6 x0, .num 6 y0, .v (.bool i0), .num 6 x1, .num 6 y1, .v (.bool i1), .num 6 x2, .num 6 y2, .v (.bool i2)]) (l := [.slice a0 0 m0] ++ ([.slice a1 1 m1] ++ ([.slice a2 0 m2] ++ []))) (r := []) (l' := d0 ++ (d1 ++ (d2 ++ []))) (r' := []) (by simp) (by simp) (v_row a0 0 m0 (c_row (show relC (locEnv [L1]) (.sl 0 0 1 m1) [.slice a1 1 m1] from relC_mono (locEnv_app [L1] []) s1) (v_row a2 0 m2 relL_nil))) (relL_append (g0 _) (relL_append (g1 _) (relL_append (g2 _) relL_nil))) (su_eoe h1)
      · have w1 : n1 = 0 := by omega
        subst w1
        by_cases w2 : n2 = 1
        · subst w2
          obtain ⟨L2, z2, _, h2, lt2, r2⟩ := o2 rfl
          have s2 : relC (locEnv [L2]) (.sl 0 0 1 m2) [.slice a2 1 m2] := (r2 []).1
          have A1 : ArgsOk W [L2] [roB [.seq .u64 z2]] := A0.snoc (r2 []).2 rfl lt2
          exact sums_put hltK hltP hK hP A1 (pch := [.num 6 x0, .num 6 y0, .v (.bool i0), .num 6 x1, .num 6 y1, .v (.bool i1), .num 6 x2, .num 6 y2, .v (.bool i2)]) (l := [.slice a0 0 m0] ++ ([.slice a1 0 m1] ++ ([.slice a2 1 m2] ++ []))) (r := []) (l' := d0 ++ (d1 ++ (d2 ++ []))) (r' := []) (by simp) (by simp) (v_row a0 0 m0 (v_row a1 0 m1 (c_row (show relC (locEnv [L2]) (.sl 0 0 1 m2) [.slice a2 1 m2] from relC_mono (locEnv_app [L2] []) s2) relL_nil))) (relL_append (g0 _) (relL_append (g1 _) (relL_append (g2 _) relL_nil))) (su_eeo h2)
        · have w2 : n2 = 0 := by omega
          subst w2
          exact sums_put hltK hltP hK hP A0 (pch := [.num 6 x0, .num 6 y0, .v (.bool i0), .num 6 x1, .num 6 y1, .v (.bool i1), .num 6 x2, .num 6 y2, .v (.bool i2)]) (l := [.slice a0 0 m0] ++ ([.slice a1 0 m1] ++ ([.slice a2 0 m2] ++ []))) (r := []) (l' := d0 ++ (d1 ++ (d2 ++ []))) (r' := []) (by simp) (by simp) (v_row a0 0 m0 (v_row a1 0 m1 (v_row a2 0 m2 relL_nil))) (relL_append (g0 _) (relL_append (g1 _) (relL_append (g2 _) relL_nil))) (su_eee )
  omega
end Go.Proofs.Ytccmbnbphianbaa
