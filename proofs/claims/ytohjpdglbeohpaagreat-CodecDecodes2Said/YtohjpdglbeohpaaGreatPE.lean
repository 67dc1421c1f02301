/- Part 5 of the proof: Rg, Kf, Kg, Kh, Ki, Kj, Kk, Kl, Km, Kn, Ia, Ib, Ic, Id, Rh, Ha, Hb, Hc, He, Hf, Hd, Ja, Jb, Jc, Jd, Je, Jf, Oa, Ob, Oc, Od. -/
import Derived.Test.YtohjpdglbeohpaaGreatPD
import Derived.Test.YtohjpdglbeohpaaGreatPC
import Derived.Test.YtohjpdglbeohpaaGreatPB
/- Extensions of rings and fields: by a square root, by a cube root. -/
namespace Go.Proofs.YtohjpdglbeohpaaGreat.Rg
set_option maxRecDepth 100000
set_option maxHeartbeats 4000000
set_option synthInstance.maxSize 100000
set_option synthInstance.maxHeartbeats 400000
set_option maxHeartbeats 1000000

/-- a + b·s, with s·s = β. -/
structure Qx {F : Type} [CR F] (β : F) where
  a : F
  b : F
/-- a + b·v + c·v·v, with v·v·v = ξ. -/
structure Kx {F : Type} [CR F] (ξ : F) where
  a : F
  b : F
  c : F
section
variable {F : Type} [CR F] {β ξ : F}
theorem Qx.ext {x y : Qx β} (h1 : x.a = y.a) (h2 : x.b = y.b) : x = y := by cases x; cases y; simp_all
theorem Kx.ext {x y : Kx ξ} (h1 : x.a = y.a) (h2 : x.b = y.b) (h3 : x.c = y.c) : x = y := by cases x; cases y; simp_all
instance crQ : CR (Qx β) where
  add x y := ⟨x.a + y.a, x.b + y.b⟩
  mul x y := ⟨x.a * y.a + β * (x.b * y.b), x.a * y.b + x.b * y.a⟩
  neg x := ⟨-x.a, -x.b⟩
  sub x y := ⟨x.a - y.a, x.b - y.b⟩
  zero := ⟨0, 0⟩
  one := ⟨1, 0⟩
  add_assoc x y z := Qx.ext (add_assoc _ _ _) (add_assoc _ _ _)
  add_comm x y := Qx.ext (add_comm _ _) (add_comm _ _)
  zero_add x := Qx.ext (zero_add _) (zero_add _)
  neg_add x := Qx.ext (neg_add _) (neg_add _)
  mul_assoc x y z := Qx.ext (ring [x.a, x.b, y.a, y.b, z.a, z.b, β] (a := (x.a * y.a + β * (x.b * y.b)) * z.a + β * ((x.a * y.b + x.b * y.a) * z.b)) (b := x.a * (y.a * z.a + β * (y.b * z.b)) + β * (x.b * (y.a * z.b + y.b * z.a))) (by kernel_rfl))
    (ring [x.a, x.b, y.a, y.b, z.a, z.b, β] (a := (x.a * y.a + β * (x.b * y.b)) * z.b + (x.a * y.b + x.b * y.a) * z.a) (b := x.a * (y.a * z.b + y.b * z.a) + x.b * (y.a * z.a + β * (y.b * z.b))) (by kernel_rfl))
  mul_comm x y := Qx.ext (ring [x.a, x.b, y.a, y.b, β] (a := x.a * y.a + β * (x.b * y.b)) (b := y.a * x.a + β * (y.b * x.b)) (by kernel_rfl)) (ring [x.a, x.b, y.a, y.b] (a := x.a * y.b + x.b * y.a) (b := y.a * x.b + y.b * x.a) (by kernel_rfl))
  one_mul x := Qx.ext (ring [x.a, x.b, β] (a := 1 * x.a + β * (0 * x.b)) (by kernel_rfl)) (ring [x.a, x.b] (a := 1 * x.b + 0 * x.a) (by kernel_rfl))
  add_mul x y z := Qx.ext (ring [x.a, x.b, y.a, y.b, z.a, z.b, β] (a := (x.a + y.a) * z.a + β * ((x.b + y.b) * z.b)) (b := x.a * z.a + β * (x.b * z.b) + (y.a * z.a + β * (y.b * z.b))) (by kernel_rfl))
    (ring [x.a, x.b, y.a, y.b, z.a, z.b] (a := (x.a + y.a) * z.b + (x.b + y.b) * z.a) (b := x.a * z.b + x.b * z.a + (y.a * z.b + y.b * z.a)) (by kernel_rfl))
  sub_eq x y := Qx.ext (sub_eq _ _) (sub_eq _ _)
instance crK : CR (Kx ξ) where
  add x y := ⟨x.a + y.a, x.b + y.b, x.c + y.c⟩
  mul x y := ⟨x.a * y.a + ξ * (x.b * y.c + x.c * y.b), x.a * y.b + x.b * y.a + ξ * (x.c * y.c), x.a * y.c + x.b * y.b + x.c * y.a⟩
  neg x := ⟨-x.a, -x.b, -x.c⟩
  sub x y := ⟨x.a - y.a, x.b - y.b, x.c - y.c⟩
  zero := ⟨0, 0, 0⟩
  one := ⟨1, 0, 0⟩
  add_assoc x y z := Kx.ext (add_assoc _ _ _) (add_assoc _ _ _) (add_assoc _ _ _)
  add_comm x y := Kx.ext (add_comm _ _) (add_comm _ _) (add_comm _ _)
  zero_add x := Kx.ext (zero_add _) (zero_add _) (zero_add _)
  neg_add x := Kx.ext (neg_add _) (neg_add _) (neg_add _)
  mul_assoc x y z := Kx.ext
    (ring [x.a, x.b, x.c, y.a, y.b, y.c, z.a, z.b, z.c, ξ] (a := (x.a * y.a + ξ * (x.b * y.c + x.c * y.b)) * z.a + ξ * ((x.a * y.b + x.b * y.a + ξ * (x.c * y.c)) * z.c + (x.a * y.c + x.b * y.b + x.c * y.a) * z.b))
      (b := x.a * (y.a * z.a + ξ * (y.b * z.c + y.c * z.b)) + ξ * (x.b * (y.a * z.c + y.b * z.b + y.c * z.a) + x.c * (y.a * z.b + y.b * z.a + ξ * (y.c * z.c)))) (by kernel_rfl))
    (ring [x.a, x.b, x.c, y.a, y.b, y.c, z.a, z.b, z.c, ξ] (a := (x.a * y.a + ξ * (x.b * y.c + x.c * y.b)) * z.b + (x.a * y.b + x.b * y.a + ξ * (x.c * y.c)) * z.a + ξ * ((x.a * y.c + x.b * y.b + x.c * y.a) * z.c))
      (b := x.a * (y.a * z.b + y.b * z.a + ξ * (y.c * z.c)) + x.b * (y.a * z.a + ξ * (y.b * z.c + y.c * z.b)) + ξ * (x.c * (y.a * z.c + y.b * z.b + y.c * z.a))) (by kernel_rfl))
    (ring [x.a, x.b, x.c, y.a, y.b, y.c, z.a, z.b, z.c, ξ] (a := (x.a * y.a + ξ * (x.b * y.c + x.c * y.b)) * z.c + (x.a * y.b + x.b * y.a + ξ * (x.c * y.c)) * z.b + (x.a * y.c + x.b * y.b + x.c * y.a) * z.a)
      (b := x.a * (y.a * z.c + y.b * z.b + y.c * z.a) + x.b * (y.a * z.b + y.b * z.a + ξ * (y.c * z.c)) + x.c * (y.a * z.a + ξ * (y.b * z.c + y.c * z.b))) (by kernel_rfl))
  mul_comm x y := Kx.ext (ring [x.a, x.b, x.c, y.a, y.b, y.c, ξ] (a := x.a * y.a + ξ * (x.b * y.c + x.c * y.b)) (b := y.a * x.a + ξ * (y.b * x.c + y.c * x.b)) (by kernel_rfl))
    (ring [x.a, x.b, x.c, y.a, y.b, y.c, ξ] (a := x.a * y.b + x.b * y.a + ξ * (x.c * y.c)) (b := y.a * x.b + y.b * x.a + ξ * (y.c * x.c)) (by kernel_rfl))
    (ring [x.a, x.b, x.c, y.a, y.b, y.c] (a := x.a * y.c + x.b * y.b + x.c * y.a) (b := y.a * x.c + y.b * x.b + y.c * x.a) (by kernel_rfl))
  one_mul x := Kx.ext (ring [x.a, x.b, x.c, ξ] (a := 1 * x.a + ξ * (0 * x.c + 0 * x.b)) (by kernel_rfl)) (ring [x.a, x.b, x.c, ξ] (a := 1 * x.b + 0 * x.a + ξ * (0 * x.c)) (by kernel_rfl)) (ring [x.a, x.b, x.c] (a := 1 * x.c + 0 * x.b + 0 * x.a) (by kernel_rfl))
  add_mul x y z := Kx.ext (ring [x.a, x.b, x.c, y.a, y.b, y.c, z.a, z.b, z.c, ξ] (a := (x.a + y.a) * z.a + ξ * ((x.b + y.b) * z.c + (x.c + y.c) * z.b)) (b := x.a * z.a + ξ * (x.b * z.c + x.c * z.b) + (y.a * z.a + ξ * (y.b * z.c + y.c * z.b))) (by kernel_rfl))
    (ring [x.a, x.b, x.c, y.a, y.b, y.c, z.a, z.b, z.c, ξ] (a := (x.a + y.a) * z.b + (x.b + y.b) * z.a + ξ * ((x.c + y.c) * z.c)) (b := x.a * z.b + x.b * z.a + ξ * (x.c * z.c) + (y.a * z.b + y.b * z.a + ξ * (y.c * z.c))) (by kernel_rfl))
    (ring [x.a, x.b, x.c, y.a, y.b, y.c, z.a, z.b, z.c] (a := (x.a + y.a) * z.c + (x.b + y.b) * z.b + (x.c + y.c) * z.a) (b := x.a * z.c + x.b * z.b + x.c * z.a + (y.a * z.c + y.b * z.b + y.c * z.a)) (by kernel_rfl))
  sub_eq x y := Kx.ext (sub_eq _ _) (sub_eq _ _) (sub_eq _ _)
def Qx.conj (x : Qx β) : Qx β := ⟨x.a, -x.b⟩
def Qx.nrm (x : Qx β) : F := x.a * x.a - β * (x.b * x.b)
theorem Qx.mul_def (x y : Qx β) : x * y = ⟨x.a * y.a + β * (x.b * y.b), x.a * y.b + x.b * y.a⟩ := rfl
theorem Kx.mul_def (x y : Kx ξ) : x * y = ⟨x.a * y.a + ξ * (x.b * y.c + x.c * y.b), x.a * y.b + x.b * y.a + ξ * (x.c * y.c), x.a * y.c + x.b * y.b + x.c * y.a⟩ := rfl
theorem Qx.conj_mul (x y : Qx β) : (x * y).conj = x.conj * y.conj :=
  Qx.ext (ring [x.a, x.b, y.a, y.b, β] (a := x.a * y.a + β * (x.b * y.b)) (b := x.a * y.a + β * (-x.b * -y.b)) (by kernel_rfl)) (ring [x.a, x.b, y.a, y.b] (a := -(x.a * y.b + x.b * y.a)) (b := x.a * -y.b + -x.b * y.a) (by kernel_rfl))
theorem Qx.mul_conj (x : Qx β) : x * x.conj = ⟨x.nrm, 0⟩ :=
  Qx.ext (ring [x.a, x.b, β] (a := x.a * x.a + β * (x.b * -x.b)) (b := x.a * x.a - β * (x.b * x.b)) (by kernel_rfl)) (ring [x.a, x.b] (a := x.a * -x.b + x.b * x.a) (b := 0) (by kernel_rfl))
theorem Qx.nrm_mul (x y : Qx β) : (x * y).nrm = x.nrm * y.nrm :=
  ring [x.a, x.b, y.a, y.b, β] (a := (x.a * y.a + β * (x.b * y.b)) * (x.a * y.a + β * (x.b * y.b)) - β * ((x.a * y.b + x.b * y.a) * (x.a * y.b + x.b * y.a))) (b := (x.a * x.a - β * (x.b * x.b)) * (y.a * y.a - β * (y.b * y.b))) (by kernel_rfl)
def Kx.adj (x : Kx ξ) : Kx ξ := ⟨x.a * x.a - ξ * (x.b * x.c), ξ * (x.c * x.c) - x.a * x.b, x.b * x.b - x.a * x.c⟩
def Kx.nrm (x : Kx ξ) : F := x.a * x.adj.a + ξ * (x.c * x.adj.b + x.b * x.adj.c)
theorem Kx.mul_adj (x : Kx ξ) : x * x.adj = ⟨x.nrm, 0, 0⟩ :=
  Kx.ext (ring [x.a, x.b, x.c, ξ] (a := x.a * (x.a * x.a - ξ * (x.b * x.c)) + ξ * (x.b * (x.b * x.b - x.a * x.c) + x.c * (ξ * (x.c * x.c) - x.a * x.b))) (b := x.a * (x.a * x.a - ξ * (x.b * x.c)) + ξ * (x.c * (ξ * (x.c * x.c) - x.a * x.b) + x.b * (x.b * x.b - x.a * x.c))) (by kernel_rfl))
    (ring [x.a, x.b, x.c, ξ] (a := x.a * (ξ * (x.c * x.c) - x.a * x.b) + x.b * (x.a * x.a - ξ * (x.b * x.c)) + ξ * (x.c * (x.b * x.b - x.a * x.c))) (b := 0) (by kernel_rfl))
    (ring [x.a, x.b, x.c, ξ] (a := x.a * (x.b * x.b - x.a * x.c) + x.b * (ξ * (x.c * x.c) - x.a * x.b) + x.c * (x.a * x.a - ξ * (x.b * x.c))) (b := 0) (by kernel_rfl))
theorem Kx.nrm_mul (x y : Kx ξ) : (x * y).nrm = x.nrm * y.nrm :=
  ring [x.a, x.b, x.c, y.a, y.b, y.c, ξ] (a := (x.a * y.a + ξ * (x.b * y.c + x.c * y.b)) * ((x.a * y.a + ξ * (x.b * y.c + x.c * y.b)) * (x.a * y.a + ξ * (x.b * y.c + x.c * y.b)) - ξ * ((x.a * y.b + x.b * y.a + ξ * (x.c * y.c)) * (x.a * y.c + x.b * y.b + x.c * y.a))) +
    ξ * ((x.a * y.c + x.b * y.b + x.c * y.a) * (ξ * ((x.a * y.c + x.b * y.b + x.c * y.a) * (x.a * y.c + x.b * y.b + x.c * y.a)) - (x.a * y.a + ξ * (x.b * y.c + x.c * y.b)) * (x.a * y.b + x.b * y.a + ξ * (x.c * y.c))) +
      (x.a * y.b + x.b * y.a + ξ * (x.c * y.c)) * ((x.a * y.b + x.b * y.a + ξ * (x.c * y.c)) * (x.a * y.b + x.b * y.a + ξ * (x.c * y.c)) - (x.a * y.a + ξ * (x.b * y.c + x.c * y.b)) * (x.a * y.c + x.b * y.b + x.c * y.a))))
    (b := (x.a * (x.a * x.a - ξ * (x.b * x.c)) + ξ * (x.c * (ξ * (x.c * x.c) - x.a * x.b) + x.b * (x.b * x.b - x.a * x.c))) * (y.a * (y.a * y.a - ξ * (y.b * y.c)) + ξ * (y.c * (ξ * (y.c * y.c) - y.a * y.b) + y.b * (y.b * y.b - y.a * y.c)))) (by kernel_rfl)
end
section
variable {F : Type} [FD F] {β ξ : F}
open FD (inv)
instance decQ : DecidableEq (Qx β) := fun x y => if h : x.a = y.a ∧ x.b = y.b then isTrue (Qx.ext h.1 h.2) else isFalse fun e => h (by rw [e]; exact ⟨rfl, rfl⟩)
instance decK : DecidableEq (Kx ξ) := fun x y => if h : x.a = y.a ∧ x.b = y.b ∧ x.c = y.c then isTrue (Kx.ext h.1 h.2.1 h.2.2) else isFalse fun e => h (by rw [e]; exact ⟨rfl, rfl, rfl⟩)
theorem zero_or {a b : F} (h : a * b = 0) : a = 0 ∨ b = 0 := by
  by_cases e : a = 0
  · exact .inl e
  · exact .inr (zero_of_mul e h)
theorem Qx.nrm_ne (hβ : ∀ x : F, x * x ≠ β) {x : Qx β} (h : x.nrm = 0) : x = ⟨0, 0⟩ := by
  by_cases hb : x.b = 0
  · have : x.a * x.a = 0 := by
      have h' := h
      unfold Qx.nrm at h'
      rw [hb, mul_zero, mul_zero, sub_zero_iff] at h'
      exact h'
    rcases zero_or this with e | e <;> exact Qx.ext e hb
  · exfalso
    refine hβ (x.a * inv x.b) ?_
    have h' := sub_zero_iff.1 h
    have hi := FD.mul_inv x.b hb
    calc x.a * inv x.b * (x.a * inv x.b) = (x.a * x.a) * (inv x.b * inv x.b) := ring [x.a, inv x.b] (by kernel_rfl)
      _ = β * ((x.b * inv x.b) * (x.b * inv x.b)) := by rw [h']; exact ring [x.b, inv x.b, β] (by kernel_rfl)
      _ = β := by rw [hi, mul_one, mul_one]
def invQ (x : Qx β) : Qx β := ⟨x.a * inv x.nrm, -x.b * inv x.nrm⟩
@[reducible] def fdQ (hβ : ∀ x : F, x * x ≠ β) : FD (Qx β) where
  inv := invQ
  mul_inv x h := by
    have hi := FD.mul_inv x.nrm fun e => h (Qx.nrm_ne hβ e)
    exact Qx.ext (Eq.trans (ring [x.a, x.b, inv x.nrm, β] (a := x.a * (x.a * inv x.nrm) + β * (x.b * (-x.b * inv x.nrm))) (b := (x.a * x.a - β * (x.b * x.b)) * inv x.nrm) (by kernel_rfl)) hi)
      (ring [x.a, x.b, inv x.nrm] (a := x.a * (-x.b * inv x.nrm) + x.b * (x.a * inv x.nrm)) (b := 0) (by kernel_rfl))
  inv_zero := Qx.ext (zero_mul _) (by show -(0 : F) * _ = 0; rw [neg_zero, zero_mul])
  one_ne h := FD.one_ne (F := F) (congrArg Qx.a h)
  dec := decQ
theorem no_cube_of {a b c : F} (hξ : ∀ x : F, x * x * x ≠ ξ) (hc : c ≠ 0) (h1 : ξ * (c * c) = a * b) (h2 : c * a = b * b) : False := by
  refine hξ (b * inv c) ?_
  have hi := FD.mul_inv c hc
  calc b * inv c * (b * inv c) * (b * inv c) = (b * b) * b * (inv c * inv c * inv c) := ring [b, inv c] (by kernel_rfl)
    _ = (a * b) * (c * inv c) * (inv c * inv c) := by rw [← h2]; exact ring [a, b, c, inv c] (by kernel_rfl)
    _ = ξ * ((c * inv c) * (c * inv c) * (c * inv c)) := by rw [← h1]; exact ring [c, inv c, ξ] (by kernel_rfl)
    _ = ξ := by rw [hi, mul_one, mul_one, mul_one]
theorem Kx.smul_zero {d : F} (hd : d ≠ 0) {y : Kx ξ} (h : (⟨d, 0, 0⟩ : Kx ξ) * y = ⟨0, 0, 0⟩) : y = ⟨0, 0, 0⟩ := by
  have h1 : d * y.a + ξ * (0 * y.c + 0 * y.b) = 0 := congrArg Kx.a h
  have h2 : d * y.b + 0 * y.a + ξ * (0 * y.c) = 0 := congrArg Kx.b h
  have h3 : d * y.c + 0 * y.b + 0 * y.a = 0 := congrArg Kx.c h
  simp only [zero_mul, add_zero, mul_zero] at h1 h2 h3
  exact Kx.ext (zero_of_mul hd h1) (zero_of_mul hd h2) (zero_of_mul hd h3)
theorem Kx.lin_zero (hξ : ∀ x : F, x * x * x ≠ ξ) {d e : F} {y : Kx ξ} (h : (⟨d, e, 0⟩ : Kx ξ) * y = ⟨0, 0, 0⟩) (hde : ¬ (d = 0 ∧ e = 0)) : y = ⟨0, 0, 0⟩ := by
  by_cases he : e = 0
  · subst he; exact Kx.smul_zero (fun q => hde ⟨q, rfl⟩) h
  · refine Kx.smul_zero (d := d * d * d + ξ * (e * e * e)) (fun q => ?_) ?_
    · refine hξ (-d * inv e) ?_
      have hi := FD.mul_inv e he
      have q' : d * d * d = -(ξ * (e * e * e)) := neg_unique (by rw [add_comm]; exact q)
      calc -d * inv e * (-d * inv e) * (-d * inv e) = -(d * d * d) * (inv e * inv e * inv e) := ring [d, inv e] (by kernel_rfl)
        _ = ξ * ((e * inv e) * (e * inv e) * (e * inv e)) := by rw [q']; exact ring [e, inv e, ξ] (by kernel_rfl)
        _ = ξ := by rw [hi, mul_one, mul_one, mul_one]
    · have e1 : (⟨d * d * d + ξ * (e * e * e), 0, 0⟩ : Kx ξ) = ⟨d * d, -(d * e), e * e⟩ * ⟨d, e, 0⟩ :=
        Kx.ext (ring [d, e, ξ] (b := d * d * d + ξ * (-(d * e) * 0 + e * e * e)) (by kernel_rfl)) (ring [d, e, ξ] (a := 0) (b := d * d * e + -(d * e) * d + ξ * (e * e * 0)) (by kernel_rfl)) (ring [d, e, ξ] (a := 0) (b := d * d * 0 + -(d * e) * e + e * e * d) (by kernel_rfl))
      rw [e1, mul_assoc, h]
      exact mul_zero (F := Kx ξ) _
theorem Kx.mul_zero_of (hξ : ∀ x : F, x * x * x ≠ ξ) {x y : Kx ξ} (h : x * y = ⟨0, 0, 0⟩) (hx : x ≠ ⟨0, 0, 0⟩) : y = ⟨0, 0, 0⟩ := by
  by_cases hc : x.c = 0
  · refine Kx.lin_zero hξ (d := x.a) (e := x.b) ?_ fun q => hx (Kx.ext q.1 q.2 hc)
    have e : (⟨x.a, x.b, 0⟩ : Kx ξ) = x := Kx.ext rfl rfl hc.symm
    rw [e]; exact h
  · have e1 : (⟨ξ * (x.c * x.c) - x.a * x.b, x.c * x.a - x.b * x.b, 0⟩ : Kx ξ) = ⟨-x.b, x.c, 0⟩ * x :=
      Kx.ext (ring [x.a, x.b, x.c, ξ] (a := ξ * (x.c * x.c) - x.a * x.b) (b := -x.b * x.a + ξ * (x.c * x.c + 0 * x.b)) (by kernel_rfl)) (ring [x.a, x.b, x.c, ξ] (a := x.c * x.a - x.b * x.b) (b := -x.b * x.b + x.c * x.a + ξ * (0 * x.c)) (by kernel_rfl))
        (ring [x.a, x.b, x.c] (a := 0) (b := -x.b * x.c + x.c * x.b + 0 * x.a) (by kernel_rfl))
    refine Kx.lin_zero hξ (d := ξ * (x.c * x.c) - x.a * x.b) (e := x.c * x.a - x.b * x.b) ?_ fun q => no_cube_of hξ hc (sub_zero_iff.1 q.1) (sub_zero_iff.1 q.2)
    rw [e1, mul_assoc, h]
    exact mul_zero (F := Kx ξ) _
theorem Kx.nrm_ne (hξ : ∀ x : F, x * x * x ≠ ξ) {x : Kx ξ} (h : x.nrm = 0) : x = ⟨0, 0, 0⟩ := by
  by_cases hx : x = ⟨0, 0, 0⟩
  · exact hx
  · exfalso
    have hm := x.mul_adj
    rw [h] at hm
    have ha := Kx.mul_zero_of hξ hm hx
    have h2 : ξ * (x.c * x.c) - x.a * x.b = 0 := congrArg Kx.b ha
    have h3 : x.b * x.b - x.a * x.c = 0 := congrArg Kx.c ha
    have h1 : x.a * x.a - ξ * (x.b * x.c) = 0 := congrArg Kx.a ha
    by_cases hc : x.c = 0
    · rw [hc, mul_zero, mul_zero, sub_zero_iff] at h1
      rw [hc, mul_zero, sub_zero_iff] at h3
      exact hx (Kx.ext ((zero_or h1).elim id id) ((zero_or h3).elim id id) hc)
    · exact no_cube_of hξ hc (sub_zero_iff.1 h2) (by rw [mul_comm]; exact (sub_zero_iff.1 h3).symm)
def invK (x : Kx ξ) : Kx ξ := ⟨x.adj.a * inv x.nrm, x.adj.b * inv x.nrm, x.adj.c * inv x.nrm⟩
theorem invK_eq (x : Kx ξ) : invK x = x.adj * ⟨inv x.nrm, 0, 0⟩ :=
  Kx.ext (ring [x.adj.a, x.adj.b, x.adj.c, inv x.nrm, ξ] (a := x.adj.a * inv x.nrm) (b := x.adj.a * inv x.nrm + ξ * (x.adj.b * 0 + x.adj.c * 0)) (by kernel_rfl)) (ring [x.adj.a, x.adj.b, x.adj.c, inv x.nrm, ξ] (a := x.adj.b * inv x.nrm) (b := x.adj.a * 0 + x.adj.b * inv x.nrm + ξ * (x.adj.c * 0)) (by kernel_rfl))
    (ring [x.adj.a, x.adj.b, x.adj.c, inv x.nrm] (a := x.adj.c * inv x.nrm) (b := x.adj.a * 0 + x.adj.b * 0 + x.adj.c * inv x.nrm) (by kernel_rfl))
@[reducible] def fdK (hξ : ∀ x : F, x * x * x ≠ ξ) : FD (Kx ξ) where
  inv := invK
  mul_inv x h := by
    have hi := FD.mul_inv x.nrm fun e => h (Kx.nrm_ne hξ e)
    rw [invK_eq, ← mul_assoc, x.mul_adj]
    exact Kx.ext (Eq.trans (ring [x.nrm, inv x.nrm, ξ] (a := x.nrm * inv x.nrm + ξ * (0 * 0 + 0 * 0)) (b := x.nrm * inv x.nrm) (by kernel_rfl)) hi) (ring [x.nrm, inv x.nrm, ξ] (a := x.nrm * 0 + 0 * inv x.nrm + ξ * (0 * 0)) (b := 0) (by kernel_rfl)) (ring [x.nrm, inv x.nrm] (a := x.nrm * 0 + 0 * 0 + 0 * inv x.nrm) (b := 0) (by kernel_rfl))
  inv_zero := by
    have h0 : (0 : Kx ξ).adj = 0 := Kx.ext (ring [ξ] (a := 0 * 0 - ξ * (0 * 0)) (b := (0 : F)) (by kernel_rfl)) (ring [ξ] (a := ξ * (0 * 0) - 0 * 0) (b := (0 : F)) (by kernel_rfl)) (ring [ξ] (a := 0 * 0 - 0 * 0) (b := (0 : F)) (by kernel_rfl))
    rw [invK_eq, h0, zero_mul]
  one_ne h := FD.one_ne (F := F) (congrArg Kx.a h)
  dec := decK
end
end Go.Proofs.YtohjpdglbeohpaaGreat.Rg
/- Numbers modulo p as a field; the curve y*y = x*x*x + 4. -/
namespace Go.Proofs.YtohjpdglbeohpaaGreat
open Ex Num
set_option maxRecDepth 100000
set_option maxHeartbeats 4000000

abbrev FP : Type := Fin pN
theorem tf_val (a : FP) : tf a.val = a := by
  rw [Fin.ext_iff]; show a.val % pN = a.val; exact Nat.mod_eq_of_lt a.isLt
theorem val_tf {x : Nat} (h : x < pN) : (tf x).val = x := Nat.mod_eq_of_lt h
theorem val_eq {x : Nat} {a : FP} (hx : x < pN) (h : tf x = a) : x = a.val := by rw [← h, val_tf hx]
noncomputable def invF (a : FP) : FP := tf (invN a.val)
theorem invF_mul {a : FP} (h : a ≠ 0) : a * invF a = 1 := by
  have hz : a.val % pN ≠ 0 := fun e => h (by
    have := tf_ne_zero.2 e
    rwa [tf_val] at this)
  have := tf_invN hz
  rwa [tf_val] at this
theorem invF_zero : invF 0 = 0 := by
  unfold invF
  have : invN (0 : FP).val = 0 := invN_zero rfl
  rw [this]; exact tf_zero
theorem one_ne_F : (1 : FP) ≠ 0 := fun h => by
  have := tf_lt (show 1 < pN by decide) pN_pos (by rw [tf_one, tf_zero]; exact h)
  cases this
noncomputable instance fdFP : Rg.FD FP where
  add_assoc a b c := by grind
  add_comm a b := by grind
  zero_add a := by grind
  neg_add a := by grind
  mul_assoc a b c := by grind
  mul_comm a b := by grind
  one_mul a := by grind
  add_mul a b c := by grind
  sub_eq a b := by grind
  inv := invF
  mul_inv a h := invF_mul h
  inv_zero := invF_zero
  one_ne := one_ne_F
  dec := inferInstance
theorem int2 : (Rg.int 2 : FP) = 1 + 1 := by
  show (0 : FP) + 1 + 1 = 1 + 1
  grind
def cub (m : Nat) : Bool := Nat.beq (pmod pN (pN - m) 384 ((pN - 1) / 3)) 1
theorem cub4 : cub 4 = false := by kernel_rfl
theorem p3 : (pN - 1) / 3 * 3 = pN - 1 := by kernel_rfl
theorem p3_lt : Nat.blt ((pN - 1) / 3) RR = true := by kernel_rfl
/-- x*x*x + m is not 0, if -m is no cube. -/
theorem no_cube {m : Nat} (hm : m < pN) (h0 : 0 < m) (hc : cub m = false) (x : Nat) : (x ^ 3 + m) % pN ≠ 0 := by
  intro h
  have hx : x ^ 3 % pN = pN - m := by
    have h1 := modp_lt (x ^ 3)
    rw [Nat.add_mod, Nat.mod_eq_of_lt hm] at h
    have h2 : x ^ 3 % pN + m = pN := by
      have hd := Nat.dvd_of_mod_eq_zero h
      obtain ⟨k, hk⟩ := hd
      have : k = 1 := by
        rcases Nat.lt_or_ge k 1 with q | q
        · rw [show k = 0 by omega, Nat.mul_zero] at hk; omega
        · rcases Nat.lt_or_ge k 2 with q2 | q2
          · omega
          · have := Nat.mul_le_mul_left pN q2
            omega
      rw [this, Nat.mul_one] at hk
      exact hk
    omega
  have hnd : ¬ pN ∣ x := fun hd => by
    obtain ⟨k, hk⟩ := hd
    have : x ^ 3 % pN = 0 := by rw [hk, Nat.mul_pow, Nat.pow_succ, Nat.mul_comm (pN ^ 2), Nat.mul_assoc, Nat.mul_mod_right]
    omega
  have hf := fermat pN_prime hnd
  rw [← p3, Nat.mul_comm, Nat.pow_mul, Nat.pow_mod, hx, ← pmod_eq pN 384 (pN - m) ((pN - 1) / 3) (by rw [pow_fuel]; exact nblt.1 p3_lt)] at hf
  unfold cub at hc
  rw [hf] at hc
  cases hc
noncomputable def four : FP := tf 4
noncomputable def C1 : Rg.Cv FP where
  b := four
  two := by
    rw [int2]
    have h2 : tf 2 = 1 + 1 := by rw [← tf_one, ← tf_add]
    rw [← h2]
    intro h
    have := tf_lt (show 2 < pN by decide) pN_pos (by rw [h, tf_zero])
    cases this
  no2 := fun x y h hy => by
    subst hy
    have h1 : x * x * x + four = 0 := by
      rw [← h]
      grind
    have h2 : tf (x.val ^ 3 + 4) = 0 := by
      rw [tf_add, Nat.pow_succ, Nat.pow_succ, Nat.pow_one, tf_mul, tf_mul, tf_val]
      exact h1
    exact no_cube (by decide) (by decide) cub4 x.val (tf_ne_zero.1 h2)
end Go.Proofs.YtohjpdglbeohpaaGreat
/- Points told by their cells; g1: b, Base, Reduce, Neg, On. -/
namespace Go.Proofs.YtohjpdglbeohpaaGreat
open Ex Num Rg
set_option maxRecDepth 100000
set_option maxHeartbeats 4000000

def g1A (x y : Nat) (i : Bool) : AV := .val true [.num 6 x, .num 6 y, .v (.bool i)]
def asG1 (cs : List Ch) : Option (Nat × Nat × Bool) := match splitCh cs 6 with
  | some (a, r) => match splitCh r 6 with
    | some (b, [c]) => match asNum 6 a, asNum 6 b, asB (some (.val false [c])) with
      | some x, some y, some (_, i) => some (x, y, i)
      | _, _, _ => none
    | _ => none
  | none => none
theorem asG1_rel {β β' : Env} {cs : List Ch} {x y : Nat} {i : Bool} {u : Value} (h : asG1 cs = some (x, y, i)) (hr : relA β (.val true cs) u) : relA β' (g1A x y i) u ∧ x < RR ∧ y < RR := by
  unfold asG1 at h
  split at h
  case h_2 => cases h
  rename_i a r h1
  split at h
  case h_2 => cases h
  rename_i b c h2
  split at h
  case h_2 => cases h
  rename_i x' y' c0 i' h3 h4 h5
  injection h with h; injection h with e1 h; injection h with e2 e3
  subst e1; subst e2; subst e3
  obtain ⟨l, hl, rfl⟩ := hr
  obtain ⟨q1, q2, q3⟩ := split_rel h1 hl
  obtain ⟨r1, r2, r3⟩ := split_rel h2 q2
  obtain ⟨ea, la⟩ := asNum_rel h3 q1
  obtain ⟨eb, lb⟩ := asNum_rel h4 r1
  obtain ⟨l1, l2, hc1, hc2, hc3⟩ := r2
  simp only [relL] at hc2
  subst hc2
  have hlen := relC_length hc1
  have hsz : szC c = 1 := by
    unfold asB at h5
    split at h5
    · rename_i _ _ hq; injection hq with hq; injection hq with _ hq; injection hq with hq _; rw [hq]; rfl
    · rename_i _ _ hq; injection hq with hq; injection hq with _ hq; injection hq with hq _; rw [hq]; rfl
    · cases h5
  rw [hsz] at hlen
  obtain ⟨w, rfl⟩ := List.length_eq_one_iff.1 hlen
  have hw : w = .bool i' := asB_rel (β := β) (u := w) (fun A hA => by injection hA with hA; subst hA; exact ⟨[w], [], hc1, rfl, rfl⟩) h5
  subst hw
  rw [RR_eq]
  refine ⟨⟨l, ⟨_, _, ⟨la, rfl⟩, ⟨_, _, ⟨lb, rfl⟩, ⟨[.bool i'], [], ⟨rfl, rfl, trivial⟩, rfl, rfl⟩, rfl⟩, ?_⟩, rfl⟩, la, lb⟩
  rw [← ea, ← eb, ← hc3, List.take_append_drop, List.take_append_drop]

/- points -/
def toPt (x y : Nat) (i : Bool) : Pt FP := match i with
  | true => .inf
  | false => .pt (tf x) (tf y)
def ptX : Pt FP → Nat
  | .inf => 0
  | .pt a _ => a.val
def ptY : Pt FP → Nat
  | .inf => 0
  | .pt _ b => b.val
def ptI : Pt FP → Bool
  | .inf => true
  | .pt _ _ => false
def g1V (P : Pt FP) : AV := g1A (ptX P) (ptY P) (ptI P)
theorem ptX_lt (P : Pt FP) : ptX P < pN := by cases P with | inf => exact pN_pos | pt a b => exact a.isLt
theorem ptY_lt (P : Pt FP) : ptY P < pN := by cases P with | inf => exact pN_pos | pt a b => exact b.isLt
theorem toPt_of (P : Pt FP) : toPt (ptX P) (ptY P) (ptI P) = P := by
  cases P with
  | inf => rfl
  | pt a b => show Pt.pt (tf a.val) (tf b.val) = _; rw [tf_val, tf_val]
theorem g1V_pt (x y : Nat) : g1V (.pt (tf x) (tf y)) = g1A (x % pN) (y % pN) false := rfl
theorem g1V_inf : g1V .inf = g1A 0 0 true := rfl
theorem g1V_mk {x y : Nat} {a b : FP} (hx : x < pN) (hy : y < pN) (ha : tf x = a) (hb : tf y = b) : g1A x y false = g1V (.pt a b) := by
  rw [← ha, ← hb, g1V_pt, Nat.mod_eq_of_lt hx, Nat.mod_eq_of_lt hy]
theorem pure_g1 {P : Program} {f : FuncId} {args : List AV} {cs : List Ch} {x y : Nat} {i : Bool} (h : PureOk P f args (.val true cs)) (hc : asG1 cs = some (x, y, i)) : PureOk P f args (g1A x y i) := pure_val h fun _ hu => (asG1_rel hc hu).1
/- contracts of functions of points -/
def spG (g : Pt FP → AV) : List AV → Option AV
  | [.val true a] => match asG1 a with
    | some (x, y, i) => some (g (toPt x y i))
    | none => none
  | _ => none
theorem spG_ok {f : FuncId} {g : Pt FP → AV} (h : ∀ x y i, PureOk Tryz.prog f [g1A x y i] (g (toPt x y i))) : ∀ args v, spG g args = some v → PureOk Tryz.prog f args v := by
  intro args v hs us w ha
  unfold spG at hs
  split at hs
  case h_2 => cases hs
  rename_i a
  split at hs
  case h_2 => cases hs
  rename_i x y i hx
  injection hs with hs; subst hs
  obtain ⟨u1, us1, r1, ha, rfl⟩ := ha
  exact h x y i _ w ⟨u1, _, (asG1_rel hx r1).1, ha, rfl⟩
def spGG (g : Pt FP → Pt FP → AV) : List AV → Option AV
  | [.val true a, .val true b] => match asG1 a, asG1 b with
    | some (x, y, i), some (x', y', i') => some (g (toPt x y i) (toPt x' y' i'))
    | _, _ => none
  | _ => none
theorem spGG_ok {f : FuncId} {g : Pt FP → Pt FP → AV} (h : ∀ x y i x' y' i', PureOk Tryz.prog f [g1A x y i, g1A x' y' i'] (g (toPt x y i) (toPt x' y' i'))) : ∀ args v, spGG g args = some v → PureOk Tryz.prog f args v := by
  intro args v hs us w ha
  unfold spGG at hs
  split at hs
  case h_2 => cases hs
  rename_i a b
  split at hs
  case h_2 => cases hs
  rename_i x y i x' y' i' hx hy
  injection hs with hs; subst hs
  obtain ⟨u1, us1, r1, ⟨u2, us2, r2, ha, rfl⟩, rfl⟩ := ha
  exact h x y i x' y' i' _ w ⟨u1, _, (asG1_rel hx r1).1, ⟨u2, _, (asG1_rel hy r2).1, ha, rfl⟩, rfl⟩

/- b, Base, Reduce -/
theorem g1b_run : pureRun Tryz.prog (orc S0 K0) Tryz.f79 [] [] 100 = some ([], .val true [.n .u64 4, .n .u64 0, .n .u64 0, .n .u64 0, .n .u64 0, .n .u64 0]) := by kernel_rfl
theorem g1b_ok : PureOk Tryz.prog 79 [] (num6 4) := pure_val (pure_ok (orc_ok S0ok K0ok) mixed Tryz.func79 g1b_run trivial rfl) fun u hu => num6_of (by kernel_rfl) hu
def gX : Nat := 0x17f1d3a73197d7942695638c4fa9ac0fc3688c4f9774b905a14e3a3f171bac586c55e83ff97a1aeffb3af00adb22c6bb
def gY : Nat := 0x08b3f481e3aaa0f1a09e30ed741d8ae4fcf5e095d5d00af600db18cb2c04b3edd03cc744a2888ae40caa232946c5e7e1
def gC : List Ch := [.n .u64 0xfb3af00adb22c6bb, .n .u64 0x6c55e83ff97a1aef, .n .u64 0xa14e3a3f171bac58, .n .u64 0xc3688c4f9774b905, .n .u64 0x2695638c4fa9ac0f, .n .u64 0x17f1d3a73197d794,
  .n .u64 0xcaa232946c5e7e1, .n .u64 0xd03cc744a2888ae4, .n .u64 0xdb18cb2c04b3ed, .n .u64 0xfcf5e095d5d00af6, .n .u64 0xa09e30ed741d8ae4, .n .u64 0x8b3f481e3aaa0f1, .b false]
theorem base_run : pureRun Tryz.prog (orc S0 K0) Tryz.f18 [] [] 100 = some ([], .val true gC) := by kernel_rfl
def G1B : Pt FP := .pt (tf gX) (tf gY)
theorem gX_lt : Nat.blt gX pN = true := by kernel_rfl
theorem gY_lt : Nat.blt gY pN = true := by kernel_rfl
theorem G1B_A : g1A gX gY false = g1V G1B := g1V_mk (nblt.1 gX_lt) (nblt.1 gY_lt) rfl rfl
theorem base_ok : PureOk Tryz.prog 18 [] (g1V G1B) := by
  rw [← G1B_A]
  exact pure_g1 (pure_ok (orc_ok S0ok K0ok) mixed Tryz.func18 base_run trivial rfl) (by kernel_rfl)
def zero12 (i : Bool) : List Ch := [.n .u64 0, .n .u64 0, .n .u64 0, .n .u64 0, .n .u64 0, .n .u64 0, .n .u64 0, .n .u64 0, .n .u64 0, .n .u64 0, .n .u64 0, .n .u64 0, .b i]
theorem gred_inf (x y : Nat) (i : Bool) : pureRun Tryz.prog (orc SE K0) Tryz.f20 [g1A x y i] [true] 300 = some ([(i, true)], .val true (zero12 true)) := by kernel_rfl
theorem gred_pt (x y : Nat) (i : Bool) : pureRun Tryz.prog (orc SE K0) Tryz.f20 [g1A x y i] [false] 300 = some ([(i, false)], .val true [.num 6 (x % pN), .num 6 (y % pN), .b false]) := by kernel_rfl
theorem gred_ok (x y : Nat) (i : Bool) : PureOk Tryz.prog 20 [g1A x y i] (g1V (toPt x y i)) := by
  cases i with
  | true => exact pure_g1 (pure_ok (orc_ok SEok K0ok) mixed Tryz.func20 (gred_inf x y true) ⟨rfl, trivial⟩ rfl) (by kernel_rfl)
  | false => exact pure_g1 (pure_ok (orc_ok SEok K0ok) mixed Tryz.func20 (gred_pt x y false) ⟨rfl, trivial⟩ rfl) (by kernel_rfl)
noncomputable def SG0 : List (FuncId × ASpec) := (79, pureSpec fun args => match args with | [] => some (num6 4) | _ => none) :: (18, pureSpec fun args => match args with | [] => some (g1V G1B) | _ => none) :: (20, pureSpec (spG g1V)) :: SE
theorem SG0ok : SpecsOk Tryz.prog SG0 := ⟨pureSpec_ok Tryz.func79 (by kernel_rfl) (by kernel_rfl) (sp0_ok g1b_ok fun u h => h), pureSpec_ok Tryz.func18 (by kernel_rfl) (by kernel_rfl) (sp0_ok base_ok fun u h => h), pureSpec_ok Tryz.func20 (by kernel_rfl) (by kernel_rfl) (spG_ok gred_ok), SEok⟩
end Go.Proofs.YtohjpdglbeohpaaGreat
/- g1: Neg, On, Add: the contracts. -/
namespace Go.Proofs.YtohjpdglbeohpaaGreat
open Ex Num Rg
set_option maxRecDepth 100000
set_option maxHeartbeats 4000000

theorem tf_inv {n : Nat} (h : n < pN) : tf (invN n) = invF (tf n) := by unfold invF; rw [val_tf h]
theorem ptX_eq {a b c d : FP} : ptX (.pt a b) = ptX (.pt c d) ↔ a = c := by rw [Fin.ext_iff]; exact Iff.rfl
theorem ptY_eq {a b c d : FP} : ptY (.pt a b) = ptY (.pt c d) ↔ b = d := by rw [Fin.ext_iff]; exact Iff.rfl
theorem val_zero {b : FP} : b.val = 0 ↔ b = 0 := by rw [Fin.ext_iff]; exact Iff.rfl
theorem g1V_neg (P : Pt FP) : g1A (ptX P) (negN (ptY P)) (ptI P) = g1V (Rg.neg P) := by
  cases P with
  | inf =>
    have : negN 0 = 0 := negN_zero rfl
    show g1A 0 (negN 0) true = g1A 0 0 true
    rw [this]
  | pt a b => exact g1V_mk a.isLt (negN_lt _) (tf_val a) (by rw [tf_negN]; show -tf b.val = _; rw [tf_val])
noncomputable def onP : Pt FP → Bool
  | .inf => true
  | .pt a b => decide (b * b = a * a * a + four)
theorem onP_iff (P : Pt FP) : onP P = true ↔ Rg.On C1.b P := by
  cases P with
  | inf => exact ⟨fun _ => trivial, fun _ => rfl⟩
  | pt a b => exact decide_eq_true_iff
theorem on_inf_run (x y : Nat) (i : Bool) : pureRun Tryz.prog (orc SG0 K0) Tryz.f33 [g1A x y i] [true] 300 = some ([(i, true)], .val false [.b true]) := by kernel_rfl
theorem on_pt_run (x y : Nat) (i : Bool) : pureRun Tryz.prog (orc SG0 K0) Tryz.f33 [g1A x y i] [false] 300 = some ([(i, false)], boolA (decide (mulN y y = addN (mulN (mulN x x) x) 4))) := by kernel_rfl
theorem on_eqN (x y : Nat) : decide (mulN y y = addN (mulN (mulN x x) x) 4) = onP (toPt x y false) := by
  have e : (mulN y y = addN (mulN (mulN x x) x) 4) ↔ (tf y * tf y = tf x * tf x * tf x + four) := by
    constructor
    · intro h
      have := congrArg tf h
      simpa [tf_mulN, tf_addN, four] using this
    · intro h
      exact tf_lt (mulN_lt _ _) (addN_lt _ _) (by simpa [tf_mulN, tf_addN, four] using h)
  show _ = decide (tf y * tf y = tf x * tf x * tf x + four)
  by_cases h : mulN y y = addN (mulN (mulN x x) x) 4
  · rw [decide_eq_true h, decide_eq_true (e.1 h)]
  · rw [decide_eq_false h, decide_eq_false fun q => h (e.2 q)]
theorem gon_ok (x y : Nat) (i : Bool) : PureOk Tryz.prog 33 [g1A x y i] (boolA (onP (toPt x y i))) := by
  cases i with
  | true => exact pure_val (pure_ok (orc_ok SG0ok K0ok) mixed Tryz.func33 (on_inf_run x y true) ⟨rfl, trivial⟩ rfl) fun u hu => bv_one rfl hu
  | false => rw [← on_eqN]; exact pure_ok (orc_ok SG0ok K0ok) mixed Tryz.func33 (on_pt_run x y false) ⟨rfl, trivial⟩ rfl

/- Add -/
noncomputable def chL (px py qx qy : Nat) : Nat := mulN (subN qy py) (invN (subN qx px))
noncomputable def tgL (px py : Nat) : Nat := mulN (addN (addN (mulN px px) (mulN px px)) (mulN px px)) (invN (addN py py))
def smX (l px qx : Nat) : Nat := subN (subN (mulN l l) px) qx
def smY (l px py x : Nat) : Nat := subN (mulN l (subN px x)) py
section
variable (x y : Nat) (i : Bool) (x' y' : Nat) (i' : Bool)
def gaC (P Q : Pt FP) (d : Bool) (r : List (Bool × Bool)) : List (Bool × Bool) := (ptI P, false) :: (ptI Q, false) :: (!decide (ptX P = ptX Q), d) :: r
end
theorem sm_pt {l : Nat} {L a b c : FP} (hl : tf l = L) : g1A (smX l a.val c.val) (smY l a.val b.val (smX l a.val c.val)) false = g1V (sumAt a b c L) := by
  have hX : tf (smX l a.val c.val) = L * L - a - c := by unfold smX; simp only [tf_subN, tf_mulN, tf_val, hl]
  refine g1V_mk (subN_lt _ _) (subN_lt _ _) hX ?_
  unfold smY
  rw [tf_subN, tf_mulN, tf_subN, hX, tf_val, tf_val, hl]
theorem tf_chL (a b c d : FP) : tf (chL a.val b.val c.val d.val) = (d - b) * FD.inv (c - a) := by
  unfold chL
  rw [tf_mulN, tf_subN, tf_inv (subN_lt _ _), tf_subN, tf_val, tf_val, tf_val, tf_val]; rfl
theorem tf_tgL (a b : FP) : tf (tgL a.val b.val) = (a * a + a * a + a * a) * FD.inv (b + b) := by
  unfold tgL
  rw [tf_mulN, tf_addN, tf_addN, tf_mulN, tf_inv (addN_lt _ _), tf_addN, tf_val, tf_val]; rfl
noncomputable def SG1 : List (FuncId × ASpec) := (33, pureSpec (spG fun P => boolA (onP P))) :: SG0
theorem SG1ok : SpecsOk Tryz.prog SG1 := ⟨pureSpec_ok Tryz.func33 (by kernel_rfl) (by kernel_rfl) (spG_ok gon_ok), SG0ok⟩
end Go.Proofs.YtohjpdglbeohpaaGreat
/- g1: points as fractions: twice, plus, point: the contracts. -/
namespace Go.Proofs.YtohjpdglbeohpaaGreat
open Ex Num Rg
set_option maxRecDepth 100000
set_option maxHeartbeats 4000000

def f3A (x y z : Nat) : AV := .val true [.num 6 x, .num 6 y, .num 6 z]
def f3V (j : J FP) : AV := f3A j.x.val j.y.val j.z.val
def toJ (x y z : Nat) : J FP := ⟨tf x, tf y, tf z⟩
def asF3 (cs : List Ch) : Option (Nat × Nat × Nat) := match splitCh cs 6 with
  | some (a, r) => match splitCh r 6 with
    | some (b, c) => match asNum 6 a, asNum 6 b, asNum 6 c with
      | some x, some y, some z => some (x, y, z)
      | _, _, _ => none
    | _ => none
  | none => none
theorem asF3_rel {β β' : Env} {cs : List Ch} {x y z : Nat} {u : Value} (h : asF3 cs = some (x, y, z)) (hr : relA β (.val true cs) u) : relA β' (f3A x y z) u := by
  unfold asF3 at h
  split at h
  case h_2 => cases h
  rename_i a r h1
  split at h
  case h_2 => cases h
  rename_i b c h2
  split at h
  case h_2 => cases h
  rename_i x' y' z' h3 h4 h5
  injection h with h; injection h with e1 h; injection h with e2 e3
  subst e1; subst e2; subst e3
  obtain ⟨l, hl, rfl⟩ := hr
  obtain ⟨q1, q2, q3⟩ := split_rel h1 hl
  obtain ⟨r1, r2, r3⟩ := split_rel h2 q2
  obtain ⟨ea, la⟩ := asNum_rel h3 q1
  obtain ⟨eb, lb⟩ := asNum_rel h4 r1
  obtain ⟨ec, lc⟩ := asNum_rel h5 r2
  refine ⟨l, ⟨_, _, ⟨la, rfl⟩, ⟨_, _, ⟨lb, rfl⟩, ⟨_, [], ⟨lc, rfl⟩, rfl, rfl⟩, rfl⟩, ?_⟩, rfl⟩
  rw [← ea, ← eb, ← ec, List.append_nil, List.take_append_drop, List.take_append_drop]
theorem f3V_mk {x y z : Nat} {j : J FP} (hx : x < pN) (hy : y < pN) (hz : z < pN) (ex : tf x = j.x) (ey : tf y = j.y) (ez : tf z = j.z) : f3A x y z = f3V j := by
  unfold f3V
  rw [← val_eq hx ex, ← val_eq hy ey, ← val_eq hz ez]

/- twice -/
def nE (x : Nat) : Nat := addN (addN (mulN x x) (mulN x x)) (mulN x x)
def nD (x y : Nat) : Nat := addN (addN (mulN x (mulN y y)) (mulN x (mulN y y))) (addN (mulN x (mulN y y)) (mulN x (mulN y y)))
def nC2 (y : Nat) : Nat := addN (mulN (mulN y y) (mulN y y)) (mulN (mulN y y) (mulN y y))
def nC4 (y : Nat) : Nat := addN (nC2 y) (nC2 y)
def nC8 (y : Nat) : Nat := addN (nC4 y) (nC4 y)
def nX (x y : Nat) : Nat := subN (mulN (nE x) (nE x)) (addN (nD x y) (nD x y))
def nY (x y : Nat) : Nat := subN (mulN (nE x) (subN (nD x y) (nX x y))) (nC8 y)
theorem tw_run (x y z : Nat) : pureRun Tryz.prog (orc SG1 K0) Tryz.f106 [f3A x y z] [] 500 = some ([], f3A (nX x y) (nY x y) (addN (mulN y z) (mulN y z))) := by kernel_rfl
theorem tf_nX (x y : Nat) : tf (nX x y) = jX (tf x) (tf y) := by
  unfold nX nE nD jX jE jD
  simp only [tf_subN, tf_mulN, tf_addN]
theorem tf_nY (x y : Nat) : tf (nY x y) = jE (tf x) * (jD (tf x) (tf y) - jX (tf x) (tf y)) - jC8 (tf y) := by
  unfold nY
  rw [tf_subN, tf_mulN, tf_subN, tf_nX]
  unfold nE nD nC8 nC4 nC2 jE jD jC8 jC4 jC2
  simp only [tf_mulN, tf_addN]
theorem tw_ok (x y z : Nat) : PureOk Tryz.prog 106 [f3A x y z] (f3V (twJ (toJ x y z))) := by
  rw [← f3V_mk (j := twJ (toJ x y z)) (subN_lt _ _) (subN_lt _ _) (addN_lt _ _) (tf_nX x y) (tf_nY x y) (by rw [tf_addN, tf_mulN]; rfl)]
  exact pure_ok (orc_ok SG1ok K0ok) mixed Tryz.func106 (tw_run x y z) trivial rfl
def spF (g : J FP → AV) : List AV → Option AV
  | [.val true a] => match asF3 a with
    | some (x, y, z) => some (g (toJ x y z))
    | none => none
  | _ => none
theorem spF_ok {f : FuncId} {g : J FP → AV} (h : ∀ x y z, PureOk Tryz.prog f [f3A x y z] (g (toJ x y z))) : ∀ args v, spF g args = some v → PureOk Tryz.prog f args v := by
  intro args v hs us w ha
  unfold spF at hs
  split at hs
  case h_2 => cases hs
  rename_i a
  split at hs
  case h_2 => cases hs
  rename_i x y z hx
  injection hs with hs; subst hs
  obtain ⟨u1, us1, r1, ha, rfl⟩ := ha
  exact h x y z _ w ⟨u1, _, asF3_rel hx r1, ha, rfl⟩
noncomputable def SG2 : List (FuncId × ASpec) := (106, pureSpec (spF fun j => f3V (twJ j))) :: SG1
theorem SG2ok : SpecsOk Tryz.prog SG2 := ⟨pureSpec_ok Tryz.func106 (by kernel_rfl) (by kernel_rfl) (spF_ok tw_ok), SG1ok⟩
/- plus -/
def nH (x z a : Nat) : Nat := subN (mulN a (mulN z z)) x
def nR (y z b : Nat) : Nat := subN (mulN b (mulN (mulN z z) z)) y
def nPX (x h r : Nat) : Nat := subN (subN (mulN r r) (mulN (mulN h h) h)) (addN (mulN x (mulN h h)) (mulN x (mulN h h)))
def nPY (x y h r : Nat) : Nat := subN (mulN r (subN (mulN x (mulN h h)) (nPX x h r))) (mulN y (mulN (mulN h h) h))
section
variable (x y z a b : Nat) (i : Bool)
theorem pl_1 : pureRun Tryz.prog (orc SG2 K0) Tryz.f107 [f3A x y z, g1A a b i] [true] 500 = some ([(decide (z = 0), true)], .val true (.num 6 a :: .num 6 b :: one6)) := by kernel_rfl
theorem pl_2 : pureRun Tryz.prog (orc SG2 K0) Tryz.f107 [f3A x y z, g1A a b i] [false, true, true] 500 = some ([(decide (z = 0), false), (decide (nH x z a = 0), true), (decide (nR y z b = 0), true)], f3V (twJ (toJ x y z))) := by kernel_rfl
theorem pl_3 : pureRun Tryz.prog (orc SG2 K0) Tryz.f107 [f3A x y z, g1A a b i] [false, true, false, true] 500 = some ([(decide (z = 0), false), (decide (nH x z a = 0), true), (decide (nR y z b = 0), false), (decide (nH x z a = 0), true)], .val true (List.replicate 18 (.n .u64 0))) := by kernel_rfl
theorem pl_4 : pureRun Tryz.prog (orc SG2 K0) Tryz.f107 [f3A x y z, g1A a b i] [false, false, false] 500 = some ([(decide (z = 0), false), (decide (nH x z a = 0), false), (decide (nH x z a = 0), false)], f3A (nPX x (nH x z a) (nR y z b)) (nPY x y (nH x z a) (nR y z b)) (mulN z (nH x z a))) := by kernel_rfl
end
theorem tf_nH (x y z a : Nat) : tf (nH x z a) = pH (toJ x y z) (tf a) := by unfold nH pH toJ; simp only [tf_subN, tf_mulN]
theorem tf_nR (x y z b : Nat) : tf (nR y z b) = pR (toJ x y z) (tf b) := by unfold nR pR toJ; simp only [tf_subN, tf_mulN]
theorem tf_z0 {n : Nat} (h : n < pN) : n = 0 ↔ tf n = 0 := by
  constructor
  · rintro rfl; exact tf_zero
  · intro e; exact tf_lt h pN_pos (e.trans tf_zero.symm)
theorem pure_f3 {P : Program} {f : FuncId} {args : List AV} {cs : List Ch} {x y z : Nat} (h : PureOk P f args (.val true cs)) (hc : asF3 cs = some (x, y, z)) : PureOk P f args (f3A x y z) := pure_val h fun _ hu => asF3_rel hc hu
theorem pl_ok {x y z a b : Nat} {i : Bool} (hz : z < pN) (ha : a < pN) (hb : b < pN) : PureOk Tryz.prog 107 [f3A x y z, g1A a b i] (f3V (plJ (toJ x y z) (tf a) (tf b))) := by
  have eh := tf_nH x y z a
  have er := tf_nR x y z b
  have zh := tf_z0 (n := nH x z a) (subN_lt _ _)
  have zr := tf_z0 (n := nR y z b) (subN_lt _ _)
  rw [eh] at zh
  rw [er] at zr
  unfold plJ
  by_cases h0 : z = 0
  · rw [if_pos (show (toJ x y z).z = 0 from (tf_z0 hz).1 h0), ← f3V_mk (j := ⟨tf a, tf b, 1⟩) ha hb (show 1 < pN by decide) rfl rfl tf_one]
    exact pure_f3 (pure_ok (orc_ok SG2ok K0ok) mixed Tryz.func107 (pl_1 x y z a b i) ⟨decide_eq_true h0, trivial⟩ rfl) rfl
  · rw [if_neg (show ¬ (toJ x y z).z = 0 from fun e => h0 ((tf_z0 hz).2 e))]
    by_cases hh : nH x z a = 0
    · rw [if_pos (zh.1 hh)]
      by_cases hr : nR y z b = 0
      · rw [if_pos (zr.1 hr)]
        exact pure_ok (orc_ok SG2ok K0ok) mixed Tryz.func107 (pl_2 x y z a b i) ⟨decide_eq_false h0, decide_eq_true hh, decide_eq_true hr, trivial⟩ rfl
      · rw [if_neg (fun e => hr (zr.2 e)), ← f3V_mk (j := ⟨0, 0, 0⟩) pN_pos pN_pos pN_pos tf_zero tf_zero tf_zero]
        exact pure_f3 (pure_ok (orc_ok SG2ok K0ok) mixed Tryz.func107 (pl_3 x y z a b i) ⟨decide_eq_false h0, decide_eq_true hh, decide_eq_false hr, decide_eq_true hh, trivial⟩ rfl) (by kernel_rfl)
    · rw [if_neg (fun e => hh (zh.2 e)), ← f3V_mk (j := ⟨pX (toJ x y z).x (pH (toJ x y z) (tf a)) (pR (toJ x y z) (tf b)), pY (toJ x y z).x (toJ x y z).y (pH (toJ x y z) (tf a)) (pR (toJ x y z) (tf b)), (toJ x y z).z * pH (toJ x y z) (tf a)⟩)
        (x := nPX x (nH x z a) (nR y z b)) (y := nPY x y (nH x z a) (nR y z b)) (z := mulN z (nH x z a)) (subN_lt _ _) (subN_lt _ _) (mulN_lt _ _) ?_ ?_ ?_]
      · exact pure_ok (orc_ok SG2ok K0ok) mixed Tryz.func107 (pl_4 x y z a b i) ⟨decide_eq_false h0, decide_eq_false hh, decide_eq_false hh, trivial⟩ rfl
      · unfold nPX pX; simp only [tf_subN, tf_mulN, tf_addN, eh, er]; rfl
      · unfold nPY nPX pY pX; simp only [tf_subN, tf_mulN, tf_addN, eh, er]; rfl
      · rw [tf_mulN, eh]; rfl
noncomputable def plSp : List AV → Option (List (Bool × Bool) × AV)
  | [.val true a, .val true b] => match asF3 a, asG1 b with
    | some (x, y, z), some (p, q, _) => some ([(decide (z < pN), true), (decide (p < pN), true), (decide (q < pN), true)], f3V (plJ (toJ x y z) (tf p) (tf q)))
    | _, _ => none
  | _ => none
theorem plSp_ok : ∀ args c v, plSp args = some (c, v) → okConds c → PureOk Tryz.prog 107 args v := by
  intro args c v hs hc us w ha
  unfold plSp at hs
  split at hs
  case h_2 => cases hs
  rename_i a b
  split at hs
  case h_2 => cases hs
  rename_i x y z p q i hx hy
  injection hs with hs; injection hs with h1 h2; subst h1; subst h2
  obtain ⟨u1, us1, r1, ⟨u2, us2, r2, ha, rfl⟩, rfl⟩ := ha
  exact pl_ok (of_decide_eq_true hc.1) (of_decide_eq_true hc.2.1) (of_decide_eq_true hc.2.2.1) _ w ⟨u1, _, asF3_rel hx r1, ⟨u2, _, (asG1_rel hy r2).1, ha, rfl⟩, rfl⟩

/- point -/
def KG : List (TypeId × List (Option IntKind)) := (97, List.replicate 18 (some .u64)) :: K0
theorem KGok : KindsOk Tryz.prog KG := ⟨⟨by kernel_rfl, by kernel_rfl, by kernel_rfl⟩, K0ok⟩
def z3 (x y z : Nat) : Bool := decide (x = 0) && (decide (y = 0) && decide (z = 0))
theorem po_1 (x y z : Nat) : pureRun Tryz.prog (orc SG2 KG) Tryz.f108 [f3A x y z] [true] 500 = some ([(z3 x y z, true)], .val true (zero12 true)) := by kernel_rfl
theorem po_2 (x y z : Nat) : pureRun Tryz.prog (orc SG2 KG) Tryz.f108 [f3A x y z] [false, true] 500 = some ([(z3 x y z, false), (decide (z = 0), true)], .val true (zero12 true)) := by kernel_rfl
theorem po_3 (x y z : Nat) : pureRun Tryz.prog (orc SG2 KG) Tryz.f108 [f3A x y z] [false, false] 500 = some ([(z3 x y z, false), (decide (z = 0), false)], .val true [.num 6 (mulN x (mulN (invN z) (invN z))), .num 6 (mulN y (mulN (mulN (invN z) (invN z)) (invN z))), .b false]) := by kernel_rfl
theorem po_ok {x y z : Nat} (hz : z < pN) : PureOk Tryz.prog 108 [f3A x y z] (g1V (ptJ (toJ x y z))) := by
  by_cases h0 : z = 0
  · rw [ptJ_zero (j := toJ x y z) ((tf_z0 hz).1 h0)]
    cases h3 : z3 x y z with
    | true => exact pure_g1 (pure_ok (orc_ok SG2ok KGok) mixed Tryz.func108 (po_1 x y z) ⟨h3, trivial⟩ rfl) (by kernel_rfl)
    | false => exact pure_g1 (pure_ok (orc_ok SG2ok KGok) mixed Tryz.func108 (po_2 x y z) ⟨h3, decide_eq_true h0, trivial⟩ rfl) (by kernel_rfl)
  · have h3 : z3 x y z = false := by unfold z3; rw [decide_eq_false h0, Bool.and_false, Bool.and_false]
    rw [ptJ_ne (j := toJ x y z) (fun e => h0 ((tf_z0 hz).2 e))]
    have ei : tf (invN z) = FD.inv (tf z) := tf_inv hz
    rw [← g1V_mk (x := mulN x (mulN (invN z) (invN z))) (y := mulN y (mulN (mulN (invN z) (invN z)) (invN z))) (mulN_lt _ _) (mulN_lt _ _) (by rw [tf_mulN, tf_mulN, ei]; rfl) (by rw [tf_mulN, tf_mulN, tf_mulN, ei]; rfl)]
    exact pure_g1 (pure_ok (orc_ok SG2ok KGok) mixed Tryz.func108 (po_3 x y z) ⟨h3, decide_eq_false h0, trivial⟩ rfl) rfl
noncomputable def poSp : List AV → Option (List (Bool × Bool) × AV)
  | [.val true a] => match asF3 a with
    | some (x, y, z) => some ([(decide (z < pN), true)], g1V (ptJ (toJ x y z)))
    | _ => none
  | _ => none
theorem poSp_ok : ∀ args c v, poSp args = some (c, v) → okConds c → PureOk Tryz.prog 108 args v := by
  intro args c v hs hc us w ha
  unfold poSp at hs
  split at hs
  case h_2 => cases hs
  rename_i a
  split at hs
  case h_2 => cases hs
  rename_i x y z hx
  injection hs with hs; injection hs with h1 h2; subst h1; subst h2
  obtain ⟨u1, us1, r1, ha, rfl⟩ := ha
  exact po_ok (of_decide_eq_true hc.1) _ w ⟨u1, _, asF3_rel hx r1, ha, rfl⟩
noncomputable def SG3 : List (FuncId × ASpec) := (107, condSpec plSp) :: (108, condSpec poSp) :: SG2
theorem SG3ok : SpecsOk Tryz.prog SG3 := ⟨condSpec_ok Tryz.func107 (by kernel_rfl) (by kernel_rfl) plSp_ok, condSpec_ok Tryz.func108 (by kernel_rfl) (by kernel_rfl) poSp_ok, SG2ok⟩
end Go.Proofs.YtohjpdglbeohpaaGreat
/- g1.Mul: the contract. -/
namespace Go.Proofs.YtohjpdglbeohpaaGreat
open Ex Num Rg
set_option maxRecDepth 100000
set_option maxHeartbeats 4000000

/- What is known of a block of memory may be told in other words. -/
theorem hget_last {H0 : Heap} {k b : Nat} {blk blk' x : Blk} (h : hget (H0 ++ [(k, some blk')]) b = some x) : hget (H0 ++ [(k, some blk)]) b = some x ∨ (x = blk' ∧ hget (H0 ++ [(k, some blk)]) b = some blk) := by
  induction H0 with
  | nil =>
    simp only [List.nil_append, hget] at h ⊢
    cases e : Nat.beq k b with
    | true => rw [e] at h; injection h with h; exact .inr ⟨h.symm, rfl⟩
    | false => rw [e] at h; cases h
  | cons y r ih =>
    obtain ⟨j, z⟩ := y
    simp only [List.cons_append, hget] at h ⊢
    cases e : Nat.beq j b with
    | true => rw [e] at h; exact .inl h
    | false => rw [e] at h; exact ih h
theorem relB_imp {β : Env} {ty : TypeId} {cs cs' : List Ch} {o : Bool} {k : Nat} {w : World} (h : ∀ β l, relL β cs l → relL β cs' l) (hr : relB β ⟨ty, cs, o⟩ k w) : relB β ⟨ty, cs', o⟩ k w := by
  rcases hr with ⟨B, n, l, t, pre, ty', fz, q1, q2, q3⟩ | ⟨q1, q2, q3⟩
  · exact .inl ⟨B, n, l, t, pre, ty', fz, q1, h _ _ q2, q3⟩
  · exact .inr ⟨q1, q2, h _ _ q3⟩
theorem good_imp {β : Env} {H0 : Heap} {k : Nat} {ty : TypeId} {cs cs' : List Ch} {o : Bool} {w : World} (h : ∀ β l, relL β cs l → relL β cs' l) (g : Ex.Good β (H0 ++ [(k, some ⟨ty, cs, o⟩)]) w) : Ex.Good β (H0 ++ [(k, some ⟨ty, cs', o⟩)]) w := by
  have hs : ∀ b x, hget (H0 ++ [(k, some ⟨ty, cs', o⟩)]) b = some x → ∃ y, hget (H0 ++ [(k, some ⟨ty, cs, o⟩)]) b = some y ∧ y.ty = x.ty := fun b x hb => by
    rcases hget_last (blk := ⟨ty, cs, o⟩) hb with e | ⟨rfl, e⟩
    · exact ⟨x, e, rfl⟩
    · exact ⟨_, e, rfl⟩
  refine ⟨fun b blk hb => ?_, fun b b' B n n' h1 h2 h3 h4 => ?_, g.lt⟩
  · rcases hget_last (blk := ⟨ty, cs, o⟩) hb with e | ⟨rfl, e⟩
    · exact g.heap b blk e
    · exact relB_imp h (g.heap b _ e)
  · obtain ⟨x, hx, hr⟩ := rwK_some h1
    obtain ⟨y, hy, e⟩ := hs b x hx
    obtain ⟨x', hx'⟩ := Option.isSome_iff_exists.1 h2
    obtain ⟨y', hy', _⟩ := hs b' x' hx'
    exact g.inj b b' B n n' (rwK_mk hy (by rw [e]; exact hr)) (by rw [hy']; rfl) h3 h4
theorem heap_safe {P : Program} {f : FuncId} {β0 : Env} {w0 : World} {R : Ending → World → Prop} {n : Nat} {W : List Nat} {todo : List Item} {T : List AV} {H0 : Heap} {k : Nat} {ty : TypeId} {cs cs' : List Ch} {o : Bool} {fr : Nat} {p : List Bool} (h : ∀ β l, relL β cs l → relL β cs' l)
    (hs : ASafe P f β0 w0 R n W ⟨todo, ⟨T, H0 ++ [(k, some ⟨ty, cs', o⟩)], fr, p⟩⟩) : ASafe P f β0 w0 R n W ⟨todo, ⟨T, H0 ++ [(k, some ⟨ty, cs, o⟩)], fr, p⟩⟩ :=
  fun β a w hi hf => hs β a w { hi with good := good_imp h hi.good } hf

/- the walk -/
noncomputable def gmTodo : List Item := todoOf (aSeg Tryz.prog (orc SG3 KG) (some 0) 500 1 none (entry Tryz.f57 [slA 0 0 0 0, g1A 0 0 false] (seqH []) 1 [false, false]))
noncomputable def gmT (off n m : Nat) (i : Int) : List AV := .val false [.sl 0 off n m] :: .any :: .any :: .val false [.p 1 0] :: .val false [.p 2 0] :: .val false [.n .i64 0] :: .val false [.p 3 0] :: .val false [.v (.int .i64 i)] :: List.replicate (Tryz.f57.ntmps - 8) .any
noncomputable def gmH (xs : List Int) (P : Pt FP) : Heap := [(0, some (roB [.seq .u64 xs])), (1, some ⟨26, [.num 6 (ptX P), .num 6 (ptY P), .v (.bool (ptI P))], false⟩), (2, some ⟨26, zero12 false, false⟩)]
noncomputable def gmS (off n m : Nat) (xs : List Int) (P : Pt FP) (out : List Ch) (i : Int) (path : List Bool) : ASt := ⟨gmTodo, ⟨gmT off n m i, List.append (gmH xs P) [(3, some ⟨97, out, false⟩)], 4, path⟩⟩
def jC (j : J FP) : List Ch := [.num 6 j.x.val, .num 6 j.y.val, .num 6 j.z.val]
def zero18 : List Ch := [.n .u64 0, .n .u64 0, .n .u64 0, .n .u64 0, .n .u64 0, .n .u64 0, .n .u64 0, .n .u64 0, .n .u64 0, .n .u64 0, .n .u64 0, .n .u64 0, .n .u64 0, .n .u64 0, .n .u64 0, .n .u64 0, .n .u64 0, .n .u64 0]
def toJ' (j : J FP) : J FP := toJ j.x.val j.y.val j.z.val
theorem toJ'_eq (j : J FP) : toJ' j = j := by
  unfold toJ' toJ
  rw [tf_val, tf_val, tf_val]
noncomputable def plP (j : J FP) (P : Pt FP) : J FP := plJ (toJ' (twJ (toJ' j))) (tf (ptX P)) (tf (ptY P))
def gmArgs (x y : Nat) (i : Bool) (off n m : Nat) : List AV := [slA 0 off n m, g1A x y i]
def toPt' (P : Pt FP) : Pt FP := toPt (ptX P) (ptY P) (ptI P)
theorem gm_entry (x y : Nat) (i : Bool) (off n m : Nat) (xs : List Int) : aSeg Tryz.prog (orc SG3 KG) (some 0) 500 1 (some ([0, 3, 4, 5, 6, 7], [0, 1, 2, 3], 4)) (entry Tryz.f57 (gmArgs x y i off n m) (seqH xs) 1 [false, false]) =
  some ([(!onP (toPt' (toPt x y i)), false), (ptI (toPt x y i), false), (hasB .i64 n, true)], [], gmS off n m xs (toPt x y i) zero18 (wI (wI (64 * (n : Int)) - 1)) []) := by kernel_rfl
def gmA (Q : Pt FP) (e : Int) : AV := .tup [(true, [.num 6 (ptX Q), .num 6 (ptY Q), .v (.bool (ptI Q))]), (false, [.v (.int .i64 e)])]
def gmN (Q : Pt FP) (e : Int) : AV := .tup [(true, [.num 6 (ptX Q), .num 6 (ptY Q), .v (.bool (ptI Q))]), (false, [.n .i64 e])]
theorem gm_off (x y : Nat) (i : Bool) (off n m : Nat) (xs : List Int) : segOut Tryz.prog (orc SG3 KG) Tryz.f57 500 1 [] (entry Tryz.f57 (gmArgs x y i off n m) (seqH xs) 1 [true]) =
  some ([(!onP (toPt' (toPt x y i)), true)], [], .tup [(true, zero12 false), (false, [.n .i64 120])], []) := by kernel_rfl
theorem gm_inf (x y : Nat) (i : Bool) (off n m : Nat) (xs : List Int) : segOut Tryz.prog (orc SG3 KG) Tryz.f57 500 1 [] (entry Tryz.f57 (gmArgs x y i off n m) (seqH xs) 1 [false, true]) =
  some ([(!onP (toPt' (toPt x y i)), false), (ptI (toPt x y i), true)], [], gmN (toPt x y i) 0, []) := by kernel_rfl
def gmC (off n : Nat) (xs : List Int) (i : Int) (bit : Bool) (r : List (Bool × Bool)) : List (Bool × Bool) := (decide (0 ≤ i), true) :: (true, true) :: (decide (0 ≤ wI (Int.tdiv i 64) ∧ wI (Int.tdiv i 64) < n), true) ::
  (decide (off + (wI (Int.tdiv i 64)).toNat * 1 < xs.length), true) :: (decide (0 ≤ i ∧ (0 : Int) < 64), true) :: (decide (0 ≤ Int.tmod i 64 ∧ 0 ≤ powW xs off i), true) :: (decide (bitI (powW xs off i) (Int.tmod i 64) = 0), bit) :: r
section
variable (off n m : Nat) (xs : List Int) (P : Pt FP) (j : J FP) (i : Int)
theorem gm_zero : aSeg Tryz.prog (orc SG3 KG) (some 0) 500 1 (some ([0, 3, 4, 5, 6, 7], [0, 1, 2, 3], 4)) (gmS off n m xs P (jC j) i [true, true]) =
  some (gmC off n xs i true [], [], gmS off n m xs P (jC (twJ (toJ' j))) (wI (i - 1)) []) := by kernel_rfl
theorem gm_one : aSeg Tryz.prog (orc SG3 KG) (some 0) 500 1 (some ([0, 3, 4, 5, 6, 7], [0, 1, 2, 3], 4)) (gmS off n m xs P (jC j) i [true, false]) =
  some (gmC off n xs i false [(decide ((twJ (toJ' j)).z.val < pN), true), (decide (ptX P < pN), true), (decide (ptY P < pN), true)], [], gmS off n m xs P (jC (plP j P)) (wI (i - 1)) []) := by kernel_rfl
theorem gm_exit : segOut Tryz.prog (orc SG3 KG) Tryz.f57 500 1 [] (gmS off n m xs P (jC j) i [false]) =
  some ([(decide (0 ≤ i), false), (decide (j.z.val < pN), true)], [], gmN (ptJ (toJ' j)) 0, []) := by kernel_rfl
end
theorem gm_wf (off n m : Nat) (xs : List Int) (P : Pt FP) (j : J FP) (i : Int) (p : List Bool) : wfSt Tryz.f57.ntmps (gmS off n m xs P (jC j) i p).s := wfB_ok (by kernel_rfl)
theorem zero18_rel (β : Env) (l : List Value) (h : relL β zero18 l) : relL β (jC ⟨0, 0, 0⟩) l := by
  have h3 : asF3 zero18 = some (0, 0, 0) := by kernel_rfl
  obtain ⟨l', q, e⟩ := asF3_rel (β' := β) (u := .agg ⟨l⟩) h3 ⟨l, h, rfl⟩
  injection e with e; injection e with e; subst e
  exact q
def accJ (P : Pt FP) (E c : Nat) (j : J FP) : Prop := ptJ j = smul (E / 2 ^ c) P
section
variable {off n m : Nat} {xs : List Int} (hall : ∀ d ∈ xs, 0 ≤ d ∧ d < 18446744073709551616) (hlen : off + n ≤ xs.length) (hn : n ≤ 1125899906842624) {P : Pt FP} (hP : Rg.On C1.b P) (hI : ptI P = false) {β0 : Env} {w0 : World} (hb : ∀ b, 1 ≤ b → β0 b = none)
include hall hlen hn hb hP hI
theorem gm_safe : ∀ (c : Nat) (j : J FP), accJ P (natL (win xs off n)) c j → c ≤ 64 * n → ASafe Tryz.prog 57 β0 w0 (Outs β0 w0 [] (gmN (smul (natL (win xs off n)) P) 0) []) Tryz.f57.ntmps [] (gmS off n m xs P (jC j) ((c : Int) - 1) []) := by
  intro c
  induction c with
  | zero =>
    intro j hj _
    have h : ASafe Tryz.prog 57 β0 w0 (Outs β0 w0 [] (gmN (ptJ (toJ' j)) 0) []) Tryz.f57.ntmps [] (gmS off n m xs P (jC j) (((0 : Nat) : Int) - 1) [false]) :=
      out_safe (orc_ok SG3ok KGok) mixed Tryz.func57 (gm_exit ..) ⟨rfl, decide_eq_true j.z.isLt, trivial⟩ (gm_wf ..) hb (fun _ h => by cases h)
    unfold accJ at hj
    rw [toJ'_eq, hj, Nat.pow_zero, Nat.div_one] at h
    exact path_safe [false] h
  | succ c ih =>
    intro j hj hc
    have hi : ((c + 1 : Nat) : Int) - 1 = (c : Int) := by omega
    rw [hi]
    have hlt : ∀ d ∈ win xs off n, 0 ≤ d ∧ d < 18446744073709551616 := win_has hall
    have hq : Int.tdiv (c : Int) 64 = ((c / 64 : Nat) : Int) := by rw [Int.tdiv_eq_ediv_of_nonneg (by omega)]; rfl
    have hr : Int.tmod (c : Int) 64 = ((c % 64 : Nat) : Int) := by rw [Int.tmod_eq_emod_of_nonneg (by omega)]; rfl
    have hw : wI (Int.tdiv (c : Int) 64) = ((c / 64 : Nat) : Int) := by rw [hq]; exact wI_eq (by omega)
    have hjn : c / 64 < n := by omega
    have hv : powW xs off c = (win xs off n).getD (c / 64) 0 := by
      unfold powW
      rw [hw, Int.toNat_natCast, Nat.mul_one]
      exact (bit_word hjn).symm
    have hvb : 0 ≤ powW xs off c ∧ powW xs off c < 18446744073709551616 := by
      rw [hv, List.getD_eq_getElem?_getD]
      cases h : (win xs off n)[c / 64]? with
      | none => simp
      | some d => exact hlt d (List.mem_of_getElem? h)
    have hbit : bitI (powW xs off c) (Int.tmod c 64) = ((natL (win xs off n) / 2 ^ c % 2 : Nat) : Int) := by
      obtain ⟨V, hV⟩ := Int.eq_ofNat_of_zero_le hvb.1
      rw [hr, ← natL_bit _ c hlt, ← hv, hV, Int.toNat_natCast]
      exact bitI_eq V _ (by omega) (by omega)
    have hnext : wI ((c : Int) - 1) = (c : Int) - 1 := wI_eq (by omega)
    have hconds : ∀ bit r, decide (bitI (powW xs off c) (Int.tmod c 64) = 0) = bit → okConds r → okConds (gmC off n xs c bit r) := by
      intro bit r hbt hr'
      refine ⟨by simp, rfl, ?_, ?_, ?_, ?_, hbt, hr'⟩
      · rw [hw]; simp; omega
      · rw [hw]; simp; omega
      · simp
      · simp only [decide_eq_true_eq]; rw [hr]; exact ⟨by omega, hvb.1⟩
    have hdiv : natL (win xs off n) / 2 ^ c = 2 * (natL (win xs off n) / 2 ^ (c + 1)) + natL (win xs off n) / 2 ^ c % 2 := by
      rw [Nat.pow_succ, ← Nat.div_div_eq_div_mul]; omega
    unfold accJ at hj
    have hoj : Rg.On C1.b (ptJ j) := by rw [hj]; exact on_smul C1 hP _
    have htw : ptJ (twJ (toJ' j)) = smul (2 * (natL (win xs off n) / 2 ^ (c + 1))) P := by
      rw [toJ'_eq, ptJ_tw C1 hoj, hj, ← smul_add C1 hP, Nat.two_mul]
    rcases Nat.mod_two_eq_zero_or_one (natL (win xs off n) / 2 ^ c) with h0 | h1
    · refine path_safe [true, true] (seg_safe (orc_ok SG3ok KGok) mixed (gm_zero ..) (hconds true [] (by rw [hbit, h0]; rfl) trivial) (gm_wf ..) hb (fun _ h => by cases h) fun _ => ?_)
      rw [hnext]
      refine ih _ ?_ (by omega)
      unfold accJ
      rw [htw, hdiv, h0]; rfl
    · refine path_safe [true, false] (seg_safe (orc_ok SG3ok KGok) mixed (gm_one ..) (hconds false _ (by rw [hbit, h1]; rfl) ⟨decide_eq_true (twJ (toJ' j)).z.isLt, decide_eq_true (ptX_lt P), decide_eq_true (ptY_lt P), trivial⟩) (gm_wf ..) hb (fun _ h => by cases h) fun _ => ?_)
      rw [hnext]
      refine ih _ ?_ (by omega)
      unfold accJ plP
      rw [toJ'_eq (twJ (toJ' j)), ptJ_pl C1 (by rw [htw]; exact on_smul C1 hP _), htw, hdiv, h1]
      cases P with
      | inf => cases hI
      | pt a b =>
        show add _ (.pt (tf a.val) (tf b.val)) = _
        rw [tf_val, tf_val]; rfl
end
/-- What Mul answers. -/
noncomputable def mulP (N : Nat) (P : Pt FP) : Pt FP := if onP P = true then smul N P else .pt 0 0
noncomputable def mulE (P : Pt FP) : Int := if onP P = true then 0 else 120
theorem toPt'_eq (P : Pt FP) : toPt' P = P := toPt_of P
theorem gmN_A {β : Env} {Q : Pt FP} {e : Int} {u : Value} (h : relA β (gmN Q e) u) : relA β (gmA Q e) u := relT2 (fun _ q => q) (fun _ q => gval rfl q) h
theorem gm_can {off n m : Nat} {xs : List Int} (hall : ∀ d ∈ xs, 0 ≤ d ∧ d < 18446744073709551616) (hlen : off + n ≤ xs.length) (hn : n ≤ 1125899906842624) (x y : Nat) (i : Bool) :
    CanOk Tryz.prog 57 (gmArgs x y i off n m) (seqH xs) 1 [] (gmA (mulP (natL (win xs off n)) (toPt x y i)) (mulE (toPt x y i))) [] := by
  have e1 := gm_entry x y i off n m xs
  have e2 := gm_off x y i off n m xs
  have e3 := gm_inf x y i off n m xs
  rw [toPt'_eq] at e1 e2 e3
  generalize toPt x y i = P at *
  cases ho : onP P with
  | false =>
    unfold mulP mulE
    rw [if_neg (by rw [ho]; exact Bool.false_ne_true), if_neg (by rw [ho]; exact Bool.false_ne_true)]
    refine can_val (can_entry (path := [true]) Tryz.func57 (by kernel_rfl) (by kernel_rfl) fun β0 w0 hb =>
      out_safe (orc_ok SG3ok KGok) mixed Tryz.func57 e2 ⟨by rw [ho]; rfl, trivial⟩ (wfB_ok (by kernel_rfl)) hb (fun _ h => by cases h)) fun β u hu => ?_
    exact relT2 (fun _ q => (asG1_rel (x := 0) (y := 0) (i := false) (by kernel_rfl) q).1) (fun _ q => gval rfl q) hu
  | true =>
    have hP := (onP_iff P).1 ho
    unfold mulP mulE
    rw [if_pos ho, if_pos ho]
    cases hI : ptI P with
    | true =>
      have hp : P = .inf := by cases P with | inf => rfl | pt a b => cases hI
      have hs : smul (natL (win xs off n)) P = P := by rw [hp, smul_inf]
      rw [hs]
      exact can_val (can_entry (path := [false, true]) Tryz.func57 (by kernel_rfl) (by kernel_rfl) fun β0 w0 hb =>
        out_safe (orc_ok SG3ok KGok) mixed Tryz.func57 e3 ⟨by rw [ho]; rfl, hI, trivial⟩ (wfB_ok (by kernel_rfl)) hb (fun _ h => by cases h)) fun β u hu => gmN_A hu
    | false =>
      refine can_val (can_entry (path := [false, false]) Tryz.func57 (by kernel_rfl) (by kernel_rfl) fun β0 w0 hb => ?_) fun β u hu => gmN_A hu
      refine seg_safe (orc_ok SG3ok KGok) mixed e1 ⟨by rw [ho]; rfl, hI, ?_, trivial⟩ (wfB_ok (by kernel_rfl)) hb (fun _ h => by cases h) fun _ => ?_
      · simp only [hasB, Bool.and_eq_true, decide_eq_true_eq]; omega
      · have e4 : wI (wI (64 * (n : Int)) - 1) = ((64 * n : Nat) : Int) - 1 := by
          rw [wI_eq (z := 64 * (n : Int)) (by omega), wI_eq (by omega)]; omega
        rw [e4]
        refine heap_safe zero18_rel (gm_safe hall hlen hn hP hI hb (64 * n) ⟨0, 0, 0⟩ ?_ (Nat.le_refl _))
        unfold accJ
        have hl := natL_lt (win xs off n) (win_has hall)
        have hl2 : natL (win xs off n) < 2 ^ (64 * n) := by
          unfold win at hl ⊢
          rwa [List.length_take, List.length_drop, Nat.min_eq_left (by omega)] at hl
        rw [ptJ_zero rfl, Nat.div_eq_of_lt hl2]; rfl
/-- Contracts of functions of a list of words and a point. -/
def wgSp (g : List Int → Pt FP → AV) : ASpec := fun args H fr path =>
  match args with
  | [S, .val true a] => match asSl S with
    | some (k, off, n) => match asG1 a, hget H k with
      | some (x, y, i), some ⟨_, cs, _⟩ => match toSeq .u64 cs with
        | some xs => some (trR [k] 1 fr 0 [] (g (win xs off n) (toPt x y i)) [] [(Nat.ble (off + n) xs.length, true), (Nat.ble n 1125899906842624, true)] path)
        | none => none
      | _, _ => none
    | none => none
  | _ => none
theorem wgSp_ok {f : FuncId} {fn : Func} {g : List Int → Pt FP → AV} (hfn : Tryz.prog.funcs[f]? = some fn) (hb : fn.body.isSome = true) (hname : (fn.name == "runtime.NumGoroutine") = false) (hk : ∀ l P, canB 1 0 [] (g l P) [] = true)
    (h : ∀ (off n m : Nat) (xs : List Int) (x y : Nat) (i : Bool), (∀ d ∈ xs, 0 ≤ d ∧ d < 18446744073709551616) → off + n ≤ xs.length → n ≤ 1125899906842624 → CanOk Tryz.prog f (gmArgs x y i off n m) (seqH xs) 1 [] (g (win xs off n) (toPt x y i)) []) : SpecOk Tryz.prog f (wgSp g) := by
  refine can_spec2 hfn hb hname fun args H fr path r hs => ?_
  unfold wgSp at hs
  split at hs
  case h_2 => cases hs
  rename_i S a
  split at hs
  case h_2 => cases hs
  rename_i k off n hS
  split at hs
  case h_2 => cases hs
  rename_i x y i ty cs o hx hk'
  split at hs
  case h_2 => cases hs
  rename_i xs hxs
  injection hs with hs
  refine ⟨[k], 1, 0, [], _, _, _, path, hs.symm, fun β us w ha hg hc => ?_⟩
  obtain ⟨u1, us1, r1, ⟨u2, us2, r2, ha, rfl⟩, rfl⟩ := ha
  obtain ⟨m, r1⟩ := asSl_rel hS r1
  obtain ⟨g1, g2, g3⟩ := good_seq hg hk' hxs
  exact ⟨gmArgs x y i off n m, seqH xs, h off n m xs x y i g1 (Nat.le_of_ble_eq_true hc.1) (Nat.le_of_ble_eq_true hc.2.1), hk _ _, ⟨u1, _, sl_in (by omega) rfl r1, ⟨u2, us2, (asG1_rel hx r2).1, ha, rfl⟩, rfl⟩, g2, g3⟩
noncomputable def SG4 : List (FuncId × ASpec) := (57, nilSpec (wgSp fun l P => gmA (mulP (natL l) P) (mulE P))) :: SG3
theorem SG4ok : SpecsOk Tryz.prog SG4 := ⟨nilSpec_ok (wgSp_ok Tryz.func57 (by kernel_rfl) (by kernel_rfl) (fun _ _ => by kernel_rfl) fun _ _ _ _ x y i hx hl hn => gm_can hx hl hn x y i), SG3ok⟩
end Go.Proofs.YtohjpdglbeohpaaGreat
/- sigilref12: number, b, Base, Reduce, On, Neg, Slope, Add, twice, plus: the contracts. -/
namespace Go.Proofs.YtohjpdglbeohpaaGreat
open Ex Num Rg
set_option maxRecDepth 100000
set_option maxHeartbeats 4000000

def numSp : List AV → Option AV
  | [.val false [.n .u64 i]] => some (.val true [.n .u64 i, .n .u64 0, .n .u64 0, .n .u64 0, .n .u64 0, .n .u64 0])
  | _ => none
theorem rnum_run (i : Int) : pureRun Tryz.prog (orc SG4 KG) Tryz.f113 [.val false [.n .u64 i]] [] 100 = some ([], .val true [.n .u64 i, .n .u64 0, .n .u64 0, .n .u64 0, .n .u64 0, .n .u64 0]) := by kernel_rfl
theorem numSp_ok : ∀ args v, numSp args = some v → PureOk Tryz.prog 113 args v := by
  intro args v hs
  unfold numSp at hs
  split at hs
  case h_2 => cases hs
  rename_i i
  injection hs with hs; subst hs
  exact pure_ok (orc_ok SG4ok KGok) mixed Tryz.func113 (rnum_run i) trivial rfl
theorem rb12_run : pureRun Tryz.prog (orc SG4 KG) Tryz.f87 [] [] 100 = some ([], .val true [.n .u64 4, .n .u64 0, .n .u64 0, .n .u64 0, .n .u64 0, .n .u64 0]) := by kernel_rfl
theorem rb12_ok : PureOk Tryz.prog 87 [] (num6 4) := pure_val (pure_ok (orc_ok SG4ok KGok) mixed Tryz.func87 rb12_run trivial rfl) fun u hu => num6_of (by kernel_rfl) hu
theorem rred_inf (x y : Nat) (i : Bool) : pureRun Tryz.prog (orc SG4 KG) Tryz.f25 [g1A x y i] [true] 300 = some ([(i, true)], .val true (zero12 true)) := by kernel_rfl
theorem rred_pt (x y : Nat) (i : Bool) : pureRun Tryz.prog (orc SG4 KG) Tryz.f25 [g1A x y i] [false] 300 = some ([(i, false)], .val true [.num 6 (x % pN), .num 6 (y % pN), .b false]) := by kernel_rfl
theorem rred12_ok (x y : Nat) (i : Bool) : PureOk Tryz.prog 25 [g1A x y i] (g1V (toPt x y i)) := by
  cases i with
  | true => exact pure_g1 (pure_ok (orc_ok SG4ok KGok) mixed Tryz.func25 (rred_inf x y true) ⟨rfl, trivial⟩ rfl) (by kernel_rfl)
  | false => exact pure_g1 (pure_ok (orc_ok SG4ok KGok) mixed Tryz.func25 (rred_pt x y false) ⟨rfl, trivial⟩ rfl) (by kernel_rfl)
noncomputable def SR0 : List (FuncId × ASpec) := (113, pureSpec numSp) :: (87, pureSpec fun args => match args with | [] => some (num6 4) | _ => none) :: (25, pureSpec (spG g1V)) :: SG4
theorem SR0ok : SpecsOk Tryz.prog SR0 := ⟨pureSpec_ok Tryz.func113 (by kernel_rfl) (by kernel_rfl) numSp_ok, pureSpec_ok Tryz.func87 (by kernel_rfl) (by kernel_rfl) (sp0_ok rb12_ok fun u h => h), pureSpec_ok Tryz.func25 (by kernel_rfl) (by kernel_rfl) (spG_ok rred12_ok), SG4ok⟩
theorem ron_inf (x y : Nat) (i : Bool) : pureRun Tryz.prog (orc SR0 KG) Tryz.f39 [g1A x y i] [true] 300 = some ([(i, true)], .val false [.b true]) := by kernel_rfl
theorem ron_pt (x y : Nat) (i : Bool) : pureRun Tryz.prog (orc SR0 KG) Tryz.f39 [g1A x y i] [false] 300 = some ([(i, false)], boolA (decide (mulN y y = addN (mulN (mulN x x) x) 4))) := by kernel_rfl
theorem ron_ok (x y : Nat) (i : Bool) : PureOk Tryz.prog 39 [g1A x y i] (boolA (onP (toPt x y i))) := by
  cases i with
  | true => exact pure_val (pure_ok (orc_ok SR0ok KGok) mixed Tryz.func39 (ron_inf x y true) ⟨rfl, trivial⟩ rfl) fun u hu => bv_one rfl hu
  | false => rw [← on_eqN]; exact pure_ok (orc_ok SR0ok KGok) mixed Tryz.func39 (ron_pt x y false) ⟨rfl, trivial⟩ rfl
/- Slope -/
noncomputable def tgR (px py : Nat) : Nat := mulN (mulN 3 (mulN px px)) (invN (mulN 2 py))
noncomputable def chR (px py qx qy : Nat) : Nat := mulN (subN qy py) (invN (subN qx px))
def sgB (P Q : Pt FP) : Bool := !(decide (ptX P = ptX Q) && (!decide (ptY P = ptY Q) || decide (ptY P = 0)))
noncomputable def sgN (P Q : Pt FP) : Nat := if ptX P = ptX Q then (if ptY P = ptY Q ∧ ptY P ≠ 0 then tgR (ptX P) (ptY P) else 0) else chR (ptX P) (ptY P) (ptX Q) (ptY Q)
noncomputable def sgA (P Q : Pt FP) : AV := .tup [(true, [.num 6 (sgN P Q)]), (false, [.v (.bool (sgB P Q))])]
section
variable (x y : Nat) (i : Bool) (x' y' : Nat) (i' : Bool)
end
noncomputable def SR1 : List (FuncId × ASpec) := (39, pureSpec (spG fun P => boolA (onP P))) :: SR0
theorem SR1ok : SpecsOk Tryz.prog SR1 := ⟨pureSpec_ok Tryz.func39 (by kernel_rfl) (by kernel_rfl) (spG_ok ron_ok), SR0ok⟩
end Go.Proofs.YtohjpdglbeohpaaGreat
/- sigilref12: Add, twice, plus: the contracts. -/
namespace Go.Proofs.YtohjpdglbeohpaaGreat
open Ex Num Rg
set_option maxRecDepth 100000
set_option maxHeartbeats 4000000

theorem tf_k2 : tf 2 = 1 + 1 := by rw [← tf_one, ← tf_add]
theorem tf_k3 : tf 3 = 1 + 1 + 1 := by rw [← tf_one, ← tf_add, ← tf_add]
theorem tf_k4 : tf 4 = 1 + 1 + (1 + 1) := by rw [← tf_k2, ← tf_add]
theorem tf_k8 : tf 8 = 1 + 1 + (1 + 1) + (1 + 1 + (1 + 1)) := by rw [← tf_k4, ← tf_add]

/- Add -/
section
variable (x y : Nat) (i : Bool) (x' y' : Nat) (i' : Bool)
end
theorem sm_raw {l x y x' : Nat} {L : FP} (hl : tf l = L) : g1A (smX l x x') (smY l x y (smX l x x')) false = g1V (sumAt (tf x) (tf y) (tf x') L) := by
  have hX : tf (smX l x x') = L * L - tf x - tf x' := by unfold smX; simp only [tf_subN, tf_mulN, hl]
  refine g1V_mk (subN_lt _ _) (subN_lt _ _) hX ?_
  unfold smY
  rw [tf_subN, tf_mulN, tf_subN, hX, hl]
theorem tf_tgR (a b : FP) : tf (tgR a.val b.val) = (a * a + a * a + a * a) * FD.inv (b + b) := by
  unfold tgR
  have e1 : tf (mulN 3 (mulN a.val a.val)) = a * a + a * a + a * a := by rw [tf_mulN, tf_mulN, tf_val, tf_k3]; grind
  have e2 : tf (mulN 2 b.val) = b + b := by rw [tf_mulN, tf_val, tf_k2]; grind
  rw [tf_mulN, tf_inv (mulN_lt _ _), e1, e2]; rfl
/- twice -/
def sD (x y : Nat) : Nat := mulN 4 (mulN x (mulN y y))
def sE (x : Nat) : Nat := mulN 3 (mulN x x)
def sX (x y : Nat) : Nat := subN (mulN (sE x) (sE x)) (addN (sD x y) (sD x y))
def sY (x y : Nat) : Nat := subN (mulN (sE x) (subN (sD x y) (sX x y))) (mulN 8 (mulN (mulN y y) (mulN y y)))
theorem rtw_run (x y z : Nat) : pureRun Tryz.prog (orc SR1 KG) Tryz.f111 [f3A x y z] [] 500 = some ([], f3A (sX x y) (sY x y) (mulN 2 (mulN y z))) := by kernel_rfl
theorem tf_sD (x y : Nat) : tf (sD x y) = jD (tf x) (tf y) := by unfold sD jD; rw [tf_mulN, tf_mulN, tf_mulN, tf_k4]; grind
theorem tf_sE (x : Nat) : tf (sE x) = jE (tf x) := by unfold sE jE; rw [tf_mulN, tf_mulN, tf_k3]; grind
theorem tf_sX (x y : Nat) : tf (sX x y) = jX (tf x) (tf y) := by unfold sX jX; rw [tf_subN, tf_mulN, tf_addN, tf_sD, tf_sE]
theorem tf_s8 (y : Nat) : tf (mulN 8 (mulN (mulN y y) (mulN y y))) = jC8 (tf y) := by unfold jC8 jC4 jC2; rw [tf_mulN, tf_mulN, tf_mulN, tf_k8]; grind
theorem rtw_ok (x y z : Nat) : PureOk Tryz.prog 111 [f3A x y z] (f3V (twJ (toJ x y z))) := by
  rw [← f3V_mk (j := twJ (toJ x y z)) (x := sX x y) (y := sY x y) (z := mulN 2 (mulN y z)) (subN_lt _ _) (subN_lt _ _) (mulN_lt _ _) (tf_sX x y) (by unfold sY; rw [tf_subN, tf_mulN, tf_subN, tf_sX, tf_sD, tf_sE, tf_s8]; rfl)
    (by rw [tf_mulN, tf_mulN, tf_k2]; show _ = tf y * tf z + tf y * tf z; grind)]
  exact pure_ok (orc_ok SR1ok KGok) mixed Tryz.func111 (rtw_run x y z) trivial rfl
noncomputable def SR2 : List (FuncId × ASpec) := (111, pureSpec (spF fun j => f3V (twJ j))) :: SR1
theorem SR2ok : SpecsOk Tryz.prog SR2 := ⟨pureSpec_ok Tryz.func111 (by kernel_rfl) (by kernel_rfl) (spF_ok rtw_ok), SR1ok⟩
/- plus -/
section
variable (x y z a b : Nat) (i : Bool)
theorem rpl_1 : pureRun Tryz.prog (orc SR2 KG) Tryz.f112 [f3A x y z, g1A a b i] [true] 500 = some ([(decide (z = 0), true)], .val true (.num 6 a :: .num 6 b :: one6)) := by kernel_rfl
theorem rpl_2 : pureRun Tryz.prog (orc SR2 KG) Tryz.f112 [f3A x y z, g1A a b i] [false, true, true] 500 = some ([(decide (z = 0), false), (decide (nH x z a = 0), true), (decide (nR y z b = 0), true)], f3V (twJ (toJ x y z))) := by kernel_rfl
theorem rpl_3 : pureRun Tryz.prog (orc SR2 KG) Tryz.f112 [f3A x y z, g1A a b i] [false, true, false] 500 = some ([(decide (z = 0), false), (decide (nH x z a = 0), true), (decide (nR y z b = 0), false)], .val true (List.replicate 18 (.n .u64 0))) := by kernel_rfl
theorem rpl_4 : pureRun Tryz.prog (orc SR2 KG) Tryz.f112 [f3A x y z, g1A a b i] [false, false] 500 = some ([(decide (z = 0), false), (decide (nH x z a = 0), false)], f3A (nPX x (nH x z a) (nR y z b)) (nPY x y (nH x z a) (nR y z b)) (mulN z (nH x z a))) := by kernel_rfl
end
theorem rpl_ok {x y z a b : Nat} {i : Bool} (hz : z < pN) (ha : a < pN) (hb : b < pN) : PureOk Tryz.prog 112 [f3A x y z, g1A a b i] (f3V (plJ (toJ x y z) (tf a) (tf b))) := by
  have eh := tf_nH x y z a
  have er := tf_nR x y z b
  have zh := tf_z0 (n := nH x z a) (subN_lt _ _)
  have zr := tf_z0 (n := nR y z b) (subN_lt _ _)
  rw [eh] at zh
  rw [er] at zr
  unfold plJ
  by_cases h0 : z = 0
  · rw [if_pos (show (toJ x y z).z = 0 from (tf_z0 hz).1 h0), ← f3V_mk (j := ⟨tf a, tf b, 1⟩) ha hb (show 1 < pN by decide) rfl rfl tf_one]
    exact pure_f3 (pure_ok (orc_ok SR2ok KGok) mixed Tryz.func112 (rpl_1 x y z a b i) ⟨decide_eq_true h0, trivial⟩ rfl) rfl
  · rw [if_neg (show ¬ (toJ x y z).z = 0 from fun e => h0 ((tf_z0 hz).2 e))]
    by_cases hh : nH x z a = 0
    · rw [if_pos (zh.1 hh)]
      by_cases hr : nR y z b = 0
      · rw [if_pos (zr.1 hr)]
        exact pure_ok (orc_ok SR2ok KGok) mixed Tryz.func112 (rpl_2 x y z a b i) ⟨decide_eq_false h0, decide_eq_true hh, decide_eq_true hr, trivial⟩ rfl
      · rw [if_neg (fun e => hr (zr.2 e)), ← f3V_mk (j := ⟨0, 0, 0⟩) pN_pos pN_pos pN_pos tf_zero tf_zero tf_zero]
        exact pure_f3 (pure_ok (orc_ok SR2ok KGok) mixed Tryz.func112 (rpl_3 x y z a b i) ⟨decide_eq_false h0, decide_eq_true hh, decide_eq_false hr, trivial⟩ rfl) (by kernel_rfl)
    · rw [if_neg (fun e => hh (zh.2 e)), ← f3V_mk (j := ⟨pX (toJ x y z).x (pH (toJ x y z) (tf a)) (pR (toJ x y z) (tf b)), pY (toJ x y z).x (toJ x y z).y (pH (toJ x y z) (tf a)) (pR (toJ x y z) (tf b)), (toJ x y z).z * pH (toJ x y z) (tf a)⟩)
        (x := nPX x (nH x z a) (nR y z b)) (y := nPY x y (nH x z a) (nR y z b)) (z := mulN z (nH x z a)) (subN_lt _ _) (subN_lt _ _) (mulN_lt _ _) ?_ ?_ ?_]
      · exact pure_ok (orc_ok SR2ok KGok) mixed Tryz.func112 (rpl_4 x y z a b i) ⟨decide_eq_false h0, decide_eq_false hh, trivial⟩ rfl
      · unfold nPX pX; simp only [tf_subN, tf_mulN, tf_addN, eh, er]; rfl
      · unfold nPY nPX pY pX; simp only [tf_subN, tf_mulN, tf_addN, eh, er]; rfl
      · rw [tf_mulN, eh]; rfl
theorem plSp_gen {f : FuncId} (h : ∀ (x y z a b : Nat) (i : Bool), z < pN → a < pN → b < pN → PureOk Tryz.prog f [f3A x y z, g1A a b i] (f3V (plJ (toJ x y z) (tf a) (tf b)))) : ∀ args c v, plSp args = some (c, v) → okConds c → PureOk Tryz.prog f args v := by
  intro args c v hs hc us w ha
  unfold plSp at hs
  split at hs
  case h_2 => cases hs
  rename_i a b
  split at hs
  case h_2 => cases hs
  rename_i x y z p q i hx hy
  injection hs with hs; injection hs with h1 h2; subst h1; subst h2
  obtain ⟨u1, us1, r1, ⟨u2, us2, r2, ha, rfl⟩, rfl⟩ := ha
  exact h x y z p q i (of_decide_eq_true hc.1) (of_decide_eq_true hc.2.1) (of_decide_eq_true hc.2.2.1) _ w ⟨u1, _, asF3_rel hx r1, ⟨u2, _, (asG1_rel hy r2).1, ha, rfl⟩, rfl⟩
noncomputable def SR3 : List (FuncId × ASpec) := (112, condSpec plSp) :: SR2
theorem SR3ok : SpecsOk Tryz.prog SR3 := ⟨condSpec_ok Tryz.func112 (by kernel_rfl) (by kernel_rfl) (plSp_gen fun _ _ _ _ _ _ => rpl_ok), SR2ok⟩
end Go.Proofs.YtohjpdglbeohpaaGreat
/- sigillaw12: none, awake. -/
namespace Go.Proofs.YtohjpdglbeohpaaGreat
open Ex Num Rg
set_option maxRecDepth 100000
set_option maxHeartbeats 4000000

def eqP (P Q : Pt FP) : Bool := decide (ptX P = ptX Q) && (decide (ptY P = ptY Q) && (ptI P == ptI Q))
theorem eqP_rfl (P : Pt FP) : eqP P P = true := by
  unfold eqP
  rw [decide_eq_true rfl, decide_eq_true rfl]
  cases ptI P <;> rfl
theorem eqP_of {P Q : Pt FP} (h : P = Q) : eqP P Q = true := by rw [h]; exact eqP_rfl Q
theorem eqP_eq {P Q : Pt FP} (h : eqP P Q = true) : P = Q := by
  unfold eqP at h
  simp only [Bool.and_eq_true, decide_eq_true_eq, beq_iff_eq] at h
  rw [← toPt_of P, ← toPt_of Q, h.1, h.2.1, h.2.2]
noncomputable def SN : List (FuncId × ASpec) := SR3
theorem SNok : SpecsOk Tryz.prog SN := SR3ok
noncomputable def aw12C : List (Bool × Bool) := [(true, true), (true, true), (true, true), (true, true), (onP (toPt' G1B), true), (!onP (toPt 0 0 false), true), (onP (toPt' .inf), true), (eqP (add (toPt' G1B) (toPt' (neg (toPt' G1B)))) .inf, true),
  (eqP (add (toPt' G1B) (toPt' G1B)) (mulP (natL (win [2] 0 1)) (toPt' G1B)), true), (decide (mulE (toPt' G1B) = 0), true)]
theorem on_G1B : onP G1B = true := (on_eqN gX gY).symm.trans (by kernel_rfl)
theorem on_00 : onP (toPt 0 0 false) = false := (on_eqN 0 0).symm.trans (by kernel_rfl)
theorem add_neg_any (P : Pt FP) : add P (neg P) = .inf := by
  cases P with
  | inf => rfl
  | pt a b =>
    show add (.pt a b) (.pt a (-b)) = .inf
    rw [add_pt, if_pos rfl, if_neg]
    rintro ⟨h1, h2⟩
    refine two_ne C1 h2 ?_
    have h3 : b + b = b + -b := congrArg (fun t => b + t) h1
    rw [h3]
    grind
def yes12 : List AV → Option AV
  | [] => some (.val false [.b true])
  | _ => none
noncomputable def SA12 : List (FuncId × ASpec) := SN
theorem SA12ok : SpecsOk Tryz.prog SA12 := SNok
end Go.Proofs.YtohjpdglbeohpaaGreat
/- sigilref12.Mul: the contract. -/
namespace Go.Proofs.YtohjpdglbeohpaaGreat
open Ex Num Rg
set_option maxRecDepth 100000
set_option maxHeartbeats 4000000

noncomputable def qmTodo : List Item := todoOf (aSeg Tryz.prog (orc SR3 KG) (some 0) 500 1 none (entry Tryz.f63 [slA 0 0 0 0, g1A 0 0 false] (seqH []) 1 [false, false]))
noncomputable def qmT (off n m : Nat) (i : Int) : List AV := .val false [.sl 0 off n m] :: .any :: .any :: .val false [.p 1 0] :: .val false [.p 2 0] :: .val false [.n .i64 0] :: .any :: .val false [.p 3 0] :: .val false [.p 4 0] :: .val false [.v (.int .i64 i)] :: List.replicate (Tryz.f63.ntmps - 10) .any
noncomputable def qmH (xs : List Int) (x y : Nat) (b : Bool) (P : Pt FP) : Heap := [(0, some (roB [.seq .u64 xs])), (1, some ⟨26, [.num 6 x, .num 6 y, .v (.bool b)], false⟩), (2, some ⟨26, zero12 false, false⟩), (3, some ⟨26, [.num 6 (ptX P), .num 6 (ptY P), .v (.bool (ptI P))], false⟩)]
noncomputable def qmS (x y : Nat) (b : Bool) (off n m : Nat) (xs : List Int) (P : Pt FP) (out : List Ch) (i : Int) (path : List Bool) : ASt := ⟨qmTodo, ⟨qmT off n m i, List.append (qmH xs x y b P) [(4, some ⟨103, out, false⟩)], 5, path⟩⟩
theorem qm_entry (x y : Nat) (i : Bool) (off n m : Nat) (xs : List Int) : aSeg Tryz.prog (orc SR3 KG) (some 0) 500 1 (some ([0, 3, 4, 5, 7, 8, 9], [0, 1, 2, 3, 4], 5)) (entry Tryz.f63 (gmArgs x y i off n m) (seqH xs) 1 [false, false]) =
  some ([(!onP (toPt x y i), false), (i, false), (hasB .i64 n, true)], [], qmS x y i off n m xs (toPt x y i) zero18 (wI (wI (64 * (n : Int)) - 1)) []) := by kernel_rfl
theorem qm_off (x y : Nat) (i : Bool) (off n m : Nat) (xs : List Int) : segOut Tryz.prog (orc SR3 KG) Tryz.f63 500 1 [] (entry Tryz.f63 (gmArgs x y i off n m) (seqH xs) 1 [true]) =
  some ([(!onP (toPt x y i), true)], [], .tup [(true, zero12 false), (false, [.n .i64 120])], []) := by kernel_rfl
theorem qm_inf (x y : Nat) (i : Bool) (off n m : Nat) (xs : List Int) : segOut Tryz.prog (orc SR3 KG) Tryz.f63 500 1 [] (entry Tryz.f63 (gmArgs x y i off n m) (seqH xs) 1 [false, true]) =
  some ([(!onP (toPt x y i), false), (i, true)], [], .tup [(true, zero12 true), (false, [.n .i64 0])], []) := by kernel_rfl
def qmC (off n : Nat) (xs : List Int) (i : Int) (bit : Bool) (r : List (Bool × Bool)) : List (Bool × Bool) := (decide (0 ≤ i), true) :: (true, true) :: (decide (0 ≤ wI (Int.tdiv i 64) ∧ wI (Int.tdiv i 64) < n), true) ::
  (decide (off + (wI (Int.tdiv i 64)).toNat * 1 < xs.length), true) :: (decide (0 ≤ i ∧ (0 : Int) < 64), true) :: (decide (0 ≤ wrapc false .u64 (Int.tmod i 64) ∧ 0 ≤ powW xs off i), true) :: (decide (rpB xs off i = 1), bit) :: r
section
variable (x y : Nat) (b : Bool) (off n m : Nat) (xs : List Int) (P : Pt FP) (j : J FP) (i : Int)
theorem qm_zero : aSeg Tryz.prog (orc SR3 KG) (some 0) 500 1 (some ([0, 3, 4, 5, 7, 8, 9], [0, 1, 2, 3, 4], 5)) (qmS x y b off n m xs P (jC j) i [true, false]) =
  some (qmC off n xs i false [], [], qmS x y b off n m xs P (jC (twJ (toJ' j))) (wI (i - 1)) []) := by kernel_rfl
theorem qm_one : aSeg Tryz.prog (orc SR3 KG) (some 0) 500 1 (some ([0, 3, 4, 5, 7, 8, 9], [0, 1, 2, 3, 4], 5)) (qmS x y b off n m xs P (jC j) i [true, true]) =
  some (qmC off n xs i true [(decide ((twJ (toJ' j)).z.val < pN), true), (decide (ptX P < pN), true), (decide (ptY P < pN), true)], [], qmS x y b off n m xs P (jC (plP j P)) (wI (i - 1)) []) := by kernel_rfl
theorem qm_exit0 : segOut Tryz.prog (orc SR3 KG) Tryz.f63 500 1 [] (qmS x y b off n m xs P (jC j) i [false, true]) =
  some ([(decide (0 ≤ i), false), (decide (j.z.val = 0), true)], [], .tup [(true, zero12 true), (false, [.n .i64 0])], []) := by kernel_rfl
theorem qm_exit1 : segOut Tryz.prog (orc SR3 KG) Tryz.f63 500 1 [] (qmS x y b off n m xs P (jC j) i [false, false]) =
  some ([(decide (0 ≤ i), false), (decide (j.z.val = 0), false)], [], .tup [(true, [.num 6 (mulN j.x.val (mulN (invN j.z.val) (invN j.z.val))), .num 6 (mulN j.y.val (mulN (mulN (invN j.z.val) (invN j.z.val)) (invN j.z.val))), .b false]), (false, [.n .i64 0])], []) := by kernel_rfl
end
theorem qm_wf (x y : Nat) (b : Bool) (off n m : Nat) (xs : List Int) (P : Pt FP) (j : J FP) (i : Int) (p : List Bool) : wfSt Tryz.f63.ntmps (qmS x y b off n m xs P (jC j) i p).s := wfB_ok (by kernel_rfl)
def qmV (Q : Pt FP) : AV := match Q with
  | .inf => .tup [(true, zero12 true), (false, [.n .i64 0])]
  | .pt a b => .tup [(true, [.num 6 a.val, .num 6 b.val, .b false]), (false, [.n .i64 0])]
section
variable {off n m : Nat} {xs : List Int} (hall : ∀ d ∈ xs, 0 ≤ d ∧ d < 18446744073709551616) (hlen : off + n ≤ xs.length) (hn : n ≤ 1125899906842624) {x y : Nat} {b : Bool} {P : Pt FP} (hP : Rg.On C1.b P) (hI : ptI P = false) {β0 : Env} {w0 : World} (hb : ∀ b, 1 ≤ b → β0 b = none)
include hall hlen hn hb hP hI
theorem qm_safe : ∀ (c : Nat) (j : J FP), accJ P (natL (win xs off n)) c j → c ≤ 64 * n → ASafe Tryz.prog 63 β0 w0 (Outs β0 w0 [] (qmV (smul (natL (win xs off n)) P)) []) Tryz.f63.ntmps [] (qmS x y b off n m xs P (jC j) ((c : Int) - 1) []) := by
  intro c
  induction c with
  | zero =>
    intro j hj _
    unfold accJ at hj
    rw [Nat.pow_zero, Nat.div_one] at hj
    rw [← hj]
    by_cases h0 : j.z.val = 0
    · have hz : j.z = 0 := val_zero.1 h0
      rw [ptJ_zero hz]
      exact path_safe [false, true] (out_safe (orc_ok SR3ok KGok) mixed Tryz.func63 (qm_exit0 ..) ⟨rfl, decide_eq_true h0, trivial⟩ (qm_wf ..) hb (fun _ h => by cases h))
    · have hz : j.z ≠ 0 := fun e => h0 (val_zero.2 e)
      rw [ptJ_ne hz]
      have e : qmV (.pt (j.x * (FD.inv j.z * FD.inv j.z)) (j.y * ((FD.inv j.z * FD.inv j.z) * FD.inv j.z))) = .tup [(true, [.num 6 (mulN j.x.val (mulN (invN j.z.val) (invN j.z.val))), .num 6 (mulN j.y.val (mulN (mulN (invN j.z.val) (invN j.z.val)) (invN j.z.val))), .b false]), (false, [.n .i64 0])] := by
        have ei : tf (invN j.z.val) = FD.inv j.z := by rw [tf_inv j.z.isLt, tf_val]; rfl
        have e1 : mulN j.x.val (mulN (invN j.z.val) (invN j.z.val)) = (j.x * (FD.inv j.z * FD.inv j.z) : FP).val := tf_lt (mulN_lt _ _) (Fin.isLt _) (by rw [tf_mulN, tf_mulN, ei, tf_val, tf_val])
        have e2 : mulN j.y.val (mulN (mulN (invN j.z.val) (invN j.z.val)) (invN j.z.val)) = (j.y * ((FD.inv j.z * FD.inv j.z) * FD.inv j.z) : FP).val := tf_lt (mulN_lt _ _) (Fin.isLt _) (by rw [tf_mulN, tf_mulN, tf_mulN, ei, tf_val, tf_val])
        rw [e1, e2]; rfl
      rw [e]
      exact path_safe [false, false] (out_safe (orc_ok SR3ok KGok) mixed Tryz.func63 (qm_exit1 ..) ⟨rfl, decide_eq_false h0, trivial⟩ (qm_wf ..) hb (fun _ h => by cases h))
  | succ c ih =>
    intro j hj hc
    have hi : ((c + 1 : Nat) : Int) - 1 = (c : Int) := by omega
    rw [hi]
    have hlt : ∀ d ∈ win xs off n, 0 ≤ d ∧ d < 18446744073709551616 := win_has hall
    have hq : Int.tdiv (c : Int) 64 = ((c / 64 : Nat) : Int) := by rw [Int.tdiv_eq_ediv_of_nonneg (by omega)]; rfl
    have hr : Int.tmod (c : Int) 64 = ((c % 64 : Nat) : Int) := by rw [Int.tmod_eq_emod_of_nonneg (by omega)]; rfl
    have hw : wI (Int.tdiv (c : Int) 64) = ((c / 64 : Nat) : Int) := by rw [hq]; exact wI_eq (by omega)
    have hjn : c / 64 < n := by omega
    have hv : powW xs off c = (win xs off n).getD (c / 64) 0 := by
      unfold powW
      rw [hw, Int.toNat_natCast, Nat.mul_one]
      exact (bit_word hjn).symm
    have hvb : 0 ≤ powW xs off c ∧ powW xs off c < 18446744073709551616 := by
      rw [hv, List.getD_eq_getElem?_getD]
      cases h : (win xs off n)[c / 64]? with
      | none => simp
      | some d => exact hlt d (List.mem_of_getElem? h)
    obtain ⟨hq1, hq2⟩ := rpB_eq xs off c
    have hbit : rpB xs off c = ((natL (win xs off n) / 2 ^ c % 2 : Nat) : Int) := by
      rw [hq1]
      obtain ⟨V, hV⟩ := Int.eq_ofNat_of_zero_le hvb.1
      rw [hr, ← natL_bit _ c hlt, ← hv, hV, Int.toNat_natCast]
      exact bitI_eq V _ (by omega) (by omega)
    have hnext : wI ((c : Int) - 1) = (c : Int) - 1 := wI_eq (by omega)
    have hconds : ∀ bit r, decide (rpB xs off c = 1) = bit → okConds r → okConds (qmC off n xs c bit r) := by
      intro bit r hbt hr'
      refine ⟨by simp, rfl, ?_, ?_, ?_, ?_, hbt, hr'⟩
      · rw [hw]; simp; omega
      · rw [hw]; simp; omega
      · simp
      · simp only [decide_eq_true_eq]; rw [hq2, hr]; exact ⟨by omega, hvb.1⟩
    have hdiv : natL (win xs off n) / 2 ^ c = 2 * (natL (win xs off n) / 2 ^ (c + 1)) + natL (win xs off n) / 2 ^ c % 2 := by
      rw [Nat.pow_succ, ← Nat.div_div_eq_div_mul]; omega
    unfold accJ at hj
    have hoj : Rg.On C1.b (ptJ j) := by rw [hj]; exact on_smul C1 hP _
    have htw : ptJ (twJ (toJ' j)) = smul (2 * (natL (win xs off n) / 2 ^ (c + 1))) P := by
      rw [toJ'_eq, ptJ_tw C1 hoj, hj, ← smul_add C1 hP, Nat.two_mul]
    rcases Nat.mod_two_eq_zero_or_one (natL (win xs off n) / 2 ^ c) with h0 | h1
    · refine path_safe [true, false] (seg_safe (orc_ok SR3ok KGok) mixed (qm_zero ..) (hconds false [] (by rw [hbit, h0]; rfl) trivial) (qm_wf ..) hb (fun _ h => by cases h) fun _ => ?_)
      rw [hnext]
      refine ih _ ?_ (by omega)
      unfold accJ
      rw [htw, hdiv, h0]; rfl
    · refine path_safe [true, true] (seg_safe (orc_ok SR3ok KGok) mixed (qm_one ..) (hconds true _ (by rw [hbit, h1]; rfl) ⟨decide_eq_true (twJ (toJ' j)).z.isLt, decide_eq_true (ptX_lt P), decide_eq_true (ptY_lt P), trivial⟩) (qm_wf ..) hb (fun _ h => by cases h) fun _ => ?_)
      rw [hnext]
      refine ih _ ?_ (by omega)
      unfold accJ plP
      rw [toJ'_eq (twJ (toJ' j)), ptJ_pl C1 (by rw [htw]; exact on_smul C1 hP _), htw, hdiv, h1]
      cases P with
      | inf => cases hI
      | pt a b =>
        show add _ (.pt (tf a.val) (tf b.val)) = _
        rw [tf_val, tf_val]; rfl
end
theorem qmV_A {β : Env} {Q : Pt FP} {u : Value} (h : relA β (qmV Q) u) : relA β (gmA Q 0) u := by
  cases Q with
  | inf => exact relT2 (fun _ q => (asG1_rel (x := 0) (y := 0) (i := true) (by kernel_rfl) q).1) (fun _ q => gval rfl q) h
  | pt a b => exact relT2 (fun _ q => (asG1_rel (x := a.val) (y := b.val) (i := false) rfl q).1) (fun _ q => gval rfl q) h
theorem qm_can {off n m : Nat} {xs : List Int} (hall : ∀ d ∈ xs, 0 ≤ d ∧ d < 18446744073709551616) (hlen : off + n ≤ xs.length) (hn : n ≤ 1125899906842624) (x y : Nat) (i : Bool) :
    CanOk Tryz.prog 63 (gmArgs x y i off n m) (seqH xs) 1 [] (gmA (mulP (natL (win xs off n)) (toPt x y i)) (mulE (toPt x y i))) [] := by
  have e1 := qm_entry x y i off n m xs
  have e2 := qm_off x y i off n m xs
  have e3 := qm_inf x y i off n m xs
  cases ho : onP (toPt x y i) with
  | false =>
    unfold mulP mulE
    rw [if_neg (by rw [ho]; exact Bool.false_ne_true), if_neg (by rw [ho]; exact Bool.false_ne_true)]
    refine can_val (can_entry (path := [true]) Tryz.func63 (by kernel_rfl) (by kernel_rfl) fun β0 w0 hb =>
      out_safe (orc_ok SR3ok KGok) mixed Tryz.func63 e2 ⟨by rw [ho]; rfl, trivial⟩ (wfB_ok (by kernel_rfl)) hb (fun _ h => by cases h)) fun β u hu => ?_
    exact relT2 (fun _ q => (asG1_rel (x := 0) (y := 0) (i := false) (by kernel_rfl) q).1) (fun _ q => gval rfl q) hu
  | true =>
    have hP := (onP_iff _).1 ho
    unfold mulP mulE
    rw [if_pos ho, if_pos ho]
    cases i with
    | true =>
      rw [show toPt x y true = .inf from rfl, smul_inf]
      exact can_val (can_entry (path := [false, true]) Tryz.func63 (by kernel_rfl) (by kernel_rfl) fun β0 w0 hb =>
        out_safe (orc_ok SR3ok KGok) mixed Tryz.func63 e3 ⟨by rw [ho]; rfl, rfl, trivial⟩ (wfB_ok (by kernel_rfl)) hb (fun _ h => by cases h)) fun β u hu => qmV_A (Q := .inf) hu
    | false =>
      refine can_val (can_entry (path := [false, false]) Tryz.func63 (by kernel_rfl) (by kernel_rfl) fun β0 w0 hb => ?_) fun β u hu => qmV_A hu
      refine seg_safe (orc_ok SR3ok KGok) mixed e1 ⟨by rw [ho]; rfl, rfl, ?_, trivial⟩ (wfB_ok (by kernel_rfl)) hb (fun _ h => by cases h) fun _ => ?_
      · simp only [hasB, Bool.and_eq_true, decide_eq_true_eq]; omega
      · have e4 : wI (wI (64 * (n : Int)) - 1) = ((64 * n : Nat) : Int) - 1 := by
          rw [wI_eq (z := 64 * (n : Int)) (by omega), wI_eq (by omega)]; omega
        rw [e4]
        refine heap_safe zero18_rel (qm_safe hall hlen hn hP rfl hb (64 * n) ⟨0, 0, 0⟩ ?_ (Nat.le_refl _))
        unfold accJ
        have hl := natL_lt (win xs off n) (win_has hall)
        have hl2 : natL (win xs off n) < 2 ^ (64 * n) := by
          unfold win at hl ⊢
          rwa [List.length_take, List.length_drop, Nat.min_eq_left (by omega)] at hl
        rw [ptJ_zero rfl, Nat.div_eq_of_lt hl2]; rfl
noncomputable def SR4 : List (FuncId × ASpec) := (63, nilSpec (wgSp fun l P => gmA (mulP (natL l) P) (mulE P))) :: SA12
theorem SR4ok : SpecsOk Tryz.prog SR4 := ⟨nilSpec_ok (wgSp_ok Tryz.func63 (by kernel_rfl) (by kernel_rfl) (fun _ _ => by kernel_rfl) fun _ _ _ _ x y i hx hl hn => qm_can hx hl hn x y i), SA12ok⟩
end Go.Proofs.YtohjpdglbeohpaaGreat
/- limb.take: what is left of a number, less another one as often as it goes: the walk. -/
namespace Go.Proofs.YtohjpdglbeohpaaGreat
open Ex Num
set_option maxRecDepth 100000
set_option maxHeartbeats 4000000

noncomputable abbrev oTk : Orc := orc S22 K0
def tkH (ls ms : List Int) : Heap := [(0, some ⟨22, [.seq .u64 ls], false⟩), (1, some (roB [.seq .u64 ms]))]
def tkA (n m N M : Nat) : List AV := [.val false [.sl 0 0 N M], .val false [.sl 1 0 n m], .val false [.v (.int .i64 (n : Int))]]
abbrev kA : Option (List Nat × List Nat × Nat) := some ([0, 1, 2], [0, 1], 2)
abbrev kB : Option (List Nat × List Nat × Nat) := some ([0, 1, 2, 6, 8, 9, 10], [0, 1], 2)
def max1 (x : Int) : Int := if 1 > x then 1 else x
def nI (n : Nat) : Int := wI ((n : Int) - 1)
def tkM (ms : List Int) (n : Nat) : Int := ms.getD (0 + (nI n).toNat * 1) 0
def tkL (ls : List Int) (n : Nat) : Int := ls.getD (0 + (n : Int).toNat * 1) 0
def tkQ (ls ms : List Int) (n : Nat) : Int := (((tkL ls n).toNat * W64 + (ls.getD (0 + (nI n).toNat * 1) 0).toNat) / (mW (tkM ms n + 1)).toNat : Nat)
section
variable (ls ms : List Int) (n m N M : Nat) (q b i c : Int)
def tkC (d : Bool) (r : List (Bool × Bool)) : List (Bool × Bool) := (Nat.ble (0 + N) ls.length, true) :: (Nat.ble (0 + n) ms.length, true) :: (hasB .i64 N, true) :: (hasB .i64 n, true) :: (decide (0 ≤ cmpI (natL (win ls 0 N)) (natL (win ms 0 n))), d) :: r
def tkD (d : Bool) (r : List (Bool × Bool)) : List (Bool × Bool) := (decide (0 ≤ nI n ∧ nI n < n), true) :: (decide (0 + (nI n).toNat * 1 < ms.length), true) :: (decide (mW (tkM ms n + 1) = 0), d) :: (decide (0 ≤ (n : Int) ∧ (n : Int) < N), true) :: (decide (0 + (n : Int).toNat * 1 < ls.length), true) :: r
def tkl : Int := ls.getD (0 + i.toNat * 1) 0
def tks : Int := sumW (mulLo q (atV ms 0 n i)) c 0
end
end Go.Proofs.YtohjpdglbeohpaaGreat
/- limb.take: the contract. -/
namespace Go.Proofs.YtohjpdglbeohpaaGreat
open Ex Num
set_option maxRecDepth 100000
set_option maxHeartbeats 4000000

/- what is carried of q times M -/
def cqN (q M i : Nat) : Nat := q * (M % 2 ^ (64 * i)) / 2 ^ (64 * i)
theorem pw_pos (i : Nat) : 0 < 2 ^ (64 * i) := Nat.pow_pos (by decide)
theorem pw_succ (i : Nat) : 2 ^ (64 * (i + 1)) = 2 ^ (64 * i) * 18446744073709551616 := by rw [show 64 * (i + 1) = 64 * i + 64 by omega, Nat.pow_add]
theorem cq_lt {q : Nat} (hq : q < 18446744073709551616) (M i : Nat) : cqN q M i < 18446744073709551616 := by
  unfold cqN
  refine Nat.div_lt_of_lt_mul ?_
  have h1 := Nat.mod_lt M (pw_pos i)
  rcases Nat.eq_zero_or_pos q with rfl | h0
  · rw [Nat.zero_mul]; exact Nat.mul_pos (pw_pos i) (by decide)
  · calc q * (M % 2 ^ (64 * i)) < q * 2 ^ (64 * i) := Nat.mul_lt_mul_of_pos_left h1 h0
      _ ≤ 2 ^ (64 * i) * 18446744073709551616 := by rw [Nat.mul_comm]; exact Nat.mul_le_mul_left _ (by omega)
theorem cq_gen (q M Q W : Nat) (hQ : 0 < Q) : q * (M % (Q * W)) / (Q * W) = (q * (M / Q % W) + q * (M % Q) / Q) / W ∧ q * M / Q % W = (q * (M / Q % W) + q * (M % Q) / Q) % W := by
  have e1 : q * (M % (Q * W)) = q * (M % Q) + Q * (q * (M / Q % W)) := by rw [Nat.mod_mul, Nat.mul_add, Nat.mul_left_comm]
  have e2 : q * (M % (Q * W)) / Q = q * (M / Q % W) + q * (M % Q) / Q := by rw [e1, Nat.add_mul_div_left _ _ hQ]; omega
  refine ⟨by rw [← Nat.div_div_eq_div_mul, e2], ?_⟩
  have e3 : q * M = q * (M % (Q * W)) + Q * (W * (q * (M / (Q * W)))) := by
    have h := Nat.div_add_mod M (Q * W)
    have h2 : q * M = q * (Q * W * (M / (Q * W)) + M % (Q * W)) := by rw [h]
    rw [h2, Nat.mul_add, Nat.add_comm]
    congr 1
    simp only [Nat.mul_left_comm, Nat.mul_assoc]
  rw [e3, Nat.add_mul_div_left _ _ hQ, Nat.add_mul_mod_self_left, e2]
theorem tk_word {q : Nat} (hq : q < 18446744073709551616) (M i : Nat) : sumW (mulLo q (wordN M i)) (cqN q M i) 0 = wordN (q * M) i ∧ mW (mulHi q (wordN M i) + carW (mulLo q (wordN M i)) (cqN q M i) 0) = cqN q M (i + 1) := by
  obtain ⟨h1, h2, h3⟩ := ls_word (a := (q : Int)) (q := wordN M i) (c := cqN q M i) (by omega) (word_bd M i) (by have := cq_lt hq M i; omega)
  obtain ⟨g1, g2⟩ := cq_gen q M (2 ^ (64 * i)) 18446744073709551616 (pw_pos i)
  have e : cqN q M (i + 1) = (q * (M / 2 ^ (64 * i) % 18446744073709551616) + cqN q M i) / 18446744073709551616 := by unfold cqN; rw [pw_succ]; exact g1
  have e' : ((q * (M / 2 ^ (64 * i) % 18446744073709551616) + cqN q M i : Nat) : Int) = q * wordN M i + cqN q M i := by rw [Int.natCast_add, Int.natCast_mul]; rfl
  have g2' : wordN (q * M) i = ((q * (M / 2 ^ (64 * i) % 18446744073709551616) + cqN q M i : Nat) : Int) % 18446744073709551616 := by
    show ((q * M / 2 ^ (64 * i) % 2 ^ 64 : Nat) : Int) = _
    rw [show (2 : Nat) ^ 64 = 18446744073709551616 from rfl, g2]; rfl
  have e'' : ((cqN q M (i + 1) : Nat) : Int) = ((q * (M / 2 ^ (64 * i) % 18446744073709551616) + cqN q M i : Nat) : Int) / 18446744073709551616 := by rw [e]; rfl
  rw [g2', e'', e', h1]
  constructor <;> omega
/- words of a number, as a list -/
def wl (k x : Nat) : List Int := (List.range k).map (wordN x)
theorem wl_len (k x : Nat) : (wl k x).length = k := by simp [wl]
theorem wl_bd {k x : Nat} : ∀ d ∈ wl k x, 0 ≤ d ∧ d < 18446744073709551616 := fun d hd => by
  obtain ⟨i, _, rfl⟩ := List.mem_map.1 hd
  exact word_bd x i
theorem natL_sumL : ∀ {l : List Int}, (∀ d ∈ l, 0 ≤ d ∧ d < 18446744073709551616) → ((natL l : Nat) : Int) = sumL l
  | [], _ => rfl
  | d :: r, h => by
    have hd := h d (by simp)
    have ih := natL_sumL (l := r) fun d h' => h d (by simp [h'])
    simp only [natL, sumL]
    omega
theorem natL_wl {k x : Nat} (h : x < 2 ^ (64 * k)) : natL (wl k x) = x := by
  have := natL_sumL (wl_bd (k := k) (x := x))
  rw [show wl k x = (List.range k).map (wordN x) from rfl, sumL_digits k x h] at this
  exact Int.ofNat.inj this
theorem win_all {l : List Int} {n : Nat} (h : l.length = n) : win l 0 n = l := by subst h; simp [win]
theorem wl_get {k x i : Nat} (h : i < k) : (wl k x).getD i 0 = wordN x i := by simp [wl, List.getD_eq_getElem?_getD, h]
theorem wl_of {l : List Int} (h : ∀ d ∈ l, 0 ≤ d ∧ d < 18446744073709551616) : l = wl l.length (natL l) := (sumL_of l _ h (natL_sumL h)).1
/- the list in the midst of a round -/
def tkO (L T N i : Nat) : List Int := (List.range N).map fun j => if j < i then difD L T j else wordN L j
theorem tkO_get {L T N i : Nat} (h : i < N) : (tkO L T N i).getD i 0 = wordN L i := by simp [tkO, List.getD_eq_getElem?_getD, h]
theorem tkO_set {L T N i : Nat} (h : i < N) : (tkO L T N i).set i (difD L T i) = tkO L T N (i + 1) := by
  refine List.ext_getElem? fun j => ?_
  rw [List.getElem?_set]
  by_cases hj : j < N
  · by_cases e : i = j
    · subst e; simp [tkO, h]
    · simp only [tkO, List.getElem?_map, List.getElem?_range hj, Option.map_some, if_neg e]
      by_cases q : j < i
      · rw [if_pos q, if_pos (by omega)]
      · rw [if_neg q, if_neg (by omega)]
  · have e : i ≠ j := by omega
    rw [if_neg e]
    simp [tkO, hj]
theorem tkO_zero (L T N : Nat) : tkO L T N 0 = wl N L := by simp [tkO, wl]
theorem tkO_end {L T N : Nat} (hT : T ≤ L) (hL : L < 2 ^ (64 * N)) : tkO L T N N = wl N (L - T) := by
  have e : tkO L T N N = (List.range N).map (difD L T) := List.map_congr_left fun j hj => if_pos (List.mem_range.1 hj)
  have h := dif_num (k := N) hL (Nat.lt_of_le_of_lt hT hL)
  have e2 : (L + (2 ^ (64 * N) - T)) % 2 ^ (64 * N) = L - T := by
    rw [show L + (2 ^ (64 * N) - T) = (L - T) + 2 ^ (64 * N) by omega, Nat.add_mod_right, Nat.mod_eq_of_lt (by omega)]
  rw [e2] at h
  have := (sumL_of ((List.range N).map (difD L T)) (L - T) (fun d hd => by obtain ⟨i, _, rfl⟩ := List.mem_map.1 hd; exact difD_bd L T i) h).1
  rw [e, this]
  simp [wl]
theorem top_le {L M Q t q : Nat} (hM : M < (t + 1) * Q) (hq : q ≤ L / Q / (t + 1)) : q * M ≤ L := by
  calc q * M ≤ q * ((t + 1) * Q) := Nat.mul_le_mul_left _ (by omega)
    _ = q * (t + 1) * Q := by rw [Nat.mul_assoc]
    _ ≤ L / Q * Q := Nat.mul_le_mul_right _ (Nat.le_trans (Nat.mul_le_mul_right _ hq) (Nat.div_mul_le_self _ _))
    _ ≤ L := Nat.div_mul_le_self _ _
def tkR (N x : Nat) : Heap := [(0, some ⟨22, [.seq .u64 (wl N x)], false⟩)]
section
variable {ms : List Int} {n m M : Nat} (hm : ∀ d ∈ ms, 0 ≤ d ∧ d < 18446744073709551616) (hl : n ≤ ms.length) (hn : n ≤ 1125899906842624) {V : Nat} (hV : natL (win ms 0 n) = V) (h0 : 0 < V) {β0 : Env} {w0 : World} (hb : ∀ b, 2 ≤ b → β0 b = none)
include hm hl hn hV h0 hb
end
end Go.Proofs.YtohjpdglbeohpaaGreat
/- limb.Mod, by a number whose highest word is not 0: the contract. -/
namespace Go.Proofs.YtohjpdglbeohpaaGreat
open Ex Num
set_option maxRecDepth 100000
set_option maxHeartbeats 4000000

def takeSpec : ASpec := fun args H fr path =>
  match args with
  | [.val false [.sl k off N _], .val false [.sl t off' n _], I] => match asI (some I), hget H k, hget H t with
    | some (_, .i64, i), some ⟨ty, cs, false⟩, some ⟨_, ds, _⟩ => match toSeq .u64 cs, toSeq .u64 ds, Nat.beq k t, Nat.beq off 0 && (Nat.beq off' 0 && Nat.beq ty 22) with
      | some ls, some ms, false, true => some (trR [k, t] 2 fr 0 [0] (.tup []) (tkR N (natL ls % natL (win ms 0 n))) [(Nat.beq N (n + 1), true), (Nat.beq N ls.length, true), (Nat.ble n ms.length, true), (Nat.ble n 1125899906842624, true), (decide (i = n), true), (Nat.blt 0 (natL (win ms 0 n)), true)] path)
      | _, _, _, _ => none
    | _, _, _ => none
  | _ => none
noncomputable def SIa : List (FuncId × ASpec) := S22
theorem SIaok : SpecsOk Tryz.prog SIa := S22ok
noncomputable abbrev oMd : Orc := orc SIa K0
theorem oMdok : OrcOk Tryz.prog oMd := orc_ok SIaok K0ok
/- the walk -/
def mdA (off n m N M : Nat) : List AV := [.val false [.sl 0 off N M], .val false [.sl 1 0 n m]]
def shw (L : Nat) (ls : List Int) (x : Int) : List Int := (List.take (0 + Int.toNat 1 * 1) ls ++ (List.take (Nat.min L (L - Int.toNat 1)) (List.drop 0 ls) ++ List.drop (0 + Int.toNat 1 * 1 + Nat.min L (L - Int.toNat 1) * 1) ls)).set (0 + Int.toNat 0 * 1) x
def shl0 (L : Nat) (ls : List Int) : List Int := List.take (0 + Int.toNat 1 * 1) ls ++ (List.take (Nat.min L (L - Int.toNat 1)) (List.drop 0 ls) ++ List.drop (0 + Int.toNat 1 * 1 + Nat.min L (L - Int.toNat 1) * 1) ls)
def wn1 (n : Nat) : Int := wI ((n : Int) + 1)
section
variable (off : Nat) (xs ms ls : List Int) (n m N M L : Nat) (k i : Int)
def mdV (n L : Nat) : AV := .tup [(false, [.sl 2 0 ((n : Int).toNat - 0) (L - 0)]), (false, [.n .i64 0])]
def mdH (L x : Nat) : Heap := [(2, some ⟨22, [.seq .u64 (wl L x)], false⟩)]
end
theorem shw_eq {n : Nat} {ls : List Int} (h : ls.length = n + 1) (x : Int) : shw (n + 1) ls x = x :: ls.take n := by
  obtain ⟨a, r, rfl⟩ : ∃ a r, ls = a :: r := by cases ls with | nil => simp at h | cons a r => exact ⟨a, r, rfl⟩
  have e1 : Int.toNat 1 = 1 := rfl
  have e0 : Int.toNat 0 = 0 := rfl
  have e2 : Nat.min (n + 1) (n + 1 - 1) = n := Nat.min_eq_right (by omega)
  unfold shw
  rw [e1, e0, e2]
  have e3 : List.drop (0 + 1 * 1 + n * 1) (a :: r) = [] := List.drop_eq_nil_of_le (by simp at h ⊢; omega)
  rw [e3]
  simp
theorem wl_take (n X : Nat) : (wl (n + 1) X).take n = wl n X := by
  unfold wl
  rw [← List.map_take, List.range_succ, List.take_left' (by simp)]
theorem shl0_len {n : Nat} {ls : List Int} (h : ls.length = n + 1) : 0 < (shl0 (n + 1) ls).length := by
  unfold shl0
  rw [List.length_append, List.length_take, h]
  have e1 : Int.toNat 1 = 1 := rfl
  rw [e1]; omega
theorem wl_zero (n : Nat) : wl n 0 = List.replicate n 0 := by
  unfold wl
  refine List.ext_getElem? fun i => ?_
  by_cases h : i < n
  · simp [h, wordN]
  · simp [h]
end Go.Proofs.YtohjpdglbeohpaaGreat
/- limb.Mod on offer; fp.Wide: the contract. -/
namespace Go.Proofs.YtohjpdglbeohpaaGreat
open Ex Num
set_option maxRecDepth 100000
set_option maxHeartbeats 4000000

def modSpec : ASpec := fun args H fr path =>
  match args with
  | [S, .val false [.sl t off' n m]] => match asSl S with
    | some (k, off, N) => match hget H k, hget H t with
      | some ⟨_, cs, _⟩, some ⟨_, ds, _⟩ => match toSeq .u64 cs, toSeq .u64 ds, Nat.beq off' 0 with
        | some xs, some ms, true => some (trR [k, t] 2 fr 1 [] (.tup [(false, [.sl 2 0 n (n + 1)]), (false, [.n .i64 0])]) (mdH (n + 1) (natL (win xs off N) % natL (win ms 0 n)))
            [(Nat.ble (off + N) xs.length, true), (hasB .i64 N, true), (Nat.ble n ms.length, true), (Nat.ble n 1099511627776, true), (Nat.ble n m, true), (Nat.blt 0 n, true), (decide (ms.getD (n - 1) 0 = 0), false)] path)
        | _, _, _ => none
      | _, _ => none
    | none => none
  | _ => none
noncomputable def SId : List (FuncId × ASpec) := SR4
theorem SIdok : SpecsOk Tryz.prog SId := SR4ok
/- words of an array -/
theorem num_of_wl {β β' : Env} {k x : Nat} (h : x < 2 ^ (64 * k)) {l : List Value} (hr : relL β [.seq .u64 (wl k x)] l) : relL β' [.num k x] l := by
  obtain ⟨l1, l2, ⟨h1, _⟩, h2, h3⟩ := hr
  simp only [relL] at h2
  subst h1; subst h2
  rw [List.append_nil] at h3
  have : l = words k x := by
    rw [h3]
    unfold wl words
    rw [List.map_map]; rfl
  rw [this]
  exact relL_num h
def wdWin (l : List Int) : List Int := (wl 7 (natL l % natL (win PL 0 6))).take 6
theorem PL_pN : natL (win PL 0 6) = pN := by kernel_rfl
noncomputable def SIe : List (FuncId × ASpec) := SId
theorem SIeok : SpecsOk Tryz.prog SIe := SIdok
end Go.Proofs.YtohjpdglbeohpaaGreat
/- Powers of p of sums, where p is 0. -/
namespace Go.Proofs.YtohjpdglbeohpaaGreat.Rg
set_option maxRecDepth 100000
set_option maxHeartbeats 4000000

def ch : Nat → Nat → Nat
  | _, 0 => 1
  | 0, _ + 1 => 0
  | n + 1, k + 1 => ch n k + ch n (k + 1)
theorem ch_gt : ∀ {n k : Nat}, n < k → ch n k = 0
  | 0, _ + 1, _ => rfl
  | n + 1, k + 1, h => by simp only [ch]; rw [ch_gt (by omega : n < k), ch_gt (by omega : n < k + 1)]
theorem ch_self : ∀ n, ch n n = 1
  | 0 => rfl
  | n + 1 => by simp only [ch]; rw [ch_self n, ch_gt (Nat.lt_succ_self n)]
theorem ch_mul : ∀ n k, (k + 1) * ch (n + 1) (k + 1) = (n + 1) * ch n k
  | 0, 0 => rfl
  | 0, k + 1 => by simp [ch]
  | n + 1, 0 => by
    have h := ch_mul n 0
    simp only [ch, Nat.mul_one, Nat.zero_add, Nat.one_mul] at h ⊢
    omega
  | n + 1, k + 1 => by
    have h1 := ch_mul n k
    have h2 := ch_mul n (k + 1)
    have e1 : ch (n + 1 + 1) (k + 1 + 1) = ch (n + 1) (k + 1) + ch (n + 1) (k + 1 + 1) := rfl
    have e2 : ch (n + 1) (k + 1) = ch n k + ch n (k + 1) := rfl
    rw [e1, Nat.mul_add, h2, show k + 1 + 1 = (k + 1) + 1 from rfl, Nat.add_mul (k + 1) 1, h1, Nat.one_mul, Nat.add_mul (n + 1) 1, Nat.one_mul]
    conv => rhs; rw [e2, Nat.mul_add]
    omega
theorem ch_dvd {p k : Nat} (hp : Num.Prime p) (h0 : 0 < k) (h1 : k < p) : p ∣ ch p k := by
  obtain ⟨q, rfl⟩ : ∃ q, p = q + 1 := ⟨p - 1, by omega⟩
  obtain ⟨j, rfl⟩ : ∃ j, k = j + 1 := ⟨k - 1, by omega⟩
  have h := ch_mul q j
  have hd : q + 1 ∣ (j + 1) * ch (q + 1) (j + 1) := ⟨_, h⟩
  rcases hp.dvd_mul hd with e | e
  · exact absurd (Nat.le_of_dvd (by omega) e) (by omega)
  · exact e
section
variable {F : Type} [CR F]
def bE (x y : F) : Nat → (Nat → Nat) → F
  | 0, f => nat (f 0)
  | n + 1, f => nat (f 0) * pw y (n + 1) + x * bE x y n fun k => f (k + 1)
theorem pw_s (x : F) (n : Nat) : pw x (n + 1) = pw x n * x := rfl
theorem nat_z : (nat 0 : F) = 0 := rfl
theorem bE_step (x y : F) : ∀ (n : Nat) (d f : Nat → Nat), (∀ k, d (k + 1) = f k) → f (n + 1) = 0 → bE x y (n + 1) (fun k => d k + f k) = nat (d 0) * pw y (n + 1) + (x + y) * bE x y n f
  | 0, d, f, h1, h2 => by
    simp only [bE, pw]
    rw [h1 0, h2, nat_add, Nat.add_zero]
    exact ring [nat (d 0), nat (f 0), x, y] (by kernel_rfl)
  | n + 1, d, f, h1, h2 => by
    have ih := bE_step x y n (fun k => d (k + 1)) (fun k => f (k + 1)) (fun k => h1 (k + 1)) h2
    simp only [bE] at ih ⊢
    rw [ih, h1 0, nat_add, pw_s y (n + 1)]
    generalize pw y (n + 1) = Y
    exact ring [nat (d 0), nat (f 0), x, y, Y, bE x y n fun k => f (k + 1)] (by kernel_rfl)
theorem pw_binom (x y : F) : ∀ n, pw (x + y) n = bE x y n (ch n)
  | 0 => (zero_add 1).symm
  | n + 1 => by
    have h := bE_step x y n (fun k => match k with | 0 => 0 | k + 1 => ch n k) (ch n) (fun _ => rfl) (ch_gt (Nat.lt_succ_self n))
    have e : (fun k => (match k with | 0 => 0 | k + 1 => ch n k) + ch n k) = ch (n + 1) := by
      funext k
      cases k with
      | zero => cases n <;> rfl
      | succ k => rfl
    rw [e] at h
    rw [h, pw_s, pw_binom x y n, nat_z, zero_mul, zero_add, mul_comm]
theorem bE_last (x y : F) : ∀ (n : Nat) (f : Nat → Nat), (∀ k, k < n → (nat (f k) : F) = 0) → bE x y n f = nat (f n) * pw x n
  | 0, f, _ => (mul_one _).symm
  | n + 1, f, h => by
    simp only [bE]
    rw [bE_last x y n _ fun k hk => h (k + 1) (by omega), h 0 (by omega), pw_s x n, zero_mul, zero_add]
    generalize pw x n = X
    exact ring [nat (f (n + 1)), x, X] (by kernel_rfl)
theorem nat_dvd {p m : Nat} (h0 : (nat p : F) = 0) (h : p ∣ m) : (nat m : F) = 0 := by
  obtain ⟨c, rfl⟩ := h
  rw [nat_mul, h0, zero_mul]
/-- The power of p is additive. -/
theorem pw_frob {p : Nat} (hp : Num.Prime p) (h0 : (nat p : F) = 0) (x y : F) : pw (x + y) p = pw x p + pw y p := by
  have h2 := hp.1
  obtain ⟨q, rfl⟩ : ∃ q, p = q + 1 := ⟨p - 1, by omega⟩
  rw [pw_binom]
  simp only [bE]
  rw [bE_last x y q _ fun k hk => nat_dvd h0 (ch_dvd hp (by omega) (by omega)), ch_self, pw_s x q]
  have e : (nat (ch (q + 1) 0) : F) = 1 := by show (0 : F) + 1 = 1; exact zero_add 1
  have e1 : (nat 1 : F) = 1 := zero_add 1
  rw [e, e1]
  generalize pw y (q + 1) = Y
  generalize pw x q = X
  exact ring [x, X, Y] (by kernel_rfl)
end
end Go.Proofs.YtohjpdglbeohpaaGreat.Rg
/- Values of fixed shapes, as cells: numbers modulo p, and what is made of them. -/
namespace Go.Proofs.YtohjpdglbeohpaaGreat
open Ex Num Rg
set_option maxRecDepth 100000
set_option maxHeartbeats 4000000


class Sh (α : Type) where
  R : Type
  n : Nat
  av : R → List Ch
  rd : List Ch → Option R
  mo : R → α
  en : α → R
  mo_en : ∀ x, mo (en x) = x
  rd_ok : ∀ {β β' : Env} {cs : List Ch} {l : List Value} {r : R}, rd cs = some r → relL β cs l → relL β' (av r) l
open Sh (R av rd mo en mo_en)
def lcat {α : Type} : List α → List α → List α
  | [], l => l
  | x :: r, l => x :: lcat r l
theorem lcat_eq {α : Type} : ∀ a b : List α, lcat a b = a ++ b
  | [], _ => rfl
  | x :: r, b => by simp [lcat, lcat_eq r b]
/-- The first so many cells, and the rest, each read in its way. -/
def rdTwo {A B : Type} (n : Nat) (f : List Ch → Option A) (g : List Ch → Option B) (cs : List Ch) : Option (A × B) := match splitCh cs n with
  | some (a, r) => match f a, g r with
    | some x, some y => some (x, y)
    | _, _ => none
  | none => none
theorem rdTwo_ok {A B : Type} {n : Nat} {f : List Ch → Option A} {g : List Ch → Option B} {p : A → List Ch} {q : B → List Ch} {β β' : Env} (hf : ∀ {cs l r}, f cs = some r → relL β cs l → relL β' (p r) l) (hg : ∀ {cs l r}, g cs = some r → relL β cs l → relL β' (q r) l)
    {cs : List Ch} {l : List Value} {r : A × B} (h : rdTwo n f g cs = some r) (hl : relL β cs l) : relL β' (lcat (p r.1) (q r.2)) l := by
  unfold rdTwo at h
  split at h
  case h_2 => cases h
  rename_i a t h1
  split at h
  case h_2 => cases h
  rename_i x y h2 h3
  injection h with h; subst h
  obtain ⟨q1, q2, _⟩ := split_rel h1 hl
  rw [lcat_eq, ← List.take_append_drop n l]
  exact relL_append (hf h2 q1) (hg h3 q2)
instance shFP : Sh FP where
  R := Nat
  n := 6
  av x := [.num 6 x]
  rd := asNum 6
  mo := tf
  en := Fin.val
  mo_en := tf_val
  rd_ok := num_any
def rdB (cs : List Ch) : Option Bool := match cs with
  | [.b x] => some x
  | [.v (.bool x)] => some x
  | _ => none
instance shB : Sh Bool where
  R := Bool
  n := 1
  av x := [.v (.bool x)]
  rd := rdB
  mo x := x
  en x := x
  mo_en _ := rfl
  rd_ok {β β' cs l r} h hl := by
    unfold rdB at h
    split at h
    · injection h with h; subst h
      obtain ⟨l1, l2, h1, h2, h3⟩ := hl
      exact ⟨l1, l2, ⟨h1, rfl, trivial⟩, h2, h3⟩
    · injection h with h; subst h
      obtain ⟨l1, l2, h1, h2, h3⟩ := hl
      exact ⟨l1, l2, h1, h2, h3⟩
    · cases h
section
variable {F : Type} [Sh F]
instance shQ [CR F] {β : F} : Sh (Qx β) where
  R := R F × R F
  n := Sh.n F + Sh.n F
  av r := lcat (av r.1) (av r.2)
  rd := rdTwo (Sh.n F) rd rd
  mo r := ⟨mo r.1, mo r.2⟩
  en x := (en x.a, en x.b)
  mo_en _ := Qx.ext (mo_en _) (mo_en _)
  rd_ok := rdTwo_ok Sh.rd_ok Sh.rd_ok
instance shK [CR F] {ξ : F} : Sh (Kx ξ) where
  R := R F × R F × R F
  n := Sh.n F + (Sh.n F + Sh.n F)
  av r := lcat (av r.1) (lcat (av r.2.1) (av r.2.2))
  rd := rdTwo (Sh.n F) rd (rdTwo (Sh.n F) rd rd)
  mo r := ⟨mo r.1, mo r.2.1, mo r.2.2⟩
  en x := (en x.a, en x.b, en x.c)
  mo_en _ := Kx.ext (mo_en _) (mo_en _) (mo_en _)
  rd_ok := rdTwo_ok (q := fun r : R F × R F => lcat (av r.1) (av r.2)) Sh.rd_ok (rdTwo_ok Sh.rd_ok Sh.rd_ok)
instance shJ : Sh (J F) where
  R := R F × R F × R F
  n := Sh.n F + (Sh.n F + Sh.n F)
  av r := lcat (av r.1) (lcat (av r.2.1) (av r.2.2))
  rd := rdTwo (Sh.n F) rd (rdTwo (Sh.n F) rd rd)
  mo r := ⟨mo r.1, mo r.2.1, mo r.2.2⟩
  en x := (en x.x, en x.y, en x.z)
  mo_en x := by cases x; simp only [mo_en]
  rd_ok := rdTwo_ok (q := fun r : R F × R F => lcat (av r.1) (av r.2)) Sh.rd_ok (rdTwo_ok Sh.rd_ok Sh.rd_ok)
def ptOf (x y : F) (i : Bool) : Pt F := match i with
  | true => .inf
  | false => .pt x y
def pX1 [Zero F] : Pt F → F
  | .inf => 0
  | .pt x _ => x
def pY1 [Zero F] : Pt F → F
  | .inf => 0
  | .pt _ y => y
def pI1 : Pt F → Bool
  | .inf => true
  | .pt _ _ => false
instance shP [Zero F] : Sh (Pt F) where
  R := R F × R F × Bool
  n := Sh.n F + (Sh.n F + 1)
  av r := lcat (av r.1) (lcat (av r.2.1) (av (α := Bool) r.2.2))
  rd := rdTwo (Sh.n F) rd (rdTwo (Sh.n F) rd rdB)
  mo r := ptOf (mo r.1) (mo r.2.1) r.2.2
  en p := (en (pX1 p), en (pY1 p), pI1 p)
  mo_en p := by cases p <;> simp only [pX1, pY1, pI1, ptOf, mo_en]
  rd_ok := rdTwo_ok (q := fun r : R F × Bool => lcat (av r.1) (av (α := Bool) r.2)) Sh.rd_ok (rdTwo_ok Sh.rd_ok shB.rd_ok)
end
def va (α : Type) [Sh α] (r : R α) : AV := .val true (av r)
/-- The value that x is told as. -/
def ve {α : Type} [Sh α] (x : α) : AV := va α (en x)
section
variable (α β γ : Type) [Sh α] [Sh β] [Sh γ]
def ad [Add α] (r s : R α) : R α := en (mo r + mo s : α)
def su [Sub α] (r s : R α) : R α := en (mo r - mo s : α)
def mu [Mul α] (r s : R α) : R α := en (mo r * mo s : α)
def ng [Neg α] (r : R α) : R α := en (- mo r : α)
def iv [FD α] (r : R α) : R α := en (FD.inv (mo r : α))
def re (r : R α) : R α := en (mo r : α)
def ze [Zero α] : R α := en (0 : α)
def sq1 (g : R α → AV) : List AV → Option AV
  | [.val true a] => match rd a with
    | some r => some (g r)
    | none => none
  | _ => none
def sq2 (g : R α → R β → AV) : List AV → Option AV
  | [.val true a, .val true b] => match rd a, rd b with
    | some r, some s => some (g r s)
    | _, _ => none
  | _ => none
def sq3 (g : R α → R β → R γ → AV) : List AV → Option AV
  | [.val true a, .val true b, .val true c] => match rd a, rd b, rd c with
    | some r, some s, some t => some (g r s t)
    | _, _, _ => none
  | _ => none
end
section
variable {α β γ : Type} [Sh α] [Sh β] [Sh γ] {P : Program} {f : FuncId}
theorem va_rel {b b' : Env} {a : List Ch} {r : R α} {u : Value} (h : rd a = some r) (hr : relA b (.val true a) u) : relA b' (va α r) u := by
  obtain ⟨l, hl, rfl⟩ := hr
  exact ⟨l, Sh.rd_ok h hl, rfl⟩
theorem pure_sh {args : List AV} {cs : List Ch} {r : R α} (h : PureOk P f args (.val true cs)) (hc : rd cs = some r) : PureOk P f args (va α r) := pure_val h fun _ hu => va_rel hc hu
theorem sq1_ok {g : R α → AV} (h : ∀ r, PureOk P f [va α r] (g r)) : ∀ args v, sq1 α g args = some v → PureOk P f args v := by
  intro args v hs us w ha
  unfold sq1 at hs
  split at hs
  case h_2 => cases hs
  split at hs
  case h_2 => cases hs
  rename_i r h1
  injection hs with hs; subst hs
  obtain ⟨u1, us1, r1, ha, rfl⟩ := ha
  exact h r _ w ⟨u1, _, va_rel h1 r1, ha, rfl⟩
theorem sq2_ok {g : R α → R β → AV} (h : ∀ r s, PureOk P f [va α r, va β s] (g r s)) : ∀ args v, sq2 α β g args = some v → PureOk P f args v := by
  intro args v hs us w ha
  unfold sq2 at hs
  split at hs
  case h_2 => cases hs
  split at hs
  case h_2 => cases hs
  rename_i r s h1 h2
  injection hs with hs; subst hs
  obtain ⟨u1, us1, r1, ⟨u2, us2, r2, ha, rfl⟩, rfl⟩ := ha
  exact h r s _ w ⟨u1, _, va_rel h1 r1, ⟨u2, _, va_rel h2 r2, ha, rfl⟩, rfl⟩
theorem sq3_ok {g : R α → R β → R γ → AV} (h : ∀ r s t, PureOk P f [va α r, va β s, va γ t] (g r s t)) : ∀ args v, sq3 α β γ g args = some v → PureOk P f args v := by
  intro args v hs us w ha
  unfold sq3 at hs
  split at hs
  case h_2 => cases hs
  split at hs
  case h_2 => cases hs
  rename_i r s t h1 h2 h3
  injection hs with hs; subst hs
  obtain ⟨u1, us1, r1, ⟨u2, us2, r2, ⟨u3, us3, r3, ha, rfl⟩, rfl⟩, rfl⟩ := ha
  exact h r s t _ w ⟨u1, _, va_rel h1 r1, ⟨u2, _, va_rel h2 r2, ⟨u3, _, va_rel h3 r3, ha, rfl⟩, rfl⟩, rfl⟩
end
end Go.Proofs.YtohjpdglbeohpaaGreat
/- Contracts of fp and sigilref04 told over the field. -/
namespace Go.Proofs.YtohjpdglbeohpaaGreat
open Ex Num Rg
open Sh (R av rd mo en mo_en)
set_option maxRecDepth 100000
set_option maxHeartbeats 4000000

theorem adN (x y : Nat) : addN x y = ad FP x y := val_eq (addN_lt x y) (tf_addN x y)
theorem suN (x y : Nat) : subN x y = su FP x y := val_eq (subN_lt x y) (tf_subN x y)
theorem muN (x y : Nat) : mulN x y = mu FP x y := val_eq (mulN_lt x y) (tf_mulN x y)
theorem ngN (x : Nat) : negN x = ng FP x := val_eq (negN_lt x) (tf_negN x)
theorem tf_inv' (x : Nat) : tf (invN x) = invF (tf x) := by
  have e : invN x = invN (x % pN) := by
    unfold invN
    rw [powN_eq, powN_eq]
    exact Nat.pow_mod x (pN - 2) pN
  rw [e]
  unfold invF
  exact congrArg (fun y => tf (invN y)) (show x % pN = (tf x).val from rfl)
theorem iv_FP (x : R FP) : iv FP x = (invF (tf x)).val := rfl
theorem ivN (x : Nat) : invN x = iv FP x := (val_eq (invN_lt x) (tf_inv' x)).trans (iv_FP x).symm
theorem redSp_num (x : Nat) : redSp [num6 x] = some (num6 (x % pN)) := by kernel_rfl
theorem hred_ok (r : R FP) : PureOk Tryz.prog 59 [va FP r] (va FP (re FP r)) := red_ok _ _ (redSp_num r)
noncomputable def SH1 : List (FuncId × ASpec) := (59, pureSpec (sq1 FP fun r => va FP (re FP r))) :: (30, pureSpec (sq2 FP FP fun r s => va FP (ad FP r s))) :: (99, pureSpec (sq2 FP FP fun r s => va FP (su FP r s))) :: (32, pureSpec (sq1 FP fun r => va FP (ng FP r))) :: (31, pureSpec (sq2 FP FP fun r s => va FP (mu FP r s))) :: (96, pureSpec (sq1 FP fun r => va FP (iv FP r))) :: (65, pureSpec (sp1 fun r => va FP (re FP r))) :: (37, pureSpec (sq2 FP FP fun r s => va FP (ad FP r s))) :: (101, pureSpec (sq2 FP FP fun r s => va FP (su FP r s))) :: (38, pureSpec (sq1 FP fun r => va FP (ng FP r))) :: (35, pureSpec (sq2 FP FP fun r s => va FP (mu FP r s))) :: (114, pureSpec (sq1 FP fun r => va FP (iv FP r))) :: SIe
theorem SH1ok : SpecsOk Tryz.prog SH1 := ⟨pureSpec_ok Tryz.func59 (by kernel_rfl) (by kernel_rfl) (sq1_ok hred_ok), pureSpec_ok Tryz.func30 (by kernel_rfl) (by kernel_rfl) (sq2_ok fun r s => by rw [← adN]; exact add_ok r s), pureSpec_ok Tryz.func99 (by kernel_rfl) (by kernel_rfl) (sq2_ok fun r s => by rw [← suN]; exact sub_ok r s), pureSpec_ok Tryz.func32 (by kernel_rfl) (by kernel_rfl) (sq1_ok fun r => by rw [← ngN]; exact neg_ok r), pureSpec_ok Tryz.func31 (by kernel_rfl) (by kernel_rfl) (sq2_ok fun r s => by rw [← muN]; exact mul_ok r s), pureSpec_ok Tryz.func96 (by kernel_rfl) (by kernel_rfl) (sq1_ok fun r => by rw [← ivN]; exact inv_ok r), pureSpec_ok Tryz.func65 (by kernel_rfl) (by kernel_rfl) (sp1_ok fun r h => rr_ok h), pureSpec_ok Tryz.func37 (by kernel_rfl) (by kernel_rfl) (sq2_ok fun r s => by rw [← adN]; exact radd_ok r s), pureSpec_ok Tryz.func101 (by kernel_rfl) (by kernel_rfl) (sq2_ok fun r s => by rw [← suN]; exact rsub_ok r s), pureSpec_ok Tryz.func38 (by kernel_rfl) (by kernel_rfl) (sq1_ok fun r => by rw [← ngN]; exact rneg_ok r), pureSpec_ok Tryz.func35 (by kernel_rfl) (by kernel_rfl) (sq2_ok fun r s => by rw [← muN]; exact rmul_ok r s), pureSpec_ok Tryz.func114 (by kernel_rfl) (by kernel_rfl) (sq1_ok fun r => by rw [← ivN]; exact rinv_ok r), SIeok⟩
end Go.Proofs.YtohjpdglbeohpaaGreat
/- The fields over that of p: with u, with v, with w; the twisted curve. -/
namespace Go.Proofs.YtohjpdglbeohpaaGreat
open Ex Num Rg
open Sh (R av rd mo en mo_en)
set_option maxRecDepth 100000
set_option maxHeartbeats 4000000

/-- What is no power of k. -/
theorem no_pw {k m : Nat} (hk : (pN - 1) / k * k = pN - 1) (hlt : Nat.blt ((pN - 1) / k) RR = true) (h0 : 0 < m) (hc : Nat.beq (pmod pN m 384 ((pN - 1) / k)) 1 = false) (hk0 : 0 < k) (x : Nat) : x ^ k % pN ≠ m := by
  intro h
  have hnd : ¬ pN ∣ x := fun hd => by
    have : x ^ k % pN = 0 := by
      obtain ⟨c, hcc⟩ := hd
      obtain ⟨j, rfl⟩ : ∃ j, k = j + 1 := ⟨k - 1, by omega⟩
      rw [hcc, Nat.pow_succ, Nat.mul_comm, Nat.mul_assoc, Nat.mul_mod_right]
    omega
  have hf := fermat pN_prime hnd
  rw [← hk, Nat.mul_comm, Nat.pow_mul, Nat.pow_mod, h, ← pmod_eq pN 384 m ((pN - 1) / k) (by rw [pow_fuel]; exact nblt.1 hlt)] at hf
  rw [hf] at hc
  cases hc
theorem tf_lit {a b : Nat} (h : Nat.beq (a % pN) (b % pN) = true) : tf a = tf b := tf_eq.2 (nbeq.1 h)
theorem sq_ne {m : Nat} (h : ∀ x : Nat, x ^ 2 % pN ≠ m) (hm : m < pN) (x : FP) : x * x ≠ tf m := fun e => by
  refine h x.val ?_
  have : tf (x.val ^ 2) = tf m := by rw [Nat.pow_two, tf_mul, tf_val]; exact e
  rw [tf_eq, Nat.mod_eq_of_lt hm] at this
  exact this
theorem cube_ne {m : Nat} (h : ∀ x : Nat, x ^ 3 % pN ≠ m) (hm : m < pN) (x : FP) : x * x * x ≠ tf m := fun e => by
  refine h x.val ?_
  have : tf (x.val ^ 3) = tf m := by rw [Nat.pow_succ, Nat.pow_two, tf_mul, tf_mul, tf_val]; exact e
  rw [tf_eq, Nat.mod_eq_of_lt hm] at this
  exact this
theorem k2 : (pN - 1) / 2 * 2 = pN - 1 := by kernel_rfl
theorem k2_lt : Nat.blt ((pN - 1) / 2) RR = true := by kernel_rfl
theorem m1_lt : Nat.blt (pN - 1) pN = true := by kernel_rfl
theorem m1_pos : Nat.blt 0 (pN - 1) = true := by kernel_rfl
theorem tf_m1 : tf (pN - 1) = -1 := by
  have h : tf (pN - 1) + 1 = 0 := by rw [← tf_one, ← tf_add, tf_ne_zero]; kernel_rfl
  exact neg_unique (by rw [Rg.add_comm]; exact h)
theorem nsq_m1 (x : FP) : x * x ≠ -1 := by
  rw [← tf_m1]
  exact sq_ne (no_pw k2 k2_lt (nblt.1 m1_pos) (by kernel_rfl) (by decide)) (nblt.1 m1_lt) x
theorem nsq_2 (x : FP) : x * x ≠ tf 2 := sq_ne (no_pw k2 k2_lt (by decide) (by kernel_rfl) (by decide)) (by decide) x
theorem ncb_2 (x : FP) : x * x * x ≠ tf 2 := cube_ne (no_pw p3 p3_lt (by decide) (by kernel_rfl) (by decide)) (by decide) x
theorem ncb_32 (x : FP) : x * x * x ≠ tf 32 := cube_ne (no_pw p3 p3_lt (by decide) (by kernel_rfl) (by decide)) (by decide) x
abbrev FP2 : Type := Qx (-1 : FP)
noncomputable instance fdFP2 : FD FP2 := fdQ nsq_m1
noncomputable def xi : FP2 := ⟨1, 1⟩
theorem nrm_xi : (xi : FP2).nrm = tf 2 := by
  show (1 : FP) * 1 - -1 * (1 * 1) = tf 2
  rw [show tf 2 = (1 : FP) + 1 from by rw [← tf_one, ← tf_add]]
  exact ring (F := FP) [] (by kernel_rfl)
theorem ncb_xi (x : FP2) : x * x * x ≠ xi := fun e => ncb_2 x.nrm (((Qx.nrm_mul (x * x) x).trans (by rw [Qx.nrm_mul])).symm.trans ((congrArg Qx.nrm e).trans nrm_xi))
theorem nsq_xi (x : FP2) : x * x ≠ xi := fun e => nsq_2 x.nrm ((Qx.nrm_mul x x).symm.trans ((congrArg Qx.nrm e).trans nrm_xi))
abbrev FP6 : Type := Kx xi
noncomputable instance fdFP6 : FD FP6 := fdK ncb_xi
noncomputable def vv : FP6 := ⟨0, 1, 0⟩
theorem nrm_vv : (vv : FP6).nrm = xi := by
  show (0 : FP2) * (0 * 0 - xi * (1 * 0)) + xi * (0 * (xi * (0 * 0) - 0 * 1) + 1 * (1 * 1 - 0 * 0)) = xi
  exact ring [xi] (by kernel_rfl)
theorem nsq_vv (x : FP6) : x * x ≠ vv := fun e => nsq_xi x.nrm ((Kx.nrm_mul x x).symm.trans ((congrArg Kx.nrm e).trans nrm_vv))
abbrev FP12 : Type := Qx vv
noncomputable instance fdFP12 : FD FP12 := fdQ nsq_vv
noncomputable def four2 : FP2 := ⟨four, four⟩
theorem tf_32 : four * four - -1 * (four * four) = tf 32 := by
  have e : four * four = tf 16 := (tf_mul 4 4).symm
  have e2 : tf 16 + tf 16 = tf 32 := (tf_add 16 16).symm
  rw [e, ← e2]
  exact ring [tf 16] (by kernel_rfl)
noncomputable def C2 : Cv FP2 where
  b := four2
  two := fun h => C1.two (by
    have := congrArg Qx.a h
    exact this)
  no2 := fun x y h hy => by
    subst hy
    have h1 : x * x * x = -four2 := neg_unique (by rw [Rg.add_comm, ← h]; exact mul_zero 0)
    refine ncb_32 x.nrm ?_
    rw [← Qx.nrm_mul, ← Qx.nrm_mul, h1, ← tf_32]
    show -four * -four - -1 * (-four * -four) = _
    exact ring [four] (by kernel_rfl)
end Go.Proofs.YtohjpdglbeohpaaGreat
/- Square roots of numbers, and of numbers with u. -/
namespace Go.Proofs.YtohjpdglbeohpaaGreat
open Ex Num Rg
open Sh (R av rd mo en mo_en)
set_option maxRecDepth 100000
set_option maxHeartbeats 4000000

theorem nat_tf : ∀ n, (nat n : FP) = tf n
  | 0 => tf_zero.symm
  | n + 1 => by rw [tf_add, tf_one, ← nat_tf n]; rfl
theorem nat_p : (nat pN : FP) = 0 := by rw [nat_tf]; exact toF_p
theorem fp_cancel {a b c : FP} (h : a + b = a + c) : b = c := add_left_cancel h
noncomputable def isF (x : FP) : Bool := isSqN x.val
noncomputable def rtF (x : FP) : FP := tf (rootN x.val)
def sgF (x : FP) : Bool := Nat.beq (x.val % 2) 1
theorem rtF_sq {x : FP} (h : isF x = true) : rtF x * rtF x = x := by
  obtain ⟨h1, _, _⟩ := rootN_spec h
  unfold rtF
  rw [← tf_mulN, h1, tf_mod, tf_val]
theorem rtF_sg {x : FP} (h : isF x = true) : sgF (rtF x) = false := by
  obtain ⟨_, h2, h3⟩ := rootN_spec h
  unfold sgF rtF
  rw [val_tf h3, h2]; rfl
theorem isF_of {x y : FP} (h : y * y = x) : isF x = true := by
  unfold isF
  by_cases h0 : x.val % pN = 0
  · exact isSqN_zero h0
  · refine (isSqN_iff h0).2 ?_
    have hx : x.val = y.val * y.val % pN := by rw [← h]; rfl
    unfold chiN
    rw [hx, ← Nat.pow_mod, ← Nat.pow_two, ← Nat.pow_mul, Nat.mul_comm 2, k2]
    refine fermat pN_prime fun hd => h0 ?_
    obtain ⟨c, hc⟩ := hd
    rw [hx, hc, Nat.mod_mod, Nat.mul_assoc, Nat.mul_mod_right]
theorem isF_iff {x : FP} : isF x = true ↔ ∃ y, y * y = x := ⟨fun h => ⟨_, rtF_sq h⟩, fun ⟨_, h⟩ => isF_of h⟩
theorem sq_pm {x y : FP} (h : x * x = y * y) : x = y ∨ x = -y := by
  have e : (x - y) * (x + y) = 0 := by
    have : (x - y) * (x + y) = x * x - y * y := ring [x, y] (by kernel_rfl)
    rw [this, h, sub_self]
  rcases zero_or e with e | e
  · exact .inl (sub_zero_iff.1 e)
  · exact .inr (neg_unique (by rw [Rg.add_comm]; exact e))
theorem val_neg {x : FP} (h : x ≠ 0) : (-x).val = pN - x.val := by
  have hx : x.val ≠ 0 := fun e => h (val_zero.1 e)
  have h1 : tf (pN - x.val) = -x := by
    have := tf_negN x.val
    rw [tf_val] at this
    unfold negN at this
    rw [Nat.mod_eq_of_lt x.isLt, tf_mod] at this
    exact this
  rw [← h1, val_tf (by have := x.isLt; omega)]
theorem sgF_neg {x : FP} (h : x ≠ 0) : sgF (-x) = !sgF x := by
  have hx : x.val ≠ 0 := fun e => h (val_zero.1 e)
  unfold sgF
  rw [val_neg h]
  have := x.isLt
  have ho := pN_odd
  have : (pN - x.val) % 2 = (1 + x.val % 2) % 2 := by omega
  rw [this]
  rcases Nat.mod_two_eq_zero_or_one x.val with e | e <;> rw [e] <;> rfl
noncomputable def sg2 (a : FP2) : Bool := if a.a = 0 then sgF a.b else sgF a.a
theorem neg0 {x : FP} : -x = 0 ↔ x = 0 := ⟨fun h => by rw [← neg_neg x, h, neg_zero], fun h => by rw [h, neg_zero]⟩
theorem sg2_neg {a : FP2} (h : a ≠ 0) : sg2 (-a) = !sg2 a := by
  unfold sg2
  show (if -a.a = 0 then sgF (-a.b) else sgF (-a.a)) = _
  by_cases h1 : a.a = 0
  · rw [if_pos (neg0.2 h1), if_pos h1]
    exact sgF_neg fun e => h (Qx.ext h1 e)
  · rw [if_neg fun e => h1 (neg0.1 e), if_neg h1]
    exact sgF_neg h1
theorem sq_pm2 {x y : FP2} (h : x * x = y * y) : x = y ∨ x = -y := by
  have e : (x - y) * (x + y) = 0 := by
    have : (x - y) * (x + y) = x * x - y * y := ring [x, y] (by kernel_rfl)
    rw [this, h, sub_self]
  rcases zero_or e with e | e
  · exact .inl (sub_zero_iff.1 e)
  · exact .inr (neg_unique (by rw [Rg.add_comm]; exact e))
/-- The root whose sign is 0; of what is no square, 0. -/
noncomputable def is2 (a : FP2) : Bool := @decide (∃ s : FP2, s * s = a) (Classical.propDecidable _)
theorem is2_iff {a : FP2} : is2 a = true ↔ ∃ s : FP2, s * s = a := @decide_eq_true_iff _ (Classical.propDecidable _)
theorem rt2_ex (a : FP2) : ∃ x : FP2, (is2 a = true → x * x = a ∧ sg2 x = false) ∧ (is2 a = false → x = 0) := by
  cases h : is2 a with
  | false => exact ⟨0, (fun e => by cases e), fun _ => rfl⟩
  | true =>
    obtain ⟨s, hs⟩ := is2_iff.1 h
    cases hg : sg2 s with
    | false => exact ⟨s, fun _ => ⟨hs, hg⟩, (fun e => by cases e)⟩
    | true =>
      refine ⟨-s, fun _ => ⟨?_, ?_⟩, (fun e => by cases e)⟩
      · rw [← hs]; exact ring [s] (by kernel_rfl)
      · rw [sg2_neg, hg]; rfl
        intro e
        rw [e] at hg
        have : sg2 0 = false := if_pos rfl
        rw [this] at hg; cases hg
noncomputable def rt2 (a : FP2) : FP2 := Classical.choose (rt2_ex a)
theorem rt2_sq {a : FP2} (h : is2 a = true) : rt2 a * rt2 a = a := ((Classical.choose_spec (rt2_ex a)).1 h).1
theorem rt2_sg {a : FP2} (h : is2 a = true) : sg2 (rt2 a) = false := ((Classical.choose_spec (rt2_ex a)).1 h).2
theorem rt2_no {a : FP2} (h : is2 a = false) : rt2 a = 0 := (Classical.choose_spec (rt2_ex a)).2 h
theorem rt2_of {a s : FP2} (h : s * s = a) (hg : sg2 s = false) : rt2 a = s := by
  have hi := is2_iff.2 ⟨s, h⟩
  rcases sq_pm2 ((rt2_sq hi).trans h.symm) with e | e
  · exact e
  · by_cases h0 : s = 0
    · rw [e, h0, neg_zero]
    · have := rt2_sg hi
      rw [e, sg2_neg h0, hg] at this
      cases this
/- the power of p is the conjugate -/
theorem fp_pw : ∀ (x : FP) (n : Nat), (pw x n).val = x.val ^ n % pN
  | x, 0 => (Nat.mod_eq_of_lt (by decide : 1 < pN)).symm
  | x, n + 1 => by
    show ((pw x n).val * x.val) % pN = _
    rw [fp_pw x n, Nat.mod_mul_mod, ← Nat.pow_succ]
theorem pw_p (x : FP) : pw x pN = x := by
  rw [Fin.ext_iff, fp_pw, ← powN_eq, show powN x.val pN = x.val % pN from ?_]
  · exact Nat.mod_eq_of_lt x.isLt
  · rw [powN_eq]
    have e : pN = (pN - 1) + 1 := by have := pN_gt; omega
    by_cases h : x.val % pN = 0
    · rw [Nat.pow_mod, h, Nat.zero_pow pN_pos, Nat.zero_mod]
    · have hf := fermat pN_prime (a := x.val) fun hd => h (Nat.mod_eq_zero_of_dvd hd)
      rw [show x.val ^ pN = x.val ^ (pN - 1) * x.val by rw [← Nat.pow_succ, Nat.succ_eq_add_one, ← e], Nat.mul_mod, hf, Nat.one_mul, Nat.mod_mod]
def emb (x : FP) : FP2 := ⟨x, 0⟩
theorem emb_mul (x y : FP) : emb (x * y) = emb x * emb y := Qx.ext (ring [x, y] (a := x * y) (b := x * y + -1 * (0 * 0)) (by kernel_rfl)) (ring [x, y] (a := 0) (b := x * 0 + 0 * y) (by kernel_rfl))
theorem emb_pw (x : FP) : ∀ n, pw (emb x) n = emb (pw x n)
  | 0 => rfl
  | n + 1 => by simp only [pw]; rw [emb_pw x n, ← emb_mul]
theorem nat_emb : ∀ n, (nat n : FP2) = emb (nat n)
  | 0 => rfl
  | n + 1 => by
    show nat n + 1 = _
    rw [nat_emb n]
    exact Qx.ext rfl (add_zero _)
theorem nat_p2 : (nat pN : FP2) = 0 := by rw [nat_emb, nat_p]; rfl
def uu : FP2 := ⟨0, 1⟩
theorem uu_sq : uu * uu = -1 := Qx.ext (ring (F := FP) [] (a := 0 * 0 + -1 * (1 * 1)) (b := -1) (by kernel_rfl)) (ring (F := FP) [] (a := 0 * 1 + 1 * 0) (b := -0) (by kernel_rfl))
theorem pw_uu : pw uu pN = -uu := by
  have e : pN = 2 * (2 * ((pN - 3) / 4) + 1) + 1 := by kernel_rfl
  refine (congrArg (pw uu) e).trans ?_
  rw [pw_s, pw_pw, show pw uu 2 = -1 from by show 1 * uu * uu = -1; rw [Rg.one_mul, uu_sq], pw_s, pw_pw, show pw (-1 : FP2) 2 = 1 from ring (F := FP2) [] (a := 1 * -1 * -1) (by kernel_rfl)]
  have one : ∀ n, pw (1 : FP2) n = 1 := by
    intro n
    induction n with
    | zero => rfl
    | succ n ih => rw [pw_s, ih, Rg.one_mul]
  rw [one]
  exact ring [uu] (by kernel_rfl)
theorem frob2 (a : FP2) : pw a pN = Qx.conj a := by
  have e : a = emb a.a + emb a.b * uu := Qx.ext (ring [a.a, a.b] (a := a.a) (b := a.a + (a.b * 0 + -1 * (0 * 1))) (by kernel_rfl)) (ring [a.a, a.b] (a := a.b) (b := 0 + (a.b * 1 + 0 * 0)) (by kernel_rfl))
  have h := pw_frob pN_prime nat_p2 (emb a.a) (emb a.b * uu)
  rw [← e, Rg.pw_mul, emb_pw, emb_pw, pw_p, pw_p, pw_uu] at h
  rw [h]
  exact Qx.ext (ring [a.a, a.b] (a := a.a + (a.b * -0 + -1 * (0 * -1))) (b := a.a) (by kernel_rfl)) (ring [a.a, a.b] (a := 0 + (a.b * -1 + 0 * -0)) (b := -a.b) (by kernel_rfl))
end Go.Proofs.YtohjpdglbeohpaaGreat
/- Square roots of numbers with u: what the two ways of reckoning them find. -/
namespace Go.Proofs.YtohjpdglbeohpaaGreat
open Ex Num Rg
open Sh (R av rd mo en mo_en)
set_option maxRecDepth 100000
set_option maxHeartbeats 4000000

theorem sg2_zero : sg2 0 = false := if_pos rfl
theorem is2_eq {a s : FP2} (h : s * s = a) (hg : sg2 s = false) : s = rt2 a ∧ is2 a = true := ⟨(rt2_of h hg).symm, is2_iff.2 ⟨s, h⟩⟩
/-- With the sign 0. -/
noncomputable def ev2 (x : FP2) : FP2 := if sg2 x = true then -x else x
theorem ev2_sg (x : FP2) : sg2 (ev2 x) = false := by
  unfold ev2
  by_cases h : sg2 x = true
  · rw [if_pos h, sg2_neg (fun e => by rw [e, sg2_zero] at h; cases h), h]; rfl
  · rw [if_neg h]; cases hq : sg2 x with | false => rfl | true => exact absurd hq h
theorem ev2_sq (x : FP2) : ev2 x * ev2 x = x * x := by
  unfold ev2
  split
  · exact ring [x] (by kernel_rfl)
  · rfl
/- the program's way -/
noncomputable def tryX (h : FP) (a : FP2) (n : FP) : FP := rtF ((a.a + n) * h)
noncomputable def tryY (h : FP) (a : FP2) (n : FP) : FP := if tryX h a n = 0 then rtF (-a.a) else a.b * h * FD.inv (tryX h a n)
noncomputable def tryO (h : FP) (a : FP2) (n : FP) : FP2 := ev2 ⟨tryX h a n, tryY h a n⟩
noncomputable def tryI (h : FP) (a : FP2) (n : FP) : Bool := (if tryX h a n = 0 then isF (-a.a) else isF ((a.a + n) * h)) && decide (tryO h a n * tryO h a n = a)
theorem try_sound {h : FP} {a : FP2} {n : FP} (ht : tryI h a n = true) : tryO h a n = rt2 a ∧ is2 a = true := by
  unfold tryI at ht
  exact is2_eq (of_decide_eq_true (Bool.and_eq_true_iff.1 ht).2) (ev2_sg _)
theorem sqF_zero {x : FP} (h : x * x = 0) : x = 0 := (zero_or h).elim id id
theorem try_complete {h : FP} (hh : h + h = 1) {a s : FP2} (hs : s * s = a) {n : FP} (hn : n = s.a * s.a + s.b * s.b) : tryI h a n = true := by
  have ea : a.a = s.a * s.a - s.b * s.b := by rw [← hs]; exact ring [s.a, s.b] (a := s.a * s.a + -1 * (s.b * s.b)) (by kernel_rfl)
  have eb : a.b = s.a * s.b + s.b * s.a := by rw [← hs]; rfl
  have h1 : (a.a + n) * h = s.a * s.a := by
    rw [ea, hn]
    exact (ring [s.a, s.b, h] (a := (s.a * s.a - s.b * s.b + (s.a * s.a + s.b * s.b)) * h) (b := s.a * s.a * (h + h)) (by kernel_rfl)).trans (by rw [hh, Rg.mul_one])
  have hi : isF ((a.a + n) * h) = true := isF_of h1.symm
  have hx := rtF_sq hi
  rw [h1] at hx
  have hX : tryX h a n * tryX h a n = s.a * s.a := by unfold tryX; rw [h1]; exact hx
  have fin : ∀ y, (tryX h a n = s.a ∧ y = s.b) ∨ (tryX h a n = -s.a ∧ y = -s.b) ∨ (tryX h a n = s.a ∧ s.a = 0 ∧ y = -s.b) → (⟨tryX h a n, y⟩ : FP2) * ⟨tryX h a n, y⟩ = a := by
    intro y hy
    rcases hy with ⟨e1, e2⟩ | ⟨e1, e2⟩ | ⟨e1, e0, e2⟩
    · rw [e1, e2]; exact hs
    · rw [e1, e2]
      have e : (⟨-s.a, -s.b⟩ : FP2) = -s := rfl
      rw [e, ← hs]; exact ring [s] (by kernel_rfl)
    · rw [e1, e2]
      have e : (⟨s.a, -s.b⟩ : FP2) = -s := Qx.ext (by show s.a = -s.a; rw [e0, neg_zero]) rfl
      rw [e, ← hs]; exact ring [s] (by kernel_rfl)
  unfold tryI
  by_cases h0 : tryX h a n = 0
  · have s0 : s.a = 0 := by
      rw [h0, mul_zero] at hX
      exact sqF_zero hX.symm
    have e2 : s.b * s.b = -a.a := by rw [ea, s0]; exact ring [s.b] (by kernel_rfl)
    rw [if_pos h0, isF_of e2]
    refine Bool.and_eq_true_iff.2 ⟨rfl, decide_eq_true ?_⟩
    unfold tryO
    rw [ev2_sq]
    refine fin _ ?_
    unfold tryY
    rw [if_pos h0]
    rcases sq_pm ((rtF_sq (isF_of e2)).trans e2.symm) with e | e
    · exact .inl ⟨by rw [h0, s0], e⟩
    · exact .inr (.inr ⟨by rw [h0, s0], s0, e⟩)
  · rw [if_neg h0, hi]
    refine Bool.and_eq_true_iff.2 ⟨rfl, decide_eq_true ?_⟩
    unfold tryO
    rw [ev2_sq]
    refine fin _ ?_
    have hy : tryY h a n = s.a * s.b * FD.inv (tryX h a n) := by
      unfold tryY
      rw [if_neg h0, eb]
      congr 1
      exact (ring [s.a, s.b, h] (a := (s.a * s.b + s.b * s.a) * h) (b := s.a * s.b * (h + h)) (by kernel_rfl)).trans (by rw [hh, Rg.mul_one])
    have hv := FD.mul_inv (tryX h a n) h0
    rcases sq_pm hX with e | e
    · refine .inl ⟨e, ?_⟩
      rw [hy]
      calc s.a * s.b * FD.inv (tryX h a n) = s.b * (s.a * FD.inv (tryX h a n)) := ring [s.a, s.b, FD.inv (tryX h a n)] (by kernel_rfl)
        _ = s.b := by rw [← e, hv, Rg.mul_one]
    · refine .inr (.inl ⟨e, ?_⟩)
      rw [hy]
      calc s.a * s.b * FD.inv (tryX h a n) = -s.b * (-s.a * FD.inv (tryX h a n)) := ring [s.a, s.b, FD.inv (tryX h a n)] (by kernel_rfl)
        _ = -s.b := by rw [← e, hv, Rg.mul_one]
theorem nrm_sq {a s : FP2} (hs : s * s = a) : (s.a * s.a + s.b * s.b) * (s.a * s.a + s.b * s.b) = a.a * a.a + a.b * a.b := by
  rw [← hs]
  exact ring [s.a, s.b] (b := (s.a * s.a + -1 * (s.b * s.b)) * (s.a * s.a + -1 * (s.b * s.b)) + (s.a * s.b + s.b * s.a) * (s.a * s.b + s.b * s.a)) (by kernel_rfl)
noncomputable def nrF (a : FP2) : FP := a.a * a.a + a.b * a.b
theorem prog_no {a : FP2} (h : isF (nrF a) = false) : is2 a = false := by
  cases hi : is2 a with
  | false => rfl
  | true =>
    obtain ⟨s, hs⟩ := is2_iff.1 hi
    have := isF_of (nrm_sq hs)
    unfold nrF at h
    rw [this] at h; cases h
theorem prog_fail {h : FP} (hh : h + h = 1) {a : FP2} (hi : isF (nrF a) = true) (h1 : tryI h a (rtF (nrF a)) = false) (h2 : tryI h a (-rtF (nrF a)) = false) : is2 a = false := by
  cases hq : is2 a with
  | false => rfl
  | true =>
    obtain ⟨s, hs⟩ := is2_iff.1 hq
    rcases sq_pm ((rtF_sq hi).trans (nrm_sq hs).symm) with e | e
    · rw [try_complete hh hs e] at h1; cases h1
    · rw [try_complete hh hs (n := -rtF (nrF a)) (by rw [e]; exact neg_neg _)] at h2; cases h2
/- the document's way -/
noncomputable def rfP (a : FP2) : FP2 := pw a ((pN - 3) / 4)
noncomputable def rfX (a : FP2) : FP2 := rfP a * a
noncomputable def rfD (a : FP2) : FP2 := rfP a * rfX a
noncomputable def rfR (a : FP2) : FP2 := if rfD a = -1 then rfX a * uu else pw (1 + rfD a) ((pN - 1) / 2) * rfX a
theorem pw_zero {n : Nat} (h : 0 < n) : pw (0 : FP2) n = 0 := by
  obtain ⟨m, rfl⟩ : ∃ m, n = m + 1 := ⟨n - 1, by omega⟩
  rw [pw_s, mul_zero]
theorem e4 : (pN - 3) / 4 * 4 + 3 = pN := by kernel_rfl
theorem e2' : (pN - 1) / 2 * 2 + 1 = pN := by kernel_rfl
theorem e4_pos : Nat.blt 0 ((pN - 3) / 4) = true := by kernel_rfl
theorem conj_inv {s c : FP2} (hs : s ≠ 0) (h : c * s = Qx.conj s) : c * Qx.conj c = 1 := by
  have h2 : Qx.conj c * Qx.conj s = s := by
    rw [← Qx.conj_mul, h]
    exact Qx.ext rfl (neg_neg _)
  have hcs : Qx.conj s ≠ 0 := fun e => hs (by
    have h1 : s.a = 0 := congrArg Qx.a e
    have h2 : -s.b = 0 := congrArg Qx.b e
    exact Qx.ext h1 (neg0.1 h2))
  have e : (s * Qx.conj s) * (c * Qx.conj c) = (s * Qx.conj s) * 1 := by
    calc (s * Qx.conj s) * (c * Qx.conj c) = (c * s) * (Qx.conj c * Qx.conj s) := ring [s, c, Qx.conj s, Qx.conj c] (by kernel_rfl)
      _ = (s * Qx.conj s) * 1 := by rw [h, h2, Rg.mul_one, Rg.mul_comm]
  exact cancel (mul_ne hs hcs) e
theorem rfR_ok {a : FP2} (hi : is2 a = true) : rfR a * rfR a = a := by
  obtain ⟨s, hs⟩ := is2_iff.1 hi
  generalize hE : (pN - 3) / 4 = E
  have hp : E * 4 + 3 = pN := by rw [← hE]; exact e4
  by_cases h0 : s = 0
  · have ha : a = 0 := by rw [← hs, h0, mul_zero]
    have hb : rfP a = 0 := by unfold rfP; rw [ha]; exact pw_zero (nblt.1 e4_pos)
    have hx : rfX a = 0 := by unfold rfX; rw [hb, zero_mul]
    unfold rfR
    rw [hx]
    split
    · rw [zero_mul, zero_mul, ha]
    · rw [mul_zero, mul_zero, ha]
  · have hB : rfP a = pw s (2 * E) := by unfold rfP; rw [hE, ← hs, pw_pw]; congr 1; show s * s = 1 * s * s; rw [Rg.one_mul]
    have hC : rfD a * s = Qx.conj s := by
      refine Eq.trans ?_ ((congrArg (pw s) (show 2 * E + (2 * E + 2 + 1) = pN by omega)).trans (frob2 s))
      rw [pw_add, pw_s]
      unfold rfD rfX
      rw [hB, ← hs]
      rw [pw_add, show pw s 2 = s * s from by show 1 * s * s = _; rw [Rg.one_mul]]
      generalize pw s (2 * E) = Z
      exact ring [s, Z] (by kernel_rfl)
    have hXX : rfX a * rfX a = a * rfD a := by unfold rfD rfX; exact ring [rfP a, a] (by kernel_rfl)
    have hcc := conj_inv h0 hC
    unfold rfR
    split
    · rename_i hc
      calc rfX a * uu * (rfX a * uu) = rfX a * rfX a * (uu * uu) := ring [rfX a, uu] (by kernel_rfl)
        _ = a := by rw [hXX, hc, uu_sq]; exact ring [a] (by kernel_rfl)
    · rename_i hc
      generalize hH : (pN - 1) / 2 = H
      have hp2 : H * 2 + 1 = pN := by rw [← hH]; exact e2'
      generalize hd : pw (1 + rfD a) H = d
      have h1c : 1 + rfD a ≠ 0 := fun e => hc (neg_unique e)
      have hdd : d * d * (1 + rfD a) = 1 + Qx.conj (rfD a) := by
        have hf := frob2 (1 + rfD a)
        have hf' := (congrArg (pw (1 + rfD a)) hp2).trans hf
        rw [pw_s, pw_pw, hd] at hf'
        have e1 : pw d 2 = d * d := by show 1 * d * d = _; rw [Rg.one_mul]
        rw [e1] at hf'
        rw [hf']
        exact Qx.ext rfl (ring [(rfD a).b] (a := -(0 + (rfD a).b)) (b := 0 + -(rfD a).b) (by kernel_rfl))
      have key : d * d * rfD a = 1 := by
        refine cancel h1c ?_
        calc (1 + rfD a) * (d * d * rfD a) = (d * d * (1 + rfD a)) * rfD a := ring [d, rfD a] (by kernel_rfl)
          _ = rfD a + rfD a * Qx.conj (rfD a) := by rw [hdd]; exact ring [rfD a, Qx.conj (rfD a)] (by kernel_rfl)
          _ = (1 + rfD a) * 1 := by rw [hcc]; exact ring [rfD a] (by kernel_rfl)
      calc d * rfX a * (d * rfX a) = d * d * (rfX a * rfX a) := ring [d, rfX a] (by kernel_rfl)
        _ = a * (d * d * rfD a) := by rw [hXX]; exact ring [d, a, rfD a] (by kernel_rfl)
        _ = a := by rw [key, Rg.mul_one]
theorem ref_yes {a : FP2} (h : rfR a * rfR a = a) : ev2 (rfR a) = rt2 a ∧ is2 a = true := is2_eq ((ev2_sq _).trans h) (ev2_sg _)
theorem ref_no {a : FP2} (h : rfR a * rfR a ≠ a) : is2 a = false := by
  cases hi : is2 a with
  | false => rfl
  | true => exact absurd (rfR_ok hi) h
end Go.Proofs.YtohjpdglbeohpaaGreat
/- fp2 and sigilref07: the contracts. -/
namespace Go.Proofs.YtohjpdglbeohpaaGreat
open Ex Num Rg
open Sh (R av rd mo en mo_en)
set_option maxRecDepth 100000
set_option maxHeartbeats 4000000

def Qx.sc {F : Type} [CR F] {β : F} (x : Qx β) (k : F) : Qx β := ⟨x.a * k, x.b * k⟩
noncomputable def cj (r : R FP2) : R FP2 := en (Qx.conj (mo r : FP2))
noncomputable def sc (r : R FP2) (k : R FP) : R FP2 := en (Qx.sc (mo r : FP2) (mo k))
noncomputable def mx (r : R FP2) : R FP2 := en ((mo r : FP2) * xi)
def KH : List (TypeId × List (Option IntKind)) := (38, List.replicate 12 (some .u64)) :: (40, List.replicate 24 (some .u64) ++ [none]) :: (117, List.replicate 36 (some .u64)) :: KG
theorem KHok : KindsOk Tryz.prog KH := ⟨⟨by kernel_rfl, by kernel_rfl, by kernel_rfl⟩, ⟨by kernel_rfl, by kernel_rfl, by kernel_rfl⟩, ⟨by kernel_rfl, by kernel_rfl, by kernel_rfl⟩, KGok⟩
theorem e2mul (r s : R FP2) : (su FP (mu FP r.1 s.1) (mu FP r.2 s.2), su FP (mu FP (ad FP r.1 r.2) (ad FP s.1 s.2)) (ad FP (mu FP r.1 s.1) (mu FP r.2 s.2))) = mu FP2 r s := by
  refine Prod.ext ?_ ?_ <;> simp only [su, mu, ad, mo_en]
  · exact congrArg (en (α := FP)) (ring [tf r.1, tf r.2, tf s.1, tf s.2] (a := tf r.1 * tf s.1 - tf r.2 * tf s.2) (b := tf r.1 * tf s.1 + -1 * (tf r.2 * tf s.2)) (by kernel_rfl))
  · exact congrArg (en (α := FP)) (ring [tf r.1, tf r.2, tf s.1, tf s.2] (a := (tf r.1 + tf r.2) * (tf s.1 + tf s.2) - (tf r.1 * tf s.1 + tf r.2 * tf s.2)) (b := tf r.1 * tf s.2 + tf r.2 * tf s.1) (by kernel_rfl))
theorem e2mul' (r s : R FP2) : (su FP (mu FP r.1 s.1) (mu FP r.2 s.2), ad FP (mu FP r.1 s.2) (mu FP r.2 s.1)) = mu FP2 r s := by
  refine Prod.ext ?_ ?_ <;> simp only [su, mu, ad, mo_en]
  · exact congrArg (en (α := FP)) (ring [tf r.1, tf r.2, tf s.1, tf s.2] (a := tf r.1 * tf s.1 - tf r.2 * tf s.2) (b := tf r.1 * tf s.1 + -1 * (tf r.2 * tf s.2)) (by kernel_rfl))
  · rfl
theorem e2xi (r : R FP2) : (su FP r.1 r.2, ad FP r.1 r.2) = mx r := by
  refine Prod.ext ?_ ?_ <;> simp only [su, ad, mx]
  · exact congrArg (en (α := FP)) (ring [tf r.1, tf r.2] (a := tf r.1 - tf r.2) (b := tf r.1 * 1 + -1 * (tf r.2 * 1)) (by kernel_rfl))
  · exact congrArg (en (α := FP)) (ring [tf r.1, tf r.2] (a := tf r.1 + tf r.2) (b := tf r.1 * 1 + tf r.2 * 1) (by kernel_rfl))
theorem nrm2 (x : FP2) : x.nrm = x.a * x.a + x.b * x.b := ring [x.a, x.b] (a := x.a * x.a - -1 * (x.b * x.b)) (by kernel_rfl)
theorem e2inv (r : R FP2) : sc (cj r) (iv FP (ad FP (mu FP r.1 r.1) (mu FP r.2 r.2))) = iv FP2 r := by
  simp only [sc, cj, iv, mu, ad, mo_en]
  have e := nrm2 (mo r : FP2)
  show en (Qx.sc (Qx.conj (mo r : FP2)) (FD.inv ((mo r : FP2).a * (mo r : FP2).a + (mo r : FP2).b * (mo r : FP2).b))) = en (invQ (mo r : FP2))
  rw [← e]; rfl
theorem e2inv' (r : R FP2) : sc (cj r) (iv FP (mu FP2 r (cj r)).1) = iv FP2 r := by
  simp only [sc, cj, iv, mu, mo_en, Qx.mul_conj]
  show en (Qx.sc (Qx.conj (mo r : FP2)) (FD.inv (mo (en (mo r : FP2).nrm) : FP))) = en (invQ (mo r : FP2))
  rw [mo_en]; rfl
noncomputable abbrev oH1 : Orc := orc SH1 KH
theorem oH1ok : OrcOk Tryz.prog oH1 := orc_ok SH1ok KHok
section
variable (r s : R FP2) (k : R FP)
theorem f2red_run : pureRun Tryz.prog oH1 Tryz.f91 [va FP2 r] [] 300 = some ([], va FP2 (re FP2 r)) := by kernel_rfl
theorem f2add_run : pureRun Tryz.prog oH1 Tryz.f47 [va FP2 r, va FP2 s] [] 300 = some ([], va FP2 (ad FP2 r s)) := by kernel_rfl
theorem f2sub_run : pureRun Tryz.prog oH1 Tryz.f141 [va FP2 r, va FP2 s] [] 300 = some ([], va FP2 (su FP2 r s)) := by kernel_rfl
theorem f2neg_run : pureRun Tryz.prog oH1 Tryz.f49 [va FP2 r] [] 300 = some ([], va FP2 (ng FP2 r)) := by kernel_rfl
theorem f2cj_run : pureRun Tryz.prog oH1 Tryz.f149 [va FP2 r] [] 300 = some ([], va FP2 (cj r)) := by kernel_rfl
theorem f2sc_run : pureRun Tryz.prog oH1 Tryz.f148 [va FP2 r, va FP k] [] 300 = some ([], va FP2 (sc r k)) := by kernel_rfl
theorem r2red_run : pureRun Tryz.prog oH1 Tryz.f93 [va FP2 r] [] 300 = some ([], va FP2 (re FP2 r)) := by kernel_rfl
theorem r2add_run : pureRun Tryz.prog oH1 Tryz.f53 [va FP2 r, va FP2 s] [] 300 = some ([], va FP2 (ad FP2 r s)) := by kernel_rfl
theorem r2neg_run : pureRun Tryz.prog oH1 Tryz.f54 [va FP2 r] [] 300 = some ([], va FP2 (ng FP2 r)) := by kernel_rfl
theorem r2cj_run : pureRun Tryz.prog oH1 Tryz.f144 [va FP2 r] [] 300 = some ([], va FP2 (cj r)) := by kernel_rfl
theorem r2sc_run : pureRun Tryz.prog oH1 Tryz.f145 [va FP2 r, va FP k] [] 300 = some ([], va FP2 (sc r k)) := by kernel_rfl
theorem r2mul_run : pureRun Tryz.prog oH1 Tryz.f51 [va FP2 r, va FP2 s] [] 300 = some ([], va FP2 (su FP (mu FP r.1 s.1) (mu FP r.2 s.2), ad FP (mu FP r.1 s.2) (mu FP r.2 s.1))) := by kernel_rfl
noncomputable abbrev oH1' : Orc := orc ((98, inlSpec Tryz.prog oH1 Tryz.f98 300) :: SH1) KH
theorem oH1'ok : OrcOk Tryz.prog oH1' := orc_ok ⟨inl_ok oH1ok mixed Tryz.func98 (by kernel_rfl) (by kernel_rfl) 300, SH1ok⟩ KHok
theorem f2mul_run : pureRun Tryz.prog oH1' Tryz.f48 [va FP2 r, va FP2 s] [] 300 = some ([], va FP2 (su FP (mu FP r.1 s.1) (mu FP r.2 s.2), su FP (mu FP (ad FP r.1 r.2) (ad FP s.1 s.2)) (ad FP (mu FP r.1 s.1) (mu FP r.2 s.2)))) := by kernel_rfl
end
noncomputable def SH2 : List (FuncId × ASpec) := (91, pureSpec (sq1 FP2 fun r => va FP2 (re FP2 r))) :: (47, pureSpec (sq2 FP2 FP2 fun r s => va FP2 (ad FP2 r s))) :: (141, pureSpec (sq2 FP2 FP2 fun r s => va FP2 (su FP2 r s))) :: (49, pureSpec (sq1 FP2 fun r => va FP2 (ng FP2 r))) :: (149, pureSpec (sq1 FP2 fun r => va FP2 (cj r))) :: (148, pureSpec (sq2 FP2 FP fun r k => va FP2 (sc r k))) :: (48, pureSpec (sq2 FP2 FP2 fun r s => va FP2 (mu FP2 r s))) :: (93, pureSpec (sq1 FP2 fun r => va FP2 (re FP2 r))) :: (53, pureSpec (sq2 FP2 FP2 fun r s => va FP2 (ad FP2 r s))) :: (54, pureSpec (sq1 FP2 fun r => va FP2 (ng FP2 r))) :: (144, pureSpec (sq1 FP2 fun r => va FP2 (cj r))) :: (145, pureSpec (sq2 FP2 FP fun r k => va FP2 (sc r k))) :: (51, pureSpec (sq2 FP2 FP2 fun r s => va FP2 (mu FP2 r s))) :: SH1
theorem SH2ok : SpecsOk Tryz.prog SH2 := ⟨pureSpec_ok Tryz.func91 (by kernel_rfl) (by kernel_rfl) (sq1_ok fun r => pure_ok oH1ok mixed Tryz.func91 (f2red_run r) trivial rfl), pureSpec_ok Tryz.func47 (by kernel_rfl) (by kernel_rfl) (sq2_ok fun r s => pure_ok oH1ok mixed Tryz.func47 (f2add_run r s) trivial rfl), pureSpec_ok Tryz.func141 (by kernel_rfl) (by kernel_rfl) (sq2_ok fun r s => pure_ok oH1ok mixed Tryz.func141 (f2sub_run r s) trivial rfl), pureSpec_ok Tryz.func49 (by kernel_rfl) (by kernel_rfl) (sq1_ok fun r => pure_ok oH1ok mixed Tryz.func49 (f2neg_run r) trivial rfl), pureSpec_ok Tryz.func149 (by kernel_rfl) (by kernel_rfl) (sq1_ok fun r => pure_ok oH1ok mixed Tryz.func149 (f2cj_run r) trivial rfl), pureSpec_ok Tryz.func148 (by kernel_rfl) (by kernel_rfl) (sq2_ok fun r s => pure_ok oH1ok mixed Tryz.func148 (f2sc_run r s) trivial rfl), pureSpec_ok Tryz.func48 (by kernel_rfl) (by kernel_rfl) (sq2_ok fun r s => by rw [← e2mul]; exact pure_ok oH1'ok mixed Tryz.func48 (f2mul_run r s) trivial rfl), pureSpec_ok Tryz.func93 (by kernel_rfl) (by kernel_rfl) (sq1_ok fun r => pure_ok oH1ok mixed Tryz.func93 (r2red_run r) trivial rfl), pureSpec_ok Tryz.func53 (by kernel_rfl) (by kernel_rfl) (sq2_ok fun r s => pure_ok oH1ok mixed Tryz.func53 (r2add_run r s) trivial rfl), pureSpec_ok Tryz.func54 (by kernel_rfl) (by kernel_rfl) (sq1_ok fun r => pure_ok oH1ok mixed Tryz.func54 (r2neg_run r) trivial rfl), pureSpec_ok Tryz.func144 (by kernel_rfl) (by kernel_rfl) (sq1_ok fun r => pure_ok oH1ok mixed Tryz.func144 (r2cj_run r) trivial rfl), pureSpec_ok Tryz.func145 (by kernel_rfl) (by kernel_rfl) (sq2_ok fun r s => pure_ok oH1ok mixed Tryz.func145 (r2sc_run r s) trivial rfl), pureSpec_ok Tryz.func51 (by kernel_rfl) (by kernel_rfl) (sq2_ok fun r s => by rw [← e2mul']; exact pure_ok oH1ok mixed Tryz.func51 (r2mul_run r s) trivial rfl), SH1ok⟩
noncomputable abbrev oH2 : Orc := orc SH2 KH
theorem oH2ok : OrcOk Tryz.prog oH2 := orc_ok SH2ok KHok
section
variable (r s : R FP2)
theorem f2inv_run : pureRun Tryz.prog oH2 Tryz.f142 [va FP2 r] [] 300 = some ([], va FP2 (sc (cj r) (iv FP (ad FP (mu FP r.1 r.1) (mu FP r.2 r.2))))) := by kernel_rfl
theorem r2sub_run : pureRun Tryz.prog oH2 Tryz.f143 [va FP2 r, va FP2 s] [] 300 = some ([], va FP2 (ad FP2 r (ng FP2 s))) := by kernel_rfl
theorem r2inv_run : pureRun Tryz.prog oH2 Tryz.f134 [va FP2 r] [] 300 = some ([], va FP2 (sc (cj r) (iv FP (mu FP2 r (cj r)).1))) := by kernel_rfl
end
theorem e2sub (r s : R FP2) : ad FP2 r (ng FP2 s) = su FP2 r s := by simp only [ad, ng, su, mo_en, sub_eq]
theorem e2xi' (r : R FP2) : mu FP2 r ((1 : Nat), (1 : Nat)) = mx r := by
  unfold mu mx
  exact congrArg (fun x => en ((mo r : FP2) * x)) (Qx.ext tf_one tf_one)
noncomputable def SH3 : List (FuncId × ASpec) := (142, pureSpec (sq1 FP2 fun r => va FP2 (iv FP2 r))) :: (143, pureSpec (sq2 FP2 FP2 fun r s => va FP2 (su FP2 r s))) :: (134, pureSpec (sq1 FP2 fun r => va FP2 (iv FP2 r))) :: SH2
theorem SH3ok : SpecsOk Tryz.prog SH3 := ⟨pureSpec_ok Tryz.func142 (by kernel_rfl) (by kernel_rfl) (sq1_ok fun r => by rw [← e2inv]; exact pure_ok oH2ok mixed Tryz.func142 (f2inv_run r) trivial rfl), pureSpec_ok Tryz.func143 (by kernel_rfl) (by kernel_rfl) (sq2_ok fun r s => by rw [← e2sub]; exact pure_ok oH2ok mixed Tryz.func143 (r2sub_run r s) trivial rfl), pureSpec_ok Tryz.func134 (by kernel_rfl) (by kernel_rfl) (sq1_ok fun r => by rw [← e2inv']; exact pure_ok oH2ok mixed Tryz.func134 (r2inv_run r) trivial rfl), SH2ok⟩
noncomputable abbrev oH3 : Orc := orc SH3 KH
theorem oH3ok : OrcOk Tryz.prog oH3 := orc_ok SH3ok KHok
end Go.Proofs.YtohjpdglbeohpaaGreat
/- g2: b, Base, Reduce, Neg, On, Add: the contracts. -/
namespace Go.Proofs.YtohjpdglbeohpaaGreat
open Ex Num Rg
open Sh (R av rd mo en mo_en)
set_option maxRecDepth 100000
set_option maxHeartbeats 4000000

abbrev P2 : Type := Pt FP2
def dq (x y : Nat) : Bool := decide (x = y)
def eqR (r s : R FP2) : Bool := dq r.1 s.1 && dq r.2 s.2
theorem dq_val (x y : FP) : dq x.val y.val = decide (x = y) := by
  unfold dq
  by_cases h : x = y
  · rw [decide_eq_true h, decide_eq_true (congrArg Fin.val h)]
  · rw [decide_eq_false h, decide_eq_false fun e => h (Fin.ext e)]
theorem eqR_en (x y : FP2) : eqR (en x) (en y) = decide (x = y) := by
  show (dq x.a.val y.a.val && dq x.b.val y.b.val) = _
  rw [dq_val, dq_val]
  by_cases h : x = y
  · subst h; rw [decide_eq_true rfl, decide_eq_true rfl, decide_eq_true rfl]; rfl
  · rw [decide_eq_false h]
    by_cases h1 : x.a = y.a
    · rw [decide_eq_false fun h2 => h (Qx.ext h1 h2), Bool.and_false]
    · rw [decide_eq_false h1, Bool.false_and]
def eqZ (r : R FP2) : Bool := dq r.1 0 && dq r.2 0
theorem eqZ_en (x : FP2) : eqZ (en x) = decide (x = 0) := eqR_en x 0
def G2bC : List Ch := [.n .u64 4, .n .u64 0, .n .u64 0, .n .u64 0, .n .u64 0, .n .u64 0, .n .u64 4, .n .u64 0, .n .u64 0, .n .u64 0, .n .u64 0, .n .u64 0]
theorem g2b_run : pureRun Tryz.prog oH3 Tryz.f100 [] [] 100 = some ([], .val true G2bC) := by kernel_rfl
def zero24 (i : Bool) : List Ch := List.replicate 24 (.n .u64 0) ++ [.b i]
noncomputable def B2x : FP2 := ⟨tf 0x24aa2b2f08f0a91260805272dc51051c6e47ad4fa403b02b4510b647ae3d1770bac0326a805bbefd48056c8c121bdb8, tf 0x13e02b6052719f607dacd3a088274f65596bd0d09920b61ab5da61bbdc7f5049334cf11213945d57e5ac7d055d042b7e⟩
noncomputable def B2y : FP2 := ⟨tf 0xce5d527727d6e118cc9cdc6da2e351aadfd9baa8cbdd3a76d429a695160d12c923ac9cc3baca289e193548608b82801, tf 0x606c4a02ea734cc32acd2b02bc28b99cb3e287e85a763af267492ab572e99ab3f370d275cec1da1aaa9075ff05f79be⟩
noncomputable def G2B : P2 := .pt B2x B2y
def g2BC : List Ch := [.n .u64 0xd48056c8c121bdb8, .n .u64 0xbac0326a805bbef, .n .u64 0xb4510b647ae3d177, .n .u64 0xc6e47ad4fa403b02, .n .u64 0x260805272dc51051, .n .u64 0x24aa2b2f08f0a91, .n .u64 0xe5ac7d055d042b7e, .n .u64 0x334cf11213945d57, .n .u64 0xb5da61bbdc7f5049, .n .u64 0x596bd0d09920b61a, .n .u64 0x7dacd3a088274f65, .n .u64 0x13e02b6052719f60,
  .n .u64 0xe193548608b82801, .n .u64 0x923ac9cc3baca289, .n .u64 0x6d429a695160d12c, .n .u64 0xadfd9baa8cbdd3a7, .n .u64 0x8cc9cdc6da2e351a, .n .u64 0xce5d527727d6e11, .n .u64 0xaaa9075ff05f79be, .n .u64 0x3f370d275cec1da1, .n .u64 0x267492ab572e99ab, .n .u64 0xcb3e287e85a763af, .n .u64 0x32acd2b02bc28b99, .n .u64 0x606c4a02ea734cc, .b false]
theorem g2base_run : pureRun Tryz.prog oH3 Tryz.f17 [] [] 100 = some ([], .val true g2BC) := by kernel_rfl
def ev (α : Type) [Sh α] (x : AV) : List AV → Option AV | [] => some x | _ => none
section
variable (r s : R P2)
theorem g2red_i : pureRun Tryz.prog oH3 Tryz.f41 [va P2 r] [true] 300 = some ([(r.2.2, true)], .val true (zero24 true)) := by kernel_rfl
theorem g2red_p : pureRun Tryz.prog oH3 Tryz.f41 [va P2 r] [false] 300 = some ([(r.2.2, false)], .val true (lcat (av (re FP2 r.1)) (lcat (av (re FP2 r.2.1)) [.b false]))) := by kernel_rfl
end
theorem g2red_ok (r : R P2) : PureOk Tryz.prog 41 [va P2 r] (ve (mo r : P2)) := by
  have h1 := g2red_i r
  have h2 := g2red_p r
  obtain ⟨x, y, i⟩ := r
  cases i with
  | true => exact pure_sh (α := P2) (r := (en (.inf : P2) : R P2)) (pure_ok oH3ok mixed Tryz.func41 h1 ⟨rfl, trivial⟩ rfl) (by kernel_rfl)
  | false => exact pure_sh (α := P2) (r := ((re FP2 x, re FP2 y, false) : R P2)) (pure_ok oH3ok mixed Tryz.func41 h2 ⟨rfl, trivial⟩ rfl) (by kernel_rfl)
noncomputable def SJ0 : List (FuncId × ASpec) := (100, pureSpec (ev FP2 (ve four2))) :: (17, pureSpec (ev P2 (ve G2B))) :: (41, pureSpec (sq1 P2 fun r => ve (mo r : P2))) :: SH3
theorem ev_ok {α : Type} [Sh α] {P : Program} {f : FuncId} {x : AV} (h : PureOk P f [] x) : ∀ args v, ev α x args = some v → PureOk P f args v := by
  intro args v hs
  unfold ev at hs
  split at hs
  · injection hs with hs; subst hs; exact h
  · cases hs
theorem g2b_ok : PureOk Tryz.prog 100 [] (ve four2) := pure_sh (α := FP2) (r := (en four2 : R FP2)) (pure_ok oH3ok mixed Tryz.func100 g2b_run trivial rfl) (by kernel_rfl)
theorem g2base_ok : PureOk Tryz.prog 17 [] (ve G2B) := pure_sh (α := P2) (r := (en G2B : R P2)) (pure_ok oH3ok mixed Tryz.func17 g2base_run trivial rfl) (by kernel_rfl)
theorem SJ0ok : SpecsOk Tryz.prog SJ0 := ⟨pureSpec_ok Tryz.func100 (by kernel_rfl) (by kernel_rfl) (ev_ok g2b_ok), pureSpec_ok Tryz.func17 (by kernel_rfl) (by kernel_rfl) (ev_ok g2base_ok), pureSpec_ok Tryz.func41 (by kernel_rfl) (by kernel_rfl) (sq1_ok g2red_ok), SH3ok⟩
noncomputable abbrev oJ0 : Orc := orc SJ0 KH
theorem oJ0ok : OrcOk Tryz.prog oJ0 := orc_ok SJ0ok KHok
/- Neg, On -/
noncomputable def rX (p : P2) : R FP2 := (en p).1
noncomputable def rY (p : P2) : R FP2 := (en p).2.1
noncomputable def cvN (x y : R FP2) : Bool := eqR (mu FP2 y y) (ad FP2 (mu FP2 (mu FP2 x x) x) (en four2))
noncomputable def on2 (p : P2) : Bool := match p with
  | .inf => true
  | .pt x y => decide (y * y = x * x * x + four2)
theorem on2_iff (p : P2) : on2 p = true ↔ Rg.On C2.b p := by
  cases p with
  | inf => exact ⟨fun _ => trivial, fun _ => rfl⟩
  | pt a b => exact decide_eq_true_iff
theorem cvN_eq (x y : R FP2) : cvN x y = on2 (.pt (mo x) (mo y)) := by
  unfold cvN mu ad on2
  rw [eqR_en]
  simp only [mo_en]
section
variable (r : R P2)
theorem g2on_i : pureRun Tryz.prog oJ0 Tryz.f50 [va P2 r] [true] 300 = some ([(r.2.2, true)], .val false [.b true]) := by kernel_rfl
theorem g2on_p : pureRun Tryz.prog oJ0 Tryz.f50 [va P2 r] [false] 300 = some ([(r.2.2, false)], boolA (cvN r.1 r.2.1)) := by kernel_rfl
end
theorem neg_en (p : P2) : (rX p, ng FP2 (rY p), pI1 p) = (en (Rg.neg p) : R P2) := by
  cases p with
  | inf =>
    show ((en (0 : FP2), ng FP2 (en (0 : FP2)), true) : R P2) = (en (0 : FP2), en (0 : FP2), true)
    unfold ng
    rw [mo_en, neg_zero]
  | pt a b =>
    show ((en a, ng FP2 (en b), false) : R P2) = (en a, en (-b), false)
    unfold ng
    rw [mo_en]
theorem g2on_ok (r : R P2) : PureOk Tryz.prog 50 [va P2 r] (boolA (on2 (mo r))) := by
  have h1 := g2on_i r
  have h2 := g2on_p r
  obtain ⟨x, y, i⟩ := r
  cases i with
  | true => exact pure_val (pure_ok oJ0ok mixed Tryz.func50 h1 ⟨rfl, trivial⟩ rfl) fun u hu => bv_one rfl hu
  | false =>
    rw [show on2 (mo ((x, y, false) : R P2)) = on2 (.pt (mo x) (mo y)) from rfl, ← cvN_eq]
    exact pure_ok oJ0ok mixed Tryz.func50 h2 ⟨rfl, trivial⟩ rfl
/- Add -/
noncomputable def cl2 (px py qx qy : R FP2) : R FP2 := mu FP2 (su FP2 qy py) (iv FP2 (su FP2 qx px))
noncomputable def tl2 (px py : R FP2) : R FP2 := mu FP2 (ad FP2 (ad FP2 (mu FP2 px px) (mu FP2 px px)) (mu FP2 px px)) (iv FP2 (ad FP2 py py))
noncomputable def sX2 (l px qx : R FP2) : R FP2 := su FP2 (su FP2 (mu FP2 l l) px) qx
noncomputable def sY2 (l px py x : R FP2) : R FP2 := su FP2 (mu FP2 l (su FP2 px x)) py
noncomputable def sm2 (l : R FP2) (p q : P2) : List Ch := lcat (av (sX2 l (rX p) (rX q))) (lcat (av (sY2 l (rX p) (rY p) (sX2 l (rX p) (rX q)))) [.b false])
section
variable (r s : R P2)
noncomputable def adC (p q : P2) (d : Bool) (l : List (Bool × Bool)) : List (Bool × Bool) := (pI1 p, false) :: (pI1 q, false) :: (!eqR (rX p) (rX q), d) :: l
end
theorem rd_pt (x y : R FP2) : (rd (lcat (av x) (lcat (av y) [.b false])) : Option (R P2)) = some ((x, y, false) : R P2) := by kernel_rfl
theorem sm2_en (a b c d L : FP2) : rd (sm2 (en L) (.pt a b) (.pt c d)) = some (en (sumAt a b c L) : R P2) := by
  have e : (en (sumAt a b c L) : R P2) = (sX2 (en L) (en a) (en c), sY2 (en L) (en a) (en b) (sX2 (en L) (en a) (en c)), false) := by
    unfold sX2 sY2 su mu
    simp only [mo_en]
    rfl
  rw [e]
  exact rd_pt _ _
theorem cl2_en (a b c d : FP2) : cl2 (en a) (en b) (en c) (en d) = en ((d - b) * FD.inv (c - a)) := by unfold cl2 mu su iv; simp only [mo_en]
theorem tl2_en (a b : FP2) : tl2 (en a) (en b) = en ((a * a + a * a + a * a) * FD.inv (b + b)) := by unfold tl2 mu ad iv; simp only [mo_en]
noncomputable def SJ1 : List (FuncId × ASpec) := (50, pureSpec (sq1 P2 fun r => boolA (on2 (mo r)))) :: SJ0
theorem SJ1ok : SpecsOk Tryz.prog SJ1 := ⟨pureSpec_ok Tryz.func50 (by kernel_rfl) (by kernel_rfl) (sq1_ok g2on_ok), SJ0ok⟩
end Go.Proofs.YtohjpdglbeohpaaGreat
/- g2: points as fractions: the contracts. -/
namespace Go.Proofs.YtohjpdglbeohpaaGreat
open Ex Num Rg
open Sh (R av rd mo en mo_en)
set_option maxRecDepth 100000
set_option maxHeartbeats 4000000

abbrev J2 : Type := J FP2
noncomputable abbrev oJ1 : Orc := orc SJ1 KH
theorem oJ1ok : OrcOk Tryz.prog oJ1 := orc_ok SJ1ok KHok
def lq (x y : Nat) : Bool := decide (x < y)
def redB (r : R FP2) : Bool := lq r.1 pN && lq r.2 pN
theorem red_en {r : R FP2} (h : redB r = true) : en (mo r : FP2) = r := by
  obtain ⟨h1, h2⟩ := Bool.and_eq_true_iff.1 h
  exact Prod.ext (val_tf (of_decide_eq_true h1)) (val_tf (of_decide_eq_true h2))
theorem redB_en (x : FP2) : redB (en x) = true := Bool.and_eq_true_iff.2 ⟨decide_eq_true x.a.isLt, decide_eq_true x.b.isLt⟩
noncomputable def qE (x : R FP2) : R FP2 := ad FP2 (ad FP2 (mu FP2 x x) (mu FP2 x x)) (mu FP2 x x)
noncomputable def qD (x y : R FP2) : R FP2 := ad FP2 (ad FP2 (mu FP2 x (mu FP2 y y)) (mu FP2 x (mu FP2 y y))) (ad FP2 (mu FP2 x (mu FP2 y y)) (mu FP2 x (mu FP2 y y)))
noncomputable def qC2 (y : R FP2) : R FP2 := ad FP2 (mu FP2 (mu FP2 y y) (mu FP2 y y)) (mu FP2 (mu FP2 y y) (mu FP2 y y))
noncomputable def qC4 (y : R FP2) : R FP2 := ad FP2 (qC2 y) (qC2 y)
noncomputable def qC8 (y : R FP2) : R FP2 := ad FP2 (qC4 y) (qC4 y)
noncomputable def qX (x y : R FP2) : R FP2 := su FP2 (mu FP2 (qE x) (qE x)) (ad FP2 (qD x y) (qD x y))
noncomputable def qY (x y : R FP2) : R FP2 := su FP2 (mu FP2 (qE x) (su FP2 (qD x y) (qX x y))) (qC8 y)
noncomputable def qT (r : R J2) : R J2 := (qX r.1 r.2.1, qY r.1 r.2.1, ad FP2 (mu FP2 r.2.1 r.2.2) (mu FP2 r.2.1 r.2.2))
theorem tw2_run (r : R J2) : pureRun Tryz.prog oJ1 Tryz.f128 [va J2 r] [] 500 = some ([], va J2 (qT r)) := by kernel_rfl
theorem qT_en (r : R J2) : qT r = en (twJ (mo r : J2)) := by
  unfold qT qY qX qC8 qC4 qC2 qD qE su mu ad
  simp only [mo_en]
  rfl
theorem tw2_ok (r : R J2) : PureOk Tryz.prog 128 [va J2 r] (ve (twJ (mo r : J2))) := by
  unfold ve
  rw [← qT_en]
  exact pure_ok oJ1ok mixed Tryz.func128 (tw2_run r) trivial rfl
noncomputable def SJ2 : List (FuncId × ASpec) := (128, pureSpec (sq1 J2 fun r => ve (twJ (mo r : J2)))) :: SJ1
theorem SJ2ok : SpecsOk Tryz.prog SJ2 := ⟨pureSpec_ok Tryz.func128 (by kernel_rfl) (by kernel_rfl) (sq1_ok tw2_ok), SJ1ok⟩
noncomputable abbrev oJ2 : Orc := orc SJ2 KH
theorem oJ2ok : OrcOk Tryz.prog oJ2 := orc_ok SJ2ok KHok
/- plus -/
noncomputable def qH (x z a : R FP2) : R FP2 := su FP2 (mu FP2 a (mu FP2 z z)) x
noncomputable def qR (y z b : R FP2) : R FP2 := su FP2 (mu FP2 b (mu FP2 (mu FP2 z z) z)) y
noncomputable def qPX (x h r : R FP2) : R FP2 := su FP2 (su FP2 (mu FP2 r r) (mu FP2 (mu FP2 h h) h)) (ad FP2 (mu FP2 x (mu FP2 h h)) (mu FP2 x (mu FP2 h h)))
noncomputable def qPY (x y h r : R FP2) : R FP2 := su FP2 (mu FP2 r (su FP2 (mu FP2 x (mu FP2 h h)) (qPX x h r))) (mu FP2 y (mu FP2 (mu FP2 h h) h))
section
variable (p : R J2) (q : R P2)
def zero36 : List Ch := List.replicate 36 (.n .u64 0)
theorem pl2_1 : pureRun Tryz.prog oJ2 Tryz.f129 [va J2 p, va P2 q] [true] 500 = some ([(eqZ p.2.2, true)], .val true (lcat (av q.1) (lcat (av q.2.1) (.n .u64 1 :: List.replicate 11 (.n .u64 0))))) := by kernel_rfl
theorem pl2_2 : pureRun Tryz.prog oJ2 Tryz.f129 [va J2 p, va P2 q] [false, true, true] 500 = some ([(eqZ p.2.2, false), (eqZ (qH p.1 p.2.2 q.1), true), (eqZ (qR p.2.1 p.2.2 q.2.1), true)], ve (twJ (mo p : J2))) := by kernel_rfl
theorem pl2_3 : pureRun Tryz.prog oJ2 Tryz.f129 [va J2 p, va P2 q] [false, true, false, true] 500 = some ([(eqZ p.2.2, false), (eqZ (qH p.1 p.2.2 q.1), true), (eqZ (qR p.2.1 p.2.2 q.2.1), false), (eqZ (qH p.1 p.2.2 q.1), true)], .val true zero36) := by kernel_rfl
theorem pl2_4 : pureRun Tryz.prog oJ2 Tryz.f129 [va J2 p, va P2 q] [false, false, false] 500 = some ([(eqZ p.2.2, false), (eqZ (qH p.1 p.2.2 q.1), false), (eqZ (qH p.1 p.2.2 q.1), false)],
  va J2 (qPX p.1 (qH p.1 p.2.2 q.1) (qR p.2.1 p.2.2 q.2.1), qPY p.1 p.2.1 (qH p.1 p.2.2 q.1) (qR p.2.1 p.2.2 q.2.1), mu FP2 p.2.2 (qH p.1 p.2.2 q.1))) := by kernel_rfl
end
theorem rd_j1 (x y : R FP2) : (rd (lcat (av x) (lcat (av y) (.n .u64 1 :: List.replicate 11 (.n .u64 0)))) : Option (R J2)) = some ((x, y, en (1 : FP2)) : R J2) := by kernel_rfl
theorem pl2_ok {p : R J2} {q : R P2} (hz : redB p.2.2 = true) (hx : redB q.1 = true) (hy : redB q.2.1 = true) : PureOk Tryz.prog 129 [va J2 p, va P2 q] (ve (plJ (mo p : J2) (mo q.1) (mo q.2.1))) := by
  have ez : eqZ p.2.2 = decide ((mo p : J2).z = 0) := by conv => lhs; rw [← red_en hz]
                                                         exact eqZ_en _
  have eh : qH p.1 p.2.2 q.1 = en (pH (mo p : J2) (mo q.1)) := by unfold qH su mu; simp only [mo_en]; rfl
  have er : qR p.2.1 p.2.2 q.2.1 = en (pR (mo p : J2) (mo q.2.1)) := by unfold qR su mu; simp only [mo_en]; rfl
  have zh : eqZ (qH p.1 p.2.2 q.1) = decide (pH (mo p : J2) (mo q.1) = 0) := by rw [eh]; exact eqZ_en _
  have zr : eqZ (qR p.2.1 p.2.2 q.2.1) = decide (pR (mo p : J2) (mo q.2.1) = 0) := by rw [er]; exact eqZ_en _
  have r1 := pl2_1 p q
  have r2 := pl2_2 p q
  have r3 := pl2_3 p q
  have r4 := pl2_4 p q
  rw [zh, ez] at r2
  rw [zh, ez, zr] at r3
  rw [zr] at r2
  rw [zh, ez, eh, er] at r4
  rw [ez] at r1
  unfold plJ
  by_cases h0 : (mo p : J2).z = 0
  · rw [if_pos h0]
    refine pure_sh (α := J2) (r := (en (⟨mo q.1, mo q.2.1, 1⟩ : J2) : R J2)) (pure_ok oJ2ok mixed Tryz.func129 r1 ⟨decide_eq_true h0, trivial⟩ rfl) ?_
    have e : (en (⟨mo q.1, mo q.2.1, 1⟩ : J2) : R J2) = (q.1, q.2.1, en (1 : FP2)) := by
      show ((en (mo q.1 : FP2), en (mo q.2.1 : FP2), en (1 : FP2)) : R J2) = _
      rw [red_en hx, red_en hy]
    rw [e]
    exact rd_j1 _ _
  · rw [if_neg h0]
    by_cases hh : pH (mo p : J2) (mo q.1) = 0
    · rw [if_pos hh]
      by_cases hr : pR (mo p : J2) (mo q.2.1) = 0
      · rw [if_pos hr]
        exact pure_ok oJ2ok mixed Tryz.func129 r2 ⟨decide_eq_false h0, decide_eq_true hh, decide_eq_true hr, trivial⟩ rfl
      · rw [if_neg hr]
        exact pure_sh (α := J2) (r := (en (⟨0, 0, 0⟩ : J2) : R J2)) (pure_ok oJ2ok mixed Tryz.func129 r3 ⟨decide_eq_false h0, decide_eq_true hh, decide_eq_false hr, decide_eq_true hh, trivial⟩ rfl) (by kernel_rfl)
    · rw [if_neg hh]
      have e : ((qPX p.1 (en (pH (mo p : J2) (mo q.1))) (en (pR (mo p : J2) (mo q.2.1))), qPY p.1 p.2.1 (en (pH (mo p : J2) (mo q.1))) (en (pR (mo p : J2) (mo q.2.1))), mu FP2 p.2.2 (en (pH (mo p : J2) (mo q.1)))) : R J2) =
          en (⟨pX (mo p : J2).x (pH (mo p : J2) (mo q.1)) (pR (mo p : J2) (mo q.2.1)), pY (mo p : J2).x (mo p : J2).y (pH (mo p : J2) (mo q.1)) (pR (mo p : J2) (mo q.2.1)), (mo p : J2).z * pH (mo p : J2) (mo q.1)⟩ : J2) := by
        unfold qPY qPX su mu ad
        simp only [mo_en]
        rfl
      rw [e] at r4
      exact pure_ok oJ2ok mixed Tryz.func129 r4 ⟨decide_eq_false h0, decide_eq_false hh, decide_eq_false hh, trivial⟩ rfl
noncomputable def pl2Sp : List AV → Option (List (Bool × Bool) × AV)
  | [.val true a, .val true b] => match (rd a : Option (R J2)), (rd b : Option (R P2)) with
    | some p, some q => some ([(redB p.2.2, true), (redB q.1, true), (redB q.2.1, true)], ve (plJ (mo p : J2) (mo q.1) (mo q.2.1)))
    | _, _ => none
  | _ => none
theorem pl2Sp_ok : ∀ args c v, pl2Sp args = some (c, v) → okConds c → PureOk Tryz.prog 129 args v := by
  intro args c v hs hc us w ha
  unfold pl2Sp at hs
  split at hs
  case h_2 => cases hs
  split at hs
  case h_2 => cases hs
  rename_i p q hx hy
  injection hs with hs; injection hs with h1 h2; subst h1; subst h2
  obtain ⟨u1, us1, r1, ⟨u2, us2, r2, ha, rfl⟩, rfl⟩ := ha
  exact pl2_ok hc.1 hc.2.1 hc.2.2.1 _ w ⟨u1, _, va_rel hx r1, ⟨u2, _, va_rel hy r2, ha, rfl⟩, rfl⟩
/- point -/
def z6 (r : R J2) : Bool := dq r.1.1 0 && (dq r.1.2 0 && (dq r.2.1.1 0 && (dq r.2.1.2 0 && eqZ r.2.2)))
section
variable (r : R J2)
theorem po2_1 : pureRun Tryz.prog oJ2 Tryz.f130 [va J2 r] [true] 500 = some ([(z6 r, true)], .val true (zero24 true)) := by kernel_rfl
theorem po2_2 : pureRun Tryz.prog oJ2 Tryz.f130 [va J2 r] [false, true] 500 = some ([(z6 r, false), (eqZ r.2.2, true)], .val true (zero24 true)) := by kernel_rfl
noncomputable def qI (r : R J2) : R FP2 := mu FP2 (iv FP2 r.2.2) (iv FP2 r.2.2)
theorem po2_3 : pureRun Tryz.prog oJ2 Tryz.f130 [va J2 r] [false, false] 500 = some ([(z6 r, false), (eqZ r.2.2, false)], .val true (lcat (av (mu FP2 r.1 (qI r))) (lcat (av (mu FP2 r.2.1 (mu FP2 (qI r) (iv FP2 r.2.2)))) [.b false]))) := by kernel_rfl
end
theorem po2_ok {r : R J2} (hz : redB r.2.2 = true) : PureOk Tryz.prog 130 [va J2 r] (ve (ptJ (mo r : J2))) := by
  have ez : eqZ r.2.2 = decide ((mo r : J2).z = 0) := by conv => lhs; rw [← red_en hz]
                                                         exact eqZ_en _
  have zz : rd (zero24 true) = some (en (.inf : P2) : R P2) := by kernel_rfl
  by_cases h0 : (mo r : J2).z = 0
  · rw [ptJ_zero h0]
    cases h3 : z6 r with
    | true => exact pure_sh (pure_ok oJ2ok mixed Tryz.func130 (po2_1 r) ⟨h3, trivial⟩ rfl) zz
    | false => exact pure_sh (pure_ok oJ2ok mixed Tryz.func130 (po2_2 r) ⟨h3, by rw [ez]; exact decide_eq_true h0, trivial⟩ rfl) zz
  · have h3 : z6 r = false := by unfold z6; rw [ez, decide_eq_false h0]; simp
    rw [ptJ_ne h0]
    refine pure_sh (pure_ok oJ2ok mixed Tryz.func130 (po2_3 r) ⟨h3, by rw [ez]; exact decide_eq_false h0, trivial⟩ rfl) ?_
    have e : (en (.pt ((mo r : J2).x * (FD.inv (mo r : J2).z * FD.inv (mo r : J2).z)) ((mo r : J2).y * ((FD.inv (mo r : J2).z * FD.inv (mo r : J2).z) * FD.inv (mo r : J2).z)) : P2) : R P2) = (mu FP2 r.1 (qI r), mu FP2 r.2.1 (mu FP2 (qI r) (iv FP2 r.2.2)), false) := by
      unfold qI mu iv
      simp only [mo_en]
      rfl
    rw [e]
    exact rd_pt _ _
noncomputable def po2Sp : List AV → Option (List (Bool × Bool) × AV)
  | [.val true a] => match (rd a : Option (R J2)) with
    | some p => some ([(redB p.2.2, true)], ve (ptJ (mo p : J2)))
    | _ => none
  | _ => none
theorem po2Sp_ok : ∀ args c v, po2Sp args = some (c, v) → okConds c → PureOk Tryz.prog 130 args v := by
  intro args c v hs hc us w ha
  unfold po2Sp at hs
  split at hs
  case h_2 => cases hs
  split at hs
  case h_2 => cases hs
  rename_i p hx
  injection hs with hs; injection hs with h1 h2; subst h1; subst h2
  obtain ⟨u1, us1, r1, ha, rfl⟩ := ha
  exact po2_ok hc.1 _ w ⟨u1, _, va_rel hx r1, ha, rfl⟩
noncomputable def SJ3 : List (FuncId × ASpec) := (129, condSpec pl2Sp) :: (130, condSpec po2Sp) :: SJ2
theorem SJ3ok : SpecsOk Tryz.prog SJ3 := ⟨condSpec_ok Tryz.func129 (by kernel_rfl) (by kernel_rfl) pl2Sp_ok, condSpec_ok Tryz.func130 (by kernel_rfl) (by kernel_rfl) po2Sp_ok, SJ2ok⟩
noncomputable abbrev oJ3 : Orc := orc SJ3 KH
theorem oJ3ok : OrcOk Tryz.prog oJ3 := orc_ok SJ3ok KHok
end Go.Proofs.YtohjpdglbeohpaaGreat
/- g2.Mul: the contract. -/
namespace Go.Proofs.YtohjpdglbeohpaaGreat
open Ex Num Rg
open Sh (R av rd mo en mo_en)
set_option maxRecDepth 100000
set_option maxHeartbeats 4000000

noncomputable section
/-- What a loop over a number's bits needs of them. -/
theorem bit_facts {off n : Nat} {xs : List Int} (hall : ∀ d ∈ xs, 0 ≤ d ∧ d < 18446744073709551616) (hn : n ≤ 1125899906842624) {c : Nat} (hc : c < 64 * n) :
    wI (Int.tdiv (c : Int) 64) = ((c / 64 : Nat) : Int) ∧ c / 64 < n ∧ 0 ≤ powW xs off c ∧ 0 ≤ Int.tmod (c : Int) 64 ∧ bitI (powW xs off c) (Int.tmod c 64) = ((natL (win xs off n) / 2 ^ c % 2 : Nat) : Int) := by
  have hq : Int.tdiv (c : Int) 64 = ((c / 64 : Nat) : Int) := by rw [Int.tdiv_eq_ediv_of_nonneg (by omega)]; rfl
  have hr : Int.tmod (c : Int) 64 = ((c % 64 : Nat) : Int) := by rw [Int.tmod_eq_emod_of_nonneg (by omega)]; rfl
  have hw : wI (Int.tdiv (c : Int) 64) = ((c / 64 : Nat) : Int) := by rw [hq]; exact wI_eq (by omega)
  have hjn : c / 64 < n := by omega
  have hlt : ∀ d ∈ win xs off n, 0 ≤ d ∧ d < 18446744073709551616 := win_has hall
  have hv : powW xs off c = (win xs off n).getD (c / 64) 0 := by
    unfold powW
    rw [hw, Int.toNat_natCast, Nat.mul_one]
    exact (bit_word hjn).symm
  have hvb : 0 ≤ powW xs off c ∧ powW xs off c < 18446744073709551616 := by rw [hv]; exact getD_bd hlt _
  refine ⟨hw, hjn, hvb.1, by rw [hr]; omega, ?_⟩
  obtain ⟨V, hV⟩ := Int.eq_ofNat_of_zero_le hvb.1
  rw [hr, ← natL_bit _ c hlt, ← hv, hV, Int.toNat_natCast]
  exact bitI_eq V _ (by omega) (by omega)
theorem win_lt {off n : Nat} {xs : List Int} (hall : ∀ d ∈ xs, 0 ≤ d ∧ d < 18446744073709551616) (hlen : off + n ≤ xs.length) : natL (win xs off n) < 2 ^ (64 * n) := by
  have hl := natL_lt (win xs off n) (win_has hall)
  unfold win at hl ⊢
  rwa [List.length_take, List.length_drop, Nat.min_eq_left (by omega)] at hl
theorem half_bit (E c : Nat) : E / 2 ^ c = 2 * (E / 2 ^ (c + 1)) + E / 2 ^ c % 2 := by rw [Nat.pow_succ, ← Nat.div_div_eq_div_mul]; omega
/- the walk -/
noncomputable def hmTodo : List Item := todoOf (aSeg Tryz.prog oJ3 (some 0) 500 1 none (entry Tryz.f89 [slA 0 0 0 0, ve (.pt 0 0 : P2)] (seqH []) 1 [false, false]))
noncomputable def hmT (off n m : Nat) (i : Int) : List AV := .val false [.sl 0 off n m] :: .any :: .any :: .val false [.p 1 0] :: .val false [.p 2 0] :: .val false [.n .i64 0] :: .val false [.p 3 0] :: .val false [.v (.int .i64 i)] :: List.replicate (Tryz.f89.ntmps - 8) .any
def hmH (xs : List Int) (p : P2) : Heap := [(0, some (roB [.seq .u64 xs])), (1, some ⟨40, av (en p : R P2), false⟩), (2, some ⟨40, zero24 false, false⟩)]
noncomputable def hmS (off n m : Nat) (xs : List Int) (p : P2) (out : List Ch) (i : Int) (path : List Bool) : ASt := ⟨hmTodo, ⟨hmT off n m i, List.append (hmH xs p) [(3, some ⟨117, out, false⟩)], 4, path⟩⟩
def jC2 (j : J2) : List Ch := av (en j : R J2)
def jR (j : J2) : J2 := mo (en j : R J2)
def plP2 (j : J2) (p : P2) : J2 := plJ (mo (en (twJ (jR j)) : R J2)) (mo (rX p)) (mo (rY p))
def hmArgs (r : R P2) (off n m : Nat) : List AV := [slA 0 off n m, va P2 r]
def pR2 (p : P2) : P2 := mo (en p : R P2)
abbrev kM : Option (List Nat × List Nat × Nat) := some ([0, 3, 4, 5, 6, 7], [0, 1, 2, 3], 4)
theorem hm_entry (r : R P2) (off n m : Nat) (xs : List Int) : aSeg Tryz.prog oJ3 (some 0) 500 1 kM (entry Tryz.f89 (hmArgs r off n m) (seqH xs) 1 [false, false]) =
  some ([(!on2 (pR2 (mo r)), false), (pI1 (mo r : P2), false), (hasB .i64 n, true)], [], hmS off n m xs (mo r) zero36 (wI (wI (64 * (n : Int)) - 1)) []) := by kernel_rfl
def mA2 (q : P2) (e : Int) : AV := .tup [(true, av (en q : R P2)), (false, [.v (.int .i64 e)])]
def mN2 (q : P2) (e : Int) : AV := .tup [(true, av (en q : R P2)), (false, [.n .i64 e])]
theorem hm_off (r : R P2) (off n m : Nat) (xs : List Int) : segOut Tryz.prog oJ3 Tryz.f89 500 1 [] (entry Tryz.f89 (hmArgs r off n m) (seqH xs) 1 [true]) =
  some ([(!on2 (pR2 (mo r)), true)], [], .tup [(true, zero24 false), (false, [.n .i64 120])], []) := by kernel_rfl
theorem hm_inf (r : R P2) (off n m : Nat) (xs : List Int) : segOut Tryz.prog oJ3 Tryz.f89 500 1 [] (entry Tryz.f89 (hmArgs r off n m) (seqH xs) 1 [false, true]) =
  some ([(!on2 (pR2 (mo r)), false), (pI1 (mo r : P2), true)], [], mN2 (mo r) 0, []) := by kernel_rfl
section
variable (off n m : Nat) (xs : List Int) (p : P2) (j : J2) (i : Int)
theorem hm_zero : aSeg Tryz.prog oJ3 (some 0) 500 1 kM (hmS off n m xs p (jC2 j) i [true, true]) = some (gmC off n xs i true [], [], hmS off n m xs p (jC2 (twJ (jR j))) (wI (i - 1)) []) := by kernel_rfl
theorem hm_one : aSeg Tryz.prog oJ3 (some 0) 500 1 kM (hmS off n m xs p (jC2 j) i [true, false]) =
  some (gmC off n xs i false [(redB (en (twJ (jR j))).2.2, true), (redB (rX p), true), (redB (rY p), true)], [], hmS off n m xs p (jC2 (plP2 j p)) (wI (i - 1)) []) := by kernel_rfl
theorem hm_exit : segOut Tryz.prog oJ3 Tryz.f89 500 1 [] (hmS off n m xs p (jC2 j) i [false]) = some ([(decide (0 ≤ i), false), (redB (en j).2.2, true)], [], mN2 (ptJ (jR j)) 0, []) := by kernel_rfl
end
theorem hm_wf (off n m : Nat) (xs : List Int) (p : P2) (j : J2) (i : Int) (q : List Bool) : wfSt Tryz.f89.ntmps (hmS off n m xs p (jC2 j) i q).s := wfB_ok (by kernel_rfl)
theorem zero36_rel (β : Env) (l : List Value) (h : relL β zero36 l) : relL β (jC2 ⟨0, 0, 0⟩) l := Sh.rd_ok (r := (en (⟨0, 0, 0⟩ : J2) : R J2)) (by kernel_rfl : rd zero36 = some (en (⟨0, 0, 0⟩ : J2) : R J2)) h
section
variable {off n m : Nat} {xs : List Int} (hall : ∀ d ∈ xs, 0 ≤ d ∧ d < 18446744073709551616) (hlen : off + n ≤ xs.length) (hn : n ≤ 1125899906842624) {p : P2} (hP : Rg.On C2.b p) (hI : pI1 p = false) {β0 : Env} {w0 : World} (hb : ∀ b, 1 ≤ b → β0 b = none)
include hall hlen hn hb hP hI
theorem hm_safe : ∀ (c : Nat) (j : J2), ptJ j = smul (natL (win xs off n) / 2 ^ c) p → c ≤ 64 * n → ASafe Tryz.prog 89 β0 w0 (Outs β0 w0 [] (mN2 (smul (natL (win xs off n)) p) 0) []) Tryz.f89.ntmps [] (hmS off n m xs p (jC2 j) ((c : Int) - 1) []) := by
  intro c
  induction c with
  | zero =>
    intro j hj _
    have h : ASafe Tryz.prog 89 β0 w0 (Outs β0 w0 [] (mN2 (ptJ (jR j)) 0) []) Tryz.f89.ntmps [] (hmS off n m xs p (jC2 j) (((0 : Nat) : Int) - 1) [false]) :=
      out_safe oJ3ok mixed Tryz.func89 (hm_exit ..) ⟨rfl, redB_en j.z, trivial⟩ (hm_wf ..) hb (fun _ h => by cases h)
    unfold jR at h
    rw [mo_en, hj, Nat.pow_zero, Nat.div_one] at h
    exact path_safe [false] h
  | succ c ih =>
    intro j hj hc
    have hi : ((c + 1 : Nat) : Int) - 1 = (c : Int) := by omega
    rw [hi]
    obtain ⟨hw, hjn, hv0, hr0, hbit⟩ := bit_facts (off := off) hall hn (c := c) (by omega)
    have hnext : wI ((c : Int) - 1) = (c : Int) - 1 := wI_eq (by omega)
    have hconds : ∀ bit r, decide (bitI (powW xs off c) (Int.tmod c 64) = 0) = bit → okConds r → okConds (gmC off n xs c bit r) := by
      intro bit r hbt hr'
      refine ⟨by simp, rfl, ?_, ?_, by simp, by simp only [decide_eq_true_eq]; exact ⟨hr0, hv0⟩, hbt, hr'⟩
      · rw [hw]; simp; omega
      · rw [hw]; simp; omega
    have hoj : Rg.On C2.b (ptJ j) := by rw [hj]; exact on_smul C2 hP _
    have ejR : jR j = j := mo_en j
    have htw : ptJ (twJ (jR j)) = smul (2 * (natL (win xs off n) / 2 ^ (c + 1))) p := by
      rw [ejR, ptJ_tw C2 hoj, hj, ← smul_add C2 hP, Nat.two_mul]
    have hd := half_bit (natL (win xs off n)) c
    rcases Nat.mod_two_eq_zero_or_one (natL (win xs off n) / 2 ^ c) with h0 | h1
    · refine path_safe [true, true] (seg_safe oJ3ok mixed (hm_zero ..) (hconds true [] (by rw [hbit, h0]; rfl) trivial) (hm_wf ..) hb (fun _ h => by cases h) fun _ => ?_)
      rw [hnext]
      refine ih _ ?_ (by omega)
      rw [htw, hd, h0]; rfl
    · refine path_safe [true, false] (seg_safe oJ3ok mixed (hm_one ..) (hconds false _ (by rw [hbit, h1]; rfl) ⟨redB_en (twJ (jR j)).z, redB_en (pX1 p), redB_en (pY1 p), trivial⟩) (hm_wf ..) hb (fun _ h => by cases h) fun _ => ?_)
      rw [hnext]
      refine ih _ ?_ (by omega)
      unfold plP2
      rw [mo_en, ptJ_pl C2 (by rw [htw]; exact on_smul C2 hP _), htw, hd, h1]
      cases p with
      | inf => cases hI
      | pt a b =>
        show add _ (.pt (mo (en a)) (mo (en b))) = _
        rw [mo_en, mo_en]; rfl
end
def mulP2 (N : Nat) (p : P2) : P2 := if on2 p = true then smul N p else .pt 0 0
def mulE2 (p : P2) : Int := if on2 p = true then 0 else 120
theorem mN2_A {β : Env} {q : P2} {e : Int} {u : Value} (h : relA β (mN2 q e) u) : relA β (mA2 q e) u := relT2 (fun _ q => q) (fun _ q => gval rfl q) h
theorem hm_can {off n m : Nat} {xs : List Int} (hall : ∀ d ∈ xs, 0 ≤ d ∧ d < 18446744073709551616) (hlen : off + n ≤ xs.length) (hn : n ≤ 1125899906842624) (r : R P2) :
    CanOk Tryz.prog 89 (hmArgs r off n m) (seqH xs) 1 [] (mA2 (mulP2 (natL (win xs off n)) (mo r)) (mulE2 (mo r))) [] := by
  have e1 := hm_entry r off n m xs
  have e2 := hm_off r off n m xs
  have e3 := hm_inf r off n m xs
  unfold pR2 at e1 e2 e3
  rw [mo_en] at e1 e2 e3
  generalize (mo r : P2) = p at *
  cases ho : on2 p with
  | false =>
    unfold mulP2 mulE2
    rw [if_neg (by rw [ho]; exact Bool.false_ne_true), if_neg (by rw [ho]; exact Bool.false_ne_true)]
    refine can_val (can_entry (path := [true]) Tryz.func89 (by kernel_rfl) (by kernel_rfl) fun β0 w0 hb =>
      out_safe oJ3ok mixed Tryz.func89 e2 ⟨by rw [ho]; rfl, trivial⟩ (wfB_ok (by kernel_rfl)) hb (fun _ h => by cases h)) fun β u hu => ?_
    exact relT2 (fun _ q => va_rel (r := (en (.pt 0 0 : P2) : R P2)) (by kernel_rfl) q) (fun _ q => gval rfl q) hu
  | true =>
    have hP := (on2_iff p).1 ho
    unfold mulP2 mulE2
    rw [if_pos ho, if_pos ho]
    cases hI : pI1 p with
    | true =>
      have hp : p = .inf := by cases p with | inf => rfl | pt a b => cases hI
      have hs : smul (natL (win xs off n)) p = p := by rw [hp, smul_inf]
      rw [hs]
      exact can_val (can_entry (path := [false, true]) Tryz.func89 (by kernel_rfl) (by kernel_rfl) fun β0 w0 hb =>
        out_safe oJ3ok mixed Tryz.func89 e3 ⟨by rw [ho]; rfl, hI, trivial⟩ (wfB_ok (by kernel_rfl)) hb (fun _ h => by cases h)) fun β u hu => mN2_A hu
    | false =>
      refine can_val (can_entry (path := [false, false]) Tryz.func89 (by kernel_rfl) (by kernel_rfl) fun β0 w0 hb => ?_) fun β u hu => mN2_A hu
      refine seg_safe oJ3ok mixed e1 ⟨by rw [ho]; rfl, hI, hasB_len hn, trivial⟩ (wfB_ok (by kernel_rfl)) hb (fun _ h => by cases h) fun _ => ?_
      have e4 : wI (wI (64 * (n : Int)) - 1) = ((64 * n : Nat) : Int) - 1 := by
        rw [wI_eq (z := 64 * (n : Int)) (by omega), wI_eq (by omega)]; omega
      rw [e4]
      refine heap_safe zero36_rel (hm_safe hall hlen hn hP hI hb (64 * n) ⟨0, 0, 0⟩ ?_ (Nat.le_refl _))
      rw [ptJ_zero rfl, Nat.div_eq_of_lt (win_lt hall hlen)]; rfl
/-- Contracts of functions of a list of words and a value of a fixed shape. -/
def wsSp (α : Type) [Sh α] (g : List Int → R α → AV) : ASpec := fun args H fr path =>
  match args with
  | [S, .val true a] => match asSl S with
    | some (k, off, n) => match (rd a : Option (R α)), hget H k with
      | some r, some ⟨_, cs, _⟩ => match toSeq .u64 cs with
        | some xs => some (trR [k] 1 fr 0 [] (g (win xs off n) r) [] [(Nat.ble (off + n) xs.length, true), (Nat.ble n 1125899906842624, true)] path)
        | none => none
      | _, _ => none
    | none => none
  | _ => none
theorem wsSp_ok {α : Type} [Sh α] {f : FuncId} {fn : Func} {g : List Int → R α → AV} (hfn : Tryz.prog.funcs[f]? = some fn) (hb : fn.body.isSome = true) (hname : (fn.name == "runtime.NumGoroutine") = false) (hk : ∀ l r, canB 1 0 [] (g l r) [] = true)
    (h : ∀ (off n m : Nat) (xs : List Int) (r : R α), (∀ d ∈ xs, 0 ≤ d ∧ d < 18446744073709551616) → off + n ≤ xs.length → n ≤ 1125899906842624 → CanOk Tryz.prog f [slA 0 off n m, va α r] (seqH xs) 1 [] (g (win xs off n) r) []) : SpecOk Tryz.prog f (wsSp α g) := by
  refine can_spec2 hfn hb hname fun args H fr path r hs => ?_
  unfold wsSp at hs
  split at hs
  case h_2 => cases hs
  rename_i S a
  split at hs
  case h_2 => cases hs
  rename_i k off n hS
  split at hs
  case h_2 => cases hs
  rename_i q ty cs o hx hk'
  split at hs
  case h_2 => cases hs
  rename_i xs hxs
  injection hs with hs
  refine ⟨[k], 1, 0, [], _, _, _, path, hs.symm, fun β us w ha hg hc => ?_⟩
  obtain ⟨u1, us1, r1, ⟨u2, us2, r2, ha, rfl⟩, rfl⟩ := ha
  obtain ⟨m, r1⟩ := asSl_rel hS r1
  obtain ⟨g1, g2, g3⟩ := good_seq hg hk' hxs
  exact ⟨[slA 0 off n m, va α q], seqH xs, h off n m xs q g1 (Nat.le_of_ble_eq_true hc.1) (Nat.le_of_ble_eq_true hc.2.1), hk _ _, ⟨u1, _, sl_in (by omega) rfl r1, ⟨u2, us2, va_rel hx r2, ha, rfl⟩, rfl⟩, g2, g3⟩
def SJ4 : List (FuncId × ASpec) := (89, nilSpec (wsSp P2 fun l r => mA2 (mulP2 (natL l) (mo r)) (mulE2 (mo r)))) :: SJ3
theorem SJ4ok : SpecsOk Tryz.prog SJ4 := ⟨nilSpec_ok (wsSp_ok Tryz.func89 (by kernel_rfl) (by kernel_rfl) (fun _ _ => by kernel_rfl) fun _ _ _ _ r hx hl hn => hm_can hx hl hn r), SJ3ok⟩
end
end Go.Proofs.YtohjpdglbeohpaaGreat
/- fr.R; sub: In1, In2: the contracts. -/
namespace Go.Proofs.YtohjpdglbeohpaaGreat
open Ex Num Rg
open Sh (R av rd mo en mo_en)
set_option maxRecDepth 100000
set_option maxHeartbeats 4000000
noncomputable section

def rQ : Nat := 0x73eda753299d7d483339d80809a1d80553bda402fffe5bfeffffffff00000001
theorem rN_ex : ∃ n, n = rQ := ⟨_, rfl⟩
/-- The order; the kernel does not look into it. -/
def rN : Nat := Classical.choose rN_ex
theorem rN_eq : rN = rQ := Classical.choose_spec rN_ex
def RL : List Int := [0xffffffff00000001, 0x53bda402fffe5bfe, 0x3339d80809a1d805, 0x73eda753299d7d48]
theorem natL_RL : natL (win RL 0 4) = rN := (by kernel_rfl : natL (win RL 0 4) = rQ).trans rN_eq.symm
def RLc : List Ch := RL.map fun i => .n .u64 i
theorem frR_run : pureRun Tryz.prog (orc S0 K0) Tryz.f105 [] [] 100 = some ([], .val true RLc) := by kernel_rfl
theorem frR_ok : PureOk Tryz.prog 105 [] (.val true RLc) := pure_ok (orc_ok S0ok K0ok) mixed Tryz.func105 frR_run trivial rfl
def SJa : List (FuncId × ASpec) := (105, pureSpec (ev FP (.val true RLc))) :: SJ4
theorem SJaok : SpecsOk Tryz.prog SJa := ⟨pureSpec_ok Tryz.func105 (by kernel_rfl) (by kernel_rfl) (ev_ok (α := FP) frR_ok), SJ4ok⟩
abbrev oJa : Orc := orc SJa KH
theorem oJaok : OrcOk Tryz.prog oJa := orc_ok SJaok KHok
def SJb : List (FuncId × ASpec) := (58, inlSpec Tryz.prog oJa Tryz.f58 100) :: (90, inlSpec Tryz.prog oJa Tryz.f90 100) :: SJa
theorem SJbok : SpecsOk Tryz.prog SJb := ⟨inl_ok oJaok mixed Tryz.func58 (by kernel_rfl) (by kernel_rfl) 100, inl_ok oJaok mixed Tryz.func90 (by kernel_rfl) (by kernel_rfl) 100, SJaok⟩
abbrev oJb : Orc := orc SJb KH
theorem oJbok : OrcOk Tryz.prog oJb := orc_ok SJbok KHok
def SJc : List (FuncId × ASpec) := (56, inlSpec Tryz.prog oJb Tryz.f56 300) :: (88, inlSpec Tryz.prog oJb Tryz.f88 300) :: SJb
theorem SJcok : SpecsOk Tryz.prog SJc := ⟨inl_ok oJbok mixed Tryz.func56 (by kernel_rfl) (by kernel_rfl) 300, inl_ok oJbok mixed Tryz.func88 (by kernel_rfl) (by kernel_rfl) 300, SJbok⟩
abbrev oJc : Orc := orc SJc KH
theorem oJcok : OrcOk Tryz.prog oJc := orc_ok SJcok KHok
def in1 (p : Pt FP) : Bool := onP p && ptI (smul rN p)
def in2 (p : P2) : Bool := on2 p && pI1 (smul rN p)
def rW : List Int := win RL (0 + 0 * 1) (4 - 0)
theorem rW_eq : natL rW = rN := natL_RL
section
variable (r : R P2) (x y : Nat) (i : Bool)
theorem in2_t : pureRun Tryz.prog oJc Tryz.f40 [va P2 r] [true] 500 = some (tt 2 [(decide (mulE2 (mo r) = 0), true)], boolA (en (mulP2 (natL rW) (mo r)) : R P2).2.2) := by kernel_rfl
theorem in2_f : pureRun Tryz.prog oJc Tryz.f40 [va P2 r] [false] 500 = some (tt 2 [(decide (mulE2 (mo r) = 0), false)], .val false [.b false]) := by kernel_rfl
theorem in1_t : pureRun Tryz.prog oJc Tryz.f19 [g1A x y i] [true] 500 = some (tt 2 [(decide (mulE (toPt x y i) = 0), true)], boolA (ptI (mulP (natL rW) (toPt x y i)))) := by kernel_rfl
theorem in1_f : pureRun Tryz.prog oJc Tryz.f19 [g1A x y i] [false] 500 = some (tt 2 [(decide (mulE (toPt x y i) = 0), false)], .val false [.b false]) := by kernel_rfl
end
theorem in2_ok (r : R P2) : PureOk Tryz.prog 40 [va P2 r] (boolA (in2 (mo r))) := by
  have h1 := in2_t r
  have h2 := in2_f r
  generalize (mo r : P2) = p at *
  unfold in2
  cases ho : on2 p with
  | true =>
    have e : en (mulP2 (natL rW) p) = (en (smul rN p) : R P2) := by unfold mulP2; rw [if_pos ho, rW_eq]
    rw [e] at h1
    exact pure_ok oJcok mixed Tryz.func40 h1 (tt_ok 2 ⟨by unfold mulE2; rw [if_pos ho]; rfl, trivial⟩) rfl
  | false => exact pure_val (pure_ok oJcok mixed Tryz.func40 h2 (tt_ok 2 ⟨by unfold mulE2; rw [if_neg (by rw [ho]; exact Bool.false_ne_true)]; rfl, trivial⟩) rfl) fun u hu => bv_one rfl hu
theorem in1_ok (x y : Nat) (i : Bool) : PureOk Tryz.prog 19 [g1A x y i] (boolA (in1 (toPt x y i))) := by
  have h1 := in1_t x y i
  have h2 := in1_f x y i
  generalize toPt x y i = p at *
  unfold in1
  cases ho : onP p with
  | true =>
    have e : mulP (natL rW) p = smul rN p := by unfold mulP; rw [if_pos ho, rW_eq]
    rw [e] at h1
    exact pure_ok oJcok mixed Tryz.func19 h1 (tt_ok 2 ⟨by unfold mulE; rw [if_pos ho]; rfl, trivial⟩) rfl
  | false => exact pure_val (pure_ok oJcok mixed Tryz.func19 h2 (tt_ok 2 ⟨by unfold mulE; rw [if_neg (by rw [ho]; exact Bool.false_ne_true)]; rfl, trivial⟩) rfl) fun u hu => bv_one rfl hu
def SJd : List (FuncId × ASpec) := (19, pureSpec (spG fun p => boolA (in1 p))) :: (40, pureSpec (sq1 P2 fun r => boolA (in2 (mo r)))) :: SJc
theorem SJdok : SpecsOk Tryz.prog SJd := ⟨pureSpec_ok Tryz.func19 (by kernel_rfl) (by kernel_rfl) (spG_ok in1_ok), pureSpec_ok Tryz.func40 (by kernel_rfl) (by kernel_rfl) (sq1_ok in2_ok), SJcok⟩
end
end Go.Proofs.YtohjpdglbeohpaaGreat
/- codec.Encode1, Encode2: the contracts. -/
namespace Go.Proofs.YtohjpdglbeohpaaGreat
open Ex Num Rg
open Sh (R av rd mo en mo_en)
set_option maxRecDepth 100000
set_option maxHeartbeats 4000000
noncomputable section

abbrev oJd : Orc := orc SJd KH
theorem oJdok : OrcOk Tryz.prog oJd := orc_ok SJdok KHok
def SJe : List (FuncId × ASpec) := (61, inlSpec Tryz.prog oJd Tryz.f61 100) :: (21, inlSpec Tryz.prog oJd Tryz.f21 500) :: SJd
theorem SJeok : SpecsOk Tryz.prog SJe := ⟨inl_ok oJdok mixed Tryz.func61 (by kernel_rfl) (by kernel_rfl) 100, inl_ok oJdok mixed Tryz.func21 (by kernel_rfl) (by kernel_rfl) 500, SJdok⟩
abbrev oJe : Orc := orc SJe KH
theorem oJeok : OrcOk Tryz.prog oJe := orc_ok SJeok KHok
/- fp2root.Bigger -/
def bg2 (a : FP2) : Bool := if a.b = 0 then biggerN a.a.val else biggerN a.b.val
theorem bg2_z (r : R FP2) : pureRun Tryz.prog oJe Tryz.f42 [va FP2 r] [true] 300 = some ([(dq (re FP r.2) 0, true)], boolA (biggerN r.1)) := by kernel_rfl
theorem bg2_n (r : R FP2) : pureRun Tryz.prog oJe Tryz.f42 [va FP2 r] [false] 300 = some ([(dq (re FP r.2) 0, false)], boolA (biggerN r.2)) := by kernel_rfl
theorem biggerN_mod (x : Nat) : biggerN x = biggerN (tf x).val := by
  unfold biggerN negN
  show _ = decide ((pN - x % pN % pN) % pN < x % pN % pN)
  rw [Nat.mod_mod]
theorem bg2_ok (r : R FP2) : PureOk Tryz.prog 42 [va FP2 r] (boolA (bg2 (mo r))) := by
  have e : dq (re FP r.2) 0 = decide ((mo r : FP2).b = 0) := dq_val (mo r : FP2).b 0
  have h1 := bg2_z r
  have h2 := bg2_n r
  unfold bg2
  by_cases h : (mo r : FP2).b = 0
  · rw [if_pos h]
    rw [show biggerN r.1 = biggerN (mo r : FP2).a.val from biggerN_mod _] at h1
    exact pure_ok oJeok mixed Tryz.func42 h1 ⟨by rw [e]; exact decide_eq_true h, trivial⟩ rfl
  · rw [if_neg h]
    rw [show biggerN r.2 = biggerN (mo r : FP2).b.val from biggerN_mod _] at h2
    exact pure_ok oJeok mixed Tryz.func42 h2 ⟨by rw [e]; exact decide_eq_false h, trivial⟩ rfl
def SJf : List (FuncId × ASpec) := (22, inlSpec Tryz.prog oJe Tryz.f22 300) :: (42, pureSpec (sq1 FP2 fun r => boolA (bg2 (mo r)))) :: SJe
theorem SJfok : SpecsOk Tryz.prog SJf := ⟨inl_ok oJeok mixed Tryz.func22 (by kernel_rfl) (by kernel_rfl) 300, pureSpec_ok Tryz.func42 (by kernel_rfl) (by kernel_rfl) (sq1_ok bg2_ok), SJeok⟩
abbrev oJf : Orc := orc SJf KH
theorem oJfok : OrcOk Tryz.prog oJf := orc_ok SJfok KHok
/- Encode1 -/
def orF (l : List Int) (f : Int) : List Int := l.set 0 (bits .or .u8 (l.getD 0 0) f)
def b1 (p : Pt FP) : List Int := octL (ptX p % pN) 48 ++ octL (ptY p % pN) 48
def eE (s : Bool) (k : Nat) : AV := match s with
  | true => .tup [(false, [.sl 7 0 k k]), (false, [.n .i64 0])]
  | false => .tup [(false, [.sx 7 (2 * k) 1]), (false, [.n .i64 0])]
def eH (l : List Int) : Heap := [(7, some ⟨5, [.seq .u8 l], true⟩)]
section
variable (x y : Nat) (i : Bool)
noncomputable def eS1 (s : Bool) (p : List Bool) : ASt := entry Tryz.f8 [g1A x y i, .val false [.b s]] [] 0 p
theorem en1_off (s : Bool) : segOut Tryz.prog oJf Tryz.f8 800 0 [] (eS1 x y i s [true]) = some ([(!in1 (toPt x y i), true)], [], .tup [(false, [.v (.slice none 0 0)]), (false, [.n .i64 140])], []) := by kernel_rfl
def eC (p : Pt FP) (r : List (Bool × Bool)) : List (Bool × Bool) := (!in1 p, false) :: tt 10 ((false, false) :: r)
theorem en1_li : segOut Tryz.prog oJf Tryz.f8 800 0 [7] (eS1 x y i false [false, true, true, false, true]) = some (eC (toPt x y i) ((ptI (toPt x y i), true) :: tt 4 []), [], eE false 48, eH (orF (b1 (toPt x y i)) 64)) := by kernel_rfl
theorem en1_lp : segOut Tryz.prog oJf Tryz.f8 800 0 [7] (eS1 x y i false [false, true, true, false, false]) = some (eC (toPt x y i) [(ptI (toPt x y i), false)], [], eE false 48, eH (b1 (toPt x y i))) := by kernel_rfl
theorem en1_si : segOut Tryz.prog oJf Tryz.f8 800 0 [7] (eS1 x y i true [false, true, true, false, true, false]) = some (eC (toPt x y i) (tt 10 ((ptI (toPt x y i), true) :: tt 4 [(biggerN (ptY (toPt x y i)), false)])), [], eE true 48, eH (orF (orF (b1 (toPt x y i)) 128) 64)) := by kernel_rfl
theorem en1_sb : segOut Tryz.prog oJf Tryz.f8 800 0 [7] (eS1 x y i true [false, true, true, false, false, true, true]) = some (eC (toPt x y i) (tt 10 ((ptI (toPt x y i), false) :: (biggerN (ptY (toPt x y i)), true) :: (!ptI (toPt x y i), true) :: tt 4 [])), [], eE true 48, eH (orF (orF (b1 (toPt x y i)) 128) 32)) := by kernel_rfl
theorem en1_sp : segOut Tryz.prog oJf Tryz.f8 800 0 [7] (eS1 x y i true [false, true, true, false, false, false]) = some (eC (toPt x y i) (tt 10 [(ptI (toPt x y i), false), (biggerN (ptY (toPt x y i)), false)]), [], eE true 48, eH (orF (b1 (toPt x y i)) 128)) := by kernel_rfl
end
/-- The bytes of a point, with its flags. -/
def e1L (s : Bool) (p : Pt FP) : List Int := match s, ptI p with
  | false, true => orF (b1 p) 64
  | false, false => b1 p
  | true, true => orF (orF (b1 p) 128) 64
  | true, false => if biggerN (ptY p) = true then orF (orF (b1 p) 128) 32 else orF (b1 p) 128
theorem en1_can {x y : Nat} {i s : Bool} (hin : in1 (toPt x y i) = true) : CanOk Tryz.prog 8 [g1A x y i, .val false [.b s]] [] 0 [] (eE s 48) (eH (e1L s (toPt x y i))) := by
  have h1 := en1_li x y i
  have h2 := en1_lp x y i
  have h3 := en1_si x y i
  have h4 := en1_sb x y i
  have h5 := en1_sp x y i
  unfold eS1 at *
  generalize toPt x y i = p at *
  have hC : ∀ r, okConds r → okConds (eC p r) := fun r hr => ⟨by rw [hin]; rfl, tt_ok 10 ⟨rfl, hr⟩⟩
  unfold e1L
  cases s with
  | false => cases hp : ptI p with
    | true => exact can_run SJfok KHok Tryz.func8 (by kernel_rfl) (by kernel_rfl) h1 (by kernel_rfl) (hC _ ⟨hp, tt_ok 4 trivial⟩)
    | false => exact can_run SJfok KHok Tryz.func8 (by kernel_rfl) (by kernel_rfl) h2 (by kernel_rfl) (hC _ ⟨hp, trivial⟩)
  | true => cases hp : ptI p with
    | true =>
      have hb : biggerN (ptY p) = false := by
        have : p = .inf := by cases p with | inf => rfl | pt a b => cases hp
        rw [this]; rfl
      exact can_run SJfok KHok Tryz.func8 (by kernel_rfl) (by kernel_rfl) h3 (by kernel_rfl) (hC _ (tt_ok 10 ⟨hp, tt_ok 4 ⟨hb, trivial⟩⟩))
    | false =>
      by_cases hb : biggerN (ptY p) = true
      · simp only [if_pos hb]
        exact can_run SJfok KHok Tryz.func8 (by kernel_rfl) (by kernel_rfl) h4 (by kernel_rfl) (hC _ (tt_ok 10 ⟨hp, hb, by rw [hp]; rfl, tt_ok 4 trivial⟩))
      · simp only [if_neg hb]
        exact can_run SJfok KHok Tryz.func8 (by kernel_rfl) (by kernel_rfl) h5 (by kernel_rfl) (hC _ (tt_ok 10 ⟨hp, by simpa using hb, trivial⟩))
end
end Go.Proofs.YtohjpdglbeohpaaGreat
/- codec.Encode2: the contract; both Encodes on offer. -/
namespace Go.Proofs.YtohjpdglbeohpaaGreat
open Ex Num Rg
open Sh (R av rd mo en mo_en)
set_option maxRecDepth 100000
set_option maxHeartbeats 4000000
noncomputable section

def o48 (x : Nat) : List Int := octL (x % pN) 48
def b2 (p : P2) : List Int := ((o48 (rX p).2 ++ o48 (rX p).1) ++ o48 (rY p).2) ++ o48 (rY p).1
def eE2 (s : Bool) (k : Nat) : AV := match s with
  | true => .tup [(false, [.sl 13 0 k k]), (false, [.n .i64 0])]
  | false => .tup [(false, [.sx 13 (2 * k) 1]), (false, [.n .i64 0])]
def eH2 (l : List Int) : Heap := [(13, some ⟨5, [.seq .u8 l], true⟩)]
section
variable (r : R P2)
noncomputable def eS2 (s : Bool) (p : List Bool) : ASt := entry Tryz.f13 [va P2 r, .val false [.b s]] [] 0 p
theorem en2_off (s : Bool) : segOut Tryz.prog oJf Tryz.f13 800 0 [] (eS2 r s [true]) = some ([(!in2 (mo r), true)], [], .tup [(false, [.v (.slice none 0 0)]), (false, [.n .i64 140])], []) := by kernel_rfl
def eC2 (p : P2) (l : List (Bool × Bool)) : List (Bool × Bool) := (!in2 p, false) :: tt 20 ((false, false) :: l)
theorem en2_li : segOut Tryz.prog oJf Tryz.f13 1200 0 [13] (eS2 r false [false, true, true, true, true, false, true]) = some (eC2 (mo r) ((pI1 (mo r : P2), true) :: tt 4 []), [], eE2 false 96, eH2 (orF (b2 (mo r)) 64)) := by kernel_rfl
theorem en2_lp : segOut Tryz.prog oJf Tryz.f13 1200 0 [13] (eS2 r false [false, true, true, true, true, false, false]) = some (eC2 (mo r) [(pI1 (mo r : P2), false)], [], eE2 false 96, eH2 (b2 (mo r))) := by kernel_rfl
def bgR (p : P2) : Bool := bg2 (mo (rY p))
theorem en2_si : segOut Tryz.prog oJf Tryz.f13 1200 0 [13] (eS2 r true [false, true, true, true, true, false, true, false]) = some (eC2 (mo r) (tt 10 ((pI1 (mo r : P2), true) :: tt 4 [(bgR (mo r), false)])), [], eE2 true 96, eH2 (orF (orF (b2 (mo r)) 128) 64)) := by kernel_rfl
theorem en2_sb : segOut Tryz.prog oJf Tryz.f13 1200 0 [13] (eS2 r true [false, true, true, true, true, false, false, true, true]) = some (eC2 (mo r) (tt 10 ((pI1 (mo r : P2), false) :: (bgR (mo r), true) :: (!pI1 (mo r : P2), true) :: tt 4 [])), [], eE2 true 96, eH2 (orF (orF (b2 (mo r)) 128) 32)) := by kernel_rfl
theorem en2_sp : segOut Tryz.prog oJf Tryz.f13 1200 0 [13] (eS2 r true [false, true, true, true, true, false, false, false]) = some (eC2 (mo r) (tt 10 [(pI1 (mo r : P2), false), (bgR (mo r), false)]), [], eE2 true 96, eH2 (orF (b2 (mo r)) 128)) := by kernel_rfl
end
def e2L (s : Bool) (p : P2) : List Int := match s, pI1 p with
  | false, true => orF (b2 p) 64
  | false, false => b2 p
  | true, true => orF (orF (b2 p) 128) 64
  | true, false => if bg2 (pY1 p) = true then orF (orF (b2 p) 128) 32 else orF (b2 p) 128
theorem en2_can {r : R P2} {s : Bool} (hin : in2 (mo r) = true) : CanOk Tryz.prog 13 [va P2 r, .val false [.b s]] [] 0 [] (eE2 s 96) (eH2 (e2L s (mo r))) := by
  have h1 := en2_li r
  have h2 := en2_lp r
  have h3 := en2_si r
  have h4 := en2_sb r
  have h5 := en2_sp r
  have eb : ∀ p, bgR p = bg2 (pY1 p) := fun p => congrArg bg2 (mo_en (pY1 p))
  rw [eb] at h3 h4 h5
  unfold eS2 at *
  generalize (mo r : P2) = p at *
  have hC : ∀ l, okConds l → okConds (eC2 p l) := fun l hr => ⟨by rw [hin]; rfl, tt_ok 20 ⟨rfl, hr⟩⟩
  unfold e2L
  cases s with
  | false => cases hp : pI1 p with
    | true => exact can_run SJfok KHok Tryz.func13 (by kernel_rfl) (by kernel_rfl) h1 (by kernel_rfl) (hC _ ⟨hp, tt_ok 4 trivial⟩)
    | false => exact can_run SJfok KHok Tryz.func13 (by kernel_rfl) (by kernel_rfl) h2 (by kernel_rfl) (hC _ ⟨hp, trivial⟩)
  | true => cases hp : pI1 p with
    | true =>
      have hb : bg2 (pY1 p) = false := by
        have : p = .inf := by cases p with | inf => rfl | pt a b => cases hp
        rw [this]
        show bg2 0 = false
        unfold bg2
        rw [if_pos (show (0 : FP2).b = 0 from rfl)]; rfl
      exact can_run SJfok KHok Tryz.func13 (by kernel_rfl) (by kernel_rfl) h3 (by kernel_rfl) (hC _ (tt_ok 10 ⟨hp, tt_ok 4 ⟨hb, trivial⟩⟩))
    | false =>
      by_cases hb : bg2 (pY1 p) = true
      · simp only [if_pos hb]
        exact can_run SJfok KHok Tryz.func13 (by kernel_rfl) (by kernel_rfl) h4 (by kernel_rfl) (hC _ (tt_ok 10 ⟨hp, hb, by rw [hp]; rfl, tt_ok 4 trivial⟩))
      · simp only [if_neg hb]
        exact can_run SJfok KHok Tryz.func13 (by kernel_rfl) (by kernel_rfl) h5 (by kernel_rfl) (hC _ (tt_ok 10 ⟨hp, by simpa using hb, trivial⟩))
/- on offer: the path tells whether the point is of order r -/
def errV (e : Int) : AV := .tup [(false, [.v (.slice none 0 0)]), (false, [.n .i64 e])]
def encSp (α : Type) [Sh α] (inn : α → Bool) (V : Bool → AV) (H : Bool → α → Heap) (nw : Nat) : ASpec := fun args _ fr path => match args with
  | [.val true a, B] => match (rd a : Option (R α)), asB (some B), path with
    | some r, some (_, _), true :: rest => some (trR [] 0 fr 0 [] (errV 140) [] [(inn (mo r), false)] rest)
    | some r, some (_, true), false :: rest => some (trR [] 0 fr nw [] (V true) (H true (mo r)) [(inn (mo r), true)] rest)
    | some r, some (_, false), false :: rest => some (trR [] 0 fr nw [] (V false) (H false (mo r)) [(inn (mo r), true)] rest)
    | _, _, _ => none
  | _ => none
theorem bB_rel {β β' : Env} {B : AV} {c s : Bool} {u : Value} (h : asB (some B) = some (c, s)) (hr : relA β B u) : relA β' (.val false [.b s]) u := by
  have := asB_rel (β := β) (u := u) (fun A hA => by injection hA with hA; subst hA; exact hr) h
  subst this
  exact rel_one' rfl
theorem encSp_ok {α : Type} [Sh α] {inn : α → Bool} {V : Bool → AV} {H : Bool → α → Heap} {nw : Nat} {f : FuncId} {fn : Func} (hfn : Tryz.prog.funcs[f]? = some fn) (hb : fn.body.isSome = true) (hname : (fn.name == "runtime.NumGoroutine") = false) (hk : ∀ s x, canB 0 nw [] (V s) (H s x) = true)
    (h0 : ∀ (r : R α) (s : Bool), inn (mo r) = false → CanOk Tryz.prog f [va α r, .val false [.b s]] [] 0 [] (errV 140) [])
    (h1 : ∀ (r : R α) (s : Bool), inn (mo r) = true → CanOk Tryz.prog f [va α r, .val false [.b s]] [] 0 [] (V s) (H s (mo r))) : SpecOk Tryz.prog f (encSp α inn V H nw) := by
  have hg' : ∀ (β : Env) (H0 : Heap) (w : World), Ex.Good β H0 w → Ex.Good (inEnv β [] 0) [] w := fun β _ w _ => by
    have hn : ∀ b, inEnv β [] 0 b = none := fun b => by
      unfold inEnv
      have : Nat.blt b 0 = false := by cases b <;> rfl
      rw [this]
    exact ⟨(fun b blk h => by cases h), (fun b b' B n n' h => by cases h), (fun b B n h => by rw [hn] at h; cases h)⟩
  refine can_spec2 hfn hb hname fun args H0 fr path r hs => ?_
  unfold encSp at hs
  split at hs
  case h_2 => cases hs
  rename_i a B
  split at hs
  case h_4 => cases hs
  all_goals injection hs with hs
  · rename_i q c s rest hx hB
    refine ⟨[], 0, 0, [], _, _, _, _, hs.symm, fun β us w ha hgd hc => ?_⟩
    obtain ⟨u1, us1, r1, ⟨u2, us2, r2, ha, rfl⟩, rfl⟩ := ha
    exact ⟨[va α q, .val false [.b s]], [], h0 q s hc.1, by kernel_rfl, ⟨u1, _, va_rel hx r1, ⟨u2, us2, bB_rel hB r2, ha, rfl⟩, rfl⟩, hg' β H0 w hgd, fun k hk => by omega⟩
  · rename_i q c rest hx hB
    refine ⟨[], 0, nw, [], _, _, _, _, hs.symm, fun β us w ha hgd hc => ?_⟩
    obtain ⟨u1, us1, r1, ⟨u2, us2, r2, ha, rfl⟩, rfl⟩ := ha
    exact ⟨[va α q, .val false [.b true]], [], h1 q true hc.1, hk _ _, ⟨u1, _, va_rel hx r1, ⟨u2, us2, bB_rel hB r2, ha, rfl⟩, rfl⟩, hg' β H0 w hgd, fun k hk => by omega⟩
  · rename_i q c rest hx hB
    refine ⟨[], 0, nw, [], _, _, _, _, hs.symm, fun β us w ha hgd hc => ?_⟩
    obtain ⟨u1, us1, r1, ⟨u2, us2, r2, ha, rfl⟩, rfl⟩ := ha
    exact ⟨[va α q, .val false [.b false]], [], h1 q false hc.1, hk _ _, ⟨u1, _, va_rel hx r1, ⟨u2, us2, bB_rel hB r2, ha, rfl⟩, rfl⟩, hg' β H0 w hgd, fun k hk => by omega⟩
theorem en1_no (r : R (Pt FP)) (s : Bool) (h : in1 (mo r) = false) : CanOk Tryz.prog 8 [va (Pt FP) r, .val false [.b s]] [] 0 [] (errV 140) [] :=
  can_run SJfok KHok Tryz.func8 (by kernel_rfl) (by kernel_rfl) (en1_off r.1 r.2.1 r.2.2 s) (by kernel_rfl) ⟨by rw [show in1 (toPt r.1 r.2.1 r.2.2) = false from h]; rfl, trivial⟩
theorem en2_no (r : R P2) (s : Bool) (h : in2 (mo r) = false) : CanOk Tryz.prog 13 [va P2 r, .val false [.b s]] [] 0 [] (errV 140) [] :=
  can_run SJfok KHok Tryz.func13 (by kernel_rfl) (by kernel_rfl) (en2_off r s) (by kernel_rfl) ⟨by rw [h]; rfl, trivial⟩
def SJg : List (FuncId × ASpec) := (8, encSp (Pt FP) in1 (fun s => eE s 48) (fun s p => eH (e1L s p)) 8) :: (13, encSp P2 in2 (fun s => eE2 s 96) (fun s p => eH2 (e2L s p)) 14) :: SJf
theorem SJgok : SpecsOk Tryz.prog SJg := ⟨encSp_ok Tryz.func8 (by kernel_rfl) (by kernel_rfl) (fun s _ => by cases s <;> kernel_rfl) en1_no (fun r _ h => en1_can (x := r.1) (y := r.2.1) (i := r.2.2) h), encSp_ok Tryz.func13 (by kernel_rfl) (by kernel_rfl) (fun s _ => by cases s <;> kernel_rfl) en2_no (fun _ _ h => en2_can h), SJfok⟩
abbrev oJg : Orc := orc SJg KH
theorem oJgok : OrcOk Tryz.prog oJg := orc_ok SJgok KHok
end
end Go.Proofs.YtohjpdglbeohpaaGreat
/- The bases are of order r. -/
namespace Go.Proofs.YtohjpdglbeohpaaGreat
open Ex Num Rg
open Sh (R av rd mo en mo_en)
set_option maxRecDepth 100000
set_option maxHeartbeats 4000000
noncomputable section

/-- The number is reckoned before it is handed on. -/
def frc {α : Type} (x : Nat) (k : Nat → α) : α := Nat.rec (k 0) (fun n _ => k (Nat.succ n)) x
theorem frc_eq {α : Type} (x : Nat) (k : Nat → α) : frc x k = k x := by cases x <;> rfl
section
variable {F : Type} [Sh F] [FD F]
def jgo (fc : R (J F) → (R (J F) → Bool) → Bool) (z : R F → Bool) (a b : F) (N : Nat) (i : Nat) : R (J F) → Bool :=
  Nat.rec (fun r => z r.2.2) (fun i ih r => fc (en (twJ (mo r : J F))) fun s => cond (Nat.beq (N / 2 ^ i % 2) 1) (fc (en (plJ (mo s : J F) a b)) ih) (ih s)) i
theorem jgo_ok (C : Cv F) {fc : R (J F) → (R (J F) → Bool) → Bool} {z : R F → Bool} {a b : F} {N : Nat} (hfc : ∀ r k, fc r k = k r) (hz : ∀ r : R F, z r = true → (mo r : F) = 0) (hP : On C.b (.pt a b)) :
    ∀ (i : Nat) (r : R (J F)), ptJ (mo r : J F) = smul (N / 2 ^ i) (.pt a b) → jgo fc z a b N i r = true → smul N (.pt a b) = .inf := by
  intro i
  induction i with
  | zero =>
    intro r hr h
    rw [Nat.pow_zero, Nat.div_one] at hr
    rw [← hr]
    exact ptJ_zero (hz r.2.2 h)
  | succ i ih =>
    intro r hr h
    have h' : fc (en (twJ (mo r : J F))) (fun s => cond (Nat.beq (N / 2 ^ i % 2) 1) (fc (en (plJ (mo s : J F) a b)) (jgo fc z a b N i)) (jgo fc z a b N i s)) = true := h
    rw [hfc, hfc] at h'
    have hdiv : N / 2 ^ i = 2 * (N / 2 ^ (i + 1)) + N / 2 ^ i % 2 := by
      rw [Nat.pow_succ, ← Nat.div_div_eq_div_mul]; omega
    have hoj : On C.b (ptJ (mo r : J F)) := by rw [hr]; exact on_smul C hP _
    have htw : ptJ (twJ (mo r : J F)) = smul (2 * (N / 2 ^ (i + 1))) (.pt a b) := by
      rw [ptJ_tw C hoj, hr, ← smul_add C hP, Nat.two_mul]
    have htw' : ptJ (mo (en (twJ (mo r : J F)) : R (J F)) : J F) = smul (2 * (N / 2 ^ (i + 1))) (.pt a b) := by rw [mo_en]; exact htw
    cases hb : Nat.beq (N / 2 ^ i % 2) 1 with
    | true =>
      rw [hb] at h'
      have h1 := Nat.eq_of_beq_eq_true hb
      refine ih _ ?_ h'
      rw [mo_en, ptJ_pl C (by rw [htw']; exact on_smul C hP _), htw']
      rw [hdiv, h1]; rfl
    | false =>
      rw [hb] at h'
      have h1 : N / 2 ^ i % 2 = 0 := by
        have := Nat.ne_of_beq_eq_false hb
        omega
      refine ih _ ?_ h'
      rw [htw', hdiv, h1]; rfl
end
def fc1 (r : R (J FP)) (k : R (J FP) → Bool) : Bool := frc r.1 fun x => frc r.2.1 fun y => frc r.2.2 fun z => k (x, y, z)
theorem fc1_eq (r : R (J FP)) (k : R (J FP) → Bool) : fc1 r k = k r := by unfold fc1; rw [frc_eq, frc_eq, frc_eq]; rfl
def fc2 (r : R (J FP2)) (k : R (J FP2) → Bool) : Bool := frc r.1.1 fun x => frc r.1.2 fun x' => frc r.2.1.1 fun y => frc r.2.1.2 fun y' => frc r.2.2.1 fun z => frc r.2.2.2 fun z' => k ((x, x'), (y, y'), (z, z'))
theorem fc2_eq (r : R (J FP2)) (k : R (J FP2) → Bool) : fc2 r k = k r := by unfold fc2; rw [frc_eq, frc_eq, frc_eq, frc_eq, frc_eq, frc_eq]; rfl
def zr1 (r : R FP) : Bool := Nat.beq r 0
theorem zr1_ok (r : R FP) (h : zr1 r = true) : (mo r : FP) = 0 := by
  have : r = (0 : Nat) := Nat.eq_of_beq_eq_true h
  rw [this]; exact tf_zero
def zr2 (r : R FP2) : Bool := Nat.beq r.1 0 && Nat.beq r.2 0
theorem zr2_ok (r : R FP2) (h : zr2 r = true) : (mo r : FP2) = 0 := by
  obtain ⟨h1, h2⟩ := Bool.and_eq_true_iff.1 h
  exact Qx.ext (zr1_ok r.1 h1) (zr1_ok r.2 h2)
theorem rQ_zero : rQ / 2 ^ 255 = 0 := by kernel_rfl
theorem onG1 : onP G1B = true := (on_eqN gX gY).symm.trans (by kernel_rfl)
theorem onG2 : on2 G2B = true := by kernel_rfl
theorem jgo_G1 : jgo fc1 zr1 (tf gX) (tf gY) rQ 255 (en (⟨0, 0, 0⟩ : J FP)) = true := by kernel_rfl
theorem jgo_G2 : jgo fc2 zr2 B2x B2y rQ 255 (en (⟨0, 0, 0⟩ : J FP2)) = true := by kernel_rfl
theorem rG1 : smul rN G1B = .inf := by
  rw [rN_eq]
  exact jgo_ok C1 fc1_eq zr1_ok ((onP_iff G1B).1 onG1) 255 _ (by rw [mo_en, rQ_zero, ptJ_zero rfl]; rfl) jgo_G1
theorem rG2 : smul rN G2B = .inf := by
  rw [rN_eq]
  exact jgo_ok C2 fc2_eq zr2_ok ((on2_iff G2B).1 onG2) 255 _ (by rw [mo_en, rQ_zero, ptJ_zero rfl]; rfl) jgo_G2
theorem in1_G : in1 G1B = true := by unfold in1; rw [onG1, rG1]; rfl
theorem in2_G : in2 G2B = true := by unfold in2; rw [onG2, rG2]; rfl
theorem in1_inf : in1 .inf = true := by unfold in1; rw [smul_inf]; rfl
theorem in2_inf : in2 .inf = true := by unfold in2; rw [smul_inf]; rfl
end
end Go.Proofs.YtohjpdglbeohpaaGreat
/- sigilref01.Same: whether two lists of bytes are one: the contract. -/
namespace Go.Proofs.YtohjpdglbeohpaaGreat
open Ex Num
set_option maxRecDepth 100000
set_option maxHeartbeats 4000000
noncomputable section

def sqH (xs ys : List Int) : Heap := [(0, some (roB [.seq .u8 xs])), (1, some (roB [.seq .u8 ys]))]
noncomputable def saEnt (off n m off' n' m' : Nat) (xs ys : List Int) (p : List Bool) : ASt := entry Tryz.f10 (sl2 off n m off' n' m') (sqH xs ys) 2 p
noncomputable def saTodo : List Item := todoOf (aSeg Tryz.prog (orc S10 K0) (some 0) 100 2 none (saEnt 0 0 0 0 0 0 [] [] [false]))
noncomputable def saT (off n m off' n' m' : Nat) (i : Int) : List AV := .val false [.sl 0 off n m] :: .val false [.sl 1 off' n' m'] :: .any :: .any :: .any :: .val false [.n .i64 i] :: List.replicate (Tryz.f10.ntmps - 6) .any
noncomputable def saS (off n m off' n' m' : Nat) (xs ys : List Int) (i : Int) (p : List Bool) : ASt := ⟨saTodo, ⟨saT off n m off' n' m' i, sqH xs ys, 2, p⟩⟩
abbrev saK : Option (List Nat × List Nat × Nat) := some ([0, 1, 5], [0, 1], 2)
section
variable (off n m off' n' m' : Nat) (xs ys : List Int) (i : Int)
theorem sa_entry : aSeg Tryz.prog (orc S10 K0) (some 0) 100 2 saK (saEnt off n m off' n' m' xs ys [false]) = some ([(hasB .i64 n, true), (hasB .i64 n', true), (!decide ((n : Int) = n'), false)], [], saS off n m off' n' m' xs ys 0 []) := by kernel_rfl
theorem sa_ne : segOut Tryz.prog (orc S10 K0) Tryz.f10 100 2 [] (saEnt off n m off' n' m' xs ys [true]) = some ([(hasB .i64 n, true), (hasB .i64 n', true), (!decide ((n : Int) = n'), true)], [], .val false [.b false], []) := by kernel_rfl
def saC (d : Bool) (r : List (Bool × Bool)) : List (Bool × Bool) := (hasB .i64 n, true) :: (decide (i < n), true) :: (decide (0 ≤ i ∧ i < n), true) :: (decide (off + i.toNat * 1 < xs.length), true) :: (decide (0 ≤ i ∧ i < n'), true) :: (decide (off' + i.toNat * 1 < ys.length), true) :: (!decide (xs.getD (off + i.toNat * 1) 0 = ys.getD (off' + i.toNat * 1) 0), d) :: r
theorem sa_step : aSeg Tryz.prog (orc S10 K0) (some 0) 100 2 saK (saS off n m off' n' m' xs ys i [true, false]) = some (saC off n off' n' xs ys i false [], [], saS off n m off' n' m' xs ys (wrapc true .i64 (i + 1)) []) := by kernel_rfl
theorem sa_diff : segOut Tryz.prog (orc S10 K0) Tryz.f10 100 2 [] (saS off n m off' n' m' xs ys i [true, true]) = some (saC off n off' n' xs ys i true [], [], .val false [.b false], []) := by kernel_rfl
theorem sa_end : segOut Tryz.prog (orc S10 K0) Tryz.f10 100 2 [] (saS off n m off' n' m' xs ys i [false]) = some ([(hasB .i64 n, true), (decide (i < n), false)], [], .val false [.b true], []) := by kernel_rfl
theorem sa_wf (p : List Bool) : wfSt Tryz.f10.ntmps (saS off n m off' n' m' xs ys i p).s := wfB_ok (by kernel_rfl)
end
def smB (a b : List Int) : Bool := decide (a = b)
theorem win_get {xs : List Int} {off n j : Nat} (h : j < n) : (win xs off n).getD j 0 = xs.getD (off + j) 0 := by
  unfold win
  rw [List.getD_eq_getElem?_getD, List.getD_eq_getElem?_getD, List.getElem?_take_of_lt h, List.getElem?_drop]
theorem win_len2 {xs : List Int} {off n : Nat} (h : off + n ≤ xs.length) : (win xs off n).length = n := by
  unfold win; rw [List.length_take, List.length_drop]; omega
theorem bval {β : Env} {x y : Bool} {u : Value} (e : x = y) (h : relA β (.val false [.b x]) u) : relA β (boolA y) u := by
  subst e
  obtain ⟨l1, l2, h1, h2, h3⟩ := h
  exact ⟨l1, l2, ⟨h1, rfl, trivial⟩, h2, h3⟩
section
variable {off n m off' m' : Nat} {xs ys : List Int} (hl : off + n ≤ xs.length) (hl' : off' + n ≤ ys.length) (hn : hasB .i64 n = true) {β0 : Env} {w0 : World} (hb : ∀ b, 2 ≤ b → β0 b = none)
include hl hl' hn hb
theorem sa_safe : ∀ c i : Nat, i + c = n → (∀ j, j < i → xs.getD (off + j) 0 = ys.getD (off' + j) 0) →
    ASafe Tryz.prog 10 β0 w0 (Outs β0 w0 [] (boolA (smB (win xs off n) (win ys off' n))) []) Tryz.f10.ntmps [] (saS off n m off' n m' xs ys (i : Nat) []) := by
  have bn : n ≤ 9223372036854775807 := by simp only [hasB, Bool.and_eq_true, decide_eq_true_eq] at hn; omega
  intro c
  induction c with
  | zero =>
    intro i hi heq
    have e : smB (win xs off n) (win ys off' n) = true := decide_eq_true (List.ext_getElem (by rw [win_len2 hl, win_len2 hl']) fun j h1 h2 => by
      rw [win_len2 hl] at h1
      have h3 := heq j (by omega)
      rw [← win_get h1, ← win_get h1, List.getD_eq_getElem?_getD, List.getD_eq_getElem?_getD, List.getElem?_eq_getElem (by rw [win_len2 hl]; exact h1), List.getElem?_eq_getElem h2] at h3
      exact h3)
    refine path_safe [false] (asafe_val (out_safe (orc_ok S10ok K0ok) mixed Tryz.func10 (sa_end ..) ⟨hn, decide_eq_false (by omega), trivial⟩ (sa_wf ..) hb (fun _ h => by cases h)) fun _ _ => bval e.symm)
  | succ c ih =>
    intro i hi heq
    have et : ((i : Nat) : Int).toNat = i := Int.toNat_natCast i
    have hC : ∀ d r, (!decide (xs.getD (off + i) 0 = ys.getD (off' + i) 0)) = d → okConds r → okConds (saC off n off' n xs ys (i : Nat) d r) := fun d r hd hr =>
      ⟨hn, decide_eq_true (by omega), decide_eq_true (by omega), decide_eq_true (by rw [et]; omega), decide_eq_true (by omega), decide_eq_true (by rw [et]; omega), by rw [et, Nat.mul_one]; exact hd, hr⟩
    by_cases he : xs.getD (off + i) 0 = ys.getD (off' + i) 0
    · refine path_safe [true, false] (seg_safe (orc_ok S10ok K0ok) mixed (sa_step ..) (hC false [] (by rw [decide_eq_true he]; rfl) trivial) (sa_wf ..) hb (fun _ h => by cases h) fun _ => ?_)
      rw [wrapc_i64 true (by omega), show ((i : Nat) : Int) + 1 = ((i + 1 : Nat) : Int) from rfl]
      refine ih (i + 1) (by omega) fun j hj => ?_
      rcases Nat.lt_or_ge j i with q | q
      · exact heq j q
      · rw [show j = i by omega]; exact he
    · have e : smB (win xs off n) (win ys off' n) = false := decide_eq_false fun h => he (by
        have h3 : (win xs off n).getD i 0 = (win ys off' n).getD i 0 := by rw [h]
        rw [win_get (by omega), win_get (by omega)] at h3
        exact h3)
      exact path_safe [true, true] (asafe_val (out_safe (orc_ok S10ok K0ok) mixed Tryz.func10 (sa_diff ..) (hC true [] (by rw [decide_eq_false he]; rfl) trivial) (sa_wf ..) hb (fun _ h => by cases h)) fun _ _ => bval e.symm)
end
theorem sa_can {off n m off' n' m' : Nat} {xs ys : List Int} (hl : off + n ≤ xs.length) (hl' : off' + n' ≤ ys.length) (hn : hasB .i64 n = true) (hn' : hasB .i64 n' = true) :
    CanOk Tryz.prog 10 (sl2 off n m off' n' m') (sqH xs ys) 2 [] (boolA (smB (win xs off n) (win ys off' n'))) [] := by
  by_cases he : n = n'
  · subst he
    refine can_entry (path := [false]) Tryz.func10 (by kernel_rfl) (by kernel_rfl) fun β0 w0 hb => ?_
    exact seg_safe (orc_ok S10ok K0ok) mixed (sa_entry off n m off' n m' xs ys) ⟨hn, hn', by rw [decide_eq_true rfl]; rfl, trivial⟩ (wfB_ok (by kernel_rfl)) hb (fun _ h => by cases h) fun _ => sa_safe hl hl' hn hb n 0 (by omega) fun j hj => absurd hj (Nat.not_lt_zero j)
  · have e : smB (win xs off n) (win ys off' n') = false := decide_eq_false fun h => he (by
      have h3 := congrArg List.length h
      rwa [win_len2 hl, win_len2 hl'] at h3)
    exact can_val (can_run S10ok K0ok Tryz.func10 (by kernel_rfl) (by kernel_rfl) (sa_ne off n m off' n' m' xs ys) (by kernel_rfl) ⟨hn, hn', by rw [decide_eq_false (by omega)]; rfl, trivial⟩) fun _ _ => bval e.symm
theorem good_by2 {β : Env} {H : Heap} {w : World} {k t : Nat} {ty ty' : Nat} {cs ds : List Ch} {o o' : Bool} {xs ys : List Int} (hg : Ex.Good β H w) (hk : hget H k = some ⟨ty, cs, o⟩) (ht : hget H t = some ⟨ty', ds, o'⟩) (hxs : toSeq .u8 cs = some xs) (hys : toSeq .u8 ds = some ys) :
    Ex.Good (inEnv β [k, t] 2) (sqH xs ys) w ∧ (∀ j, j < 2 → ∃ X, β (nth [k, t] j) = some X) := by
  refine ⟨good2r (c := [.seq .u8 xs]) (e := [.seq .u8 ys]) hg hk ht (fun l h => ?_) (fun l h => ?_), fun j hj => ?_⟩
  · obtain ⟨q1, q2⟩ := toSeq_rel hxs h
    exact ⟨_, [], ⟨q1, q2⟩, rfl, by simp⟩
  · obtain ⟨q1, q2⟩ := toSeq_rel hys h
    exact ⟨_, [], ⟨q1, q2⟩, rfl, by simp⟩
  · match j, hj with
    | 0, _ => exact relB_def (hg.heap _ _ hk)
    | 1, _ => exact relB_def (hg.heap _ _ ht)
noncomputable def smSp : ASpec := fun args H fr path =>
  match args with
  | [A, B] => match asSl A, asSl B with
    | some (k, off, n), some (t, off', n') => match hget H k, hget H t with
      | some ⟨_, cs, _⟩, some ⟨_, ds, _⟩ => match toSeq .u8 cs, toSeq .u8 ds with
        | some xs, some ys => some (trR [k, t] 2 fr 0 [] (boolA (smB (win xs off n) (win ys off' n'))) [] [(Nat.ble (off + n) xs.length, true), (Nat.ble (off' + n') ys.length, true), (hasB .i64 n, true), (hasB .i64 n', true)] path)
        | _, _ => none
      | _, _ => none
    | _, _ => none
  | _ => none
theorem smSp_ok : SpecOk Tryz.prog 10 smSp := by
  refine can_spec2 Tryz.func10 (by kernel_rfl) (by kernel_rfl) fun args H fr path r h => ?_
  unfold smSp at h
  split at h
  case h_2 => cases h
  rename_i A B
  split at h
  case h_2 => cases h
  rename_i k off n t off' n' hA hB
  split at h
  case h_2 => cases h
  rename_i ty cs o ty' ds o' hk ht
  split at h
  case h_2 => cases h
  rename_i xs ys hxs hys
  injection h with h
  refine ⟨[k, t], 2, 0, [], _, _, _, path, h.symm, fun β us w ha hg hc => ?_⟩
  obtain ⟨u1, us1, r1, ⟨u2, us2, r2, ha, rfl⟩, rfl⟩ := ha
  obtain ⟨m, r1⟩ := asSl_rel hA r1
  obtain ⟨m', r2⟩ := asSl_rel hB r2
  obtain ⟨g2, g3⟩ := good_by2 hg hk ht hxs hys
  exact ⟨sl2 off n m off' n' m', sqH xs ys, sa_can (Nat.le_of_ble_eq_true hc.1) (Nat.le_of_ble_eq_true hc.2.1) hc.2.2.1 hc.2.2.2.1, by kernel_rfl, ⟨u1, _, sl_in (by omega) rfl r1, ⟨u2, us2, sl_in (by omega) rfl r2, ha, rfl⟩, rfl⟩, g2, g3⟩
end
end Go.Proofs.YtohjpdglbeohpaaGreat
/- The bytes of points, with their flags. -/
namespace Go.Proofs.YtohjpdglbeohpaaGreat
open Ex Num Rg
open Sh (R av rd mo en mo_en)
set_option maxRecDepth 100000
set_option maxHeartbeats 4000000
noncomputable section

def flB (l : List Int) (k : Int) : Bool := decide (0 < bits .and .u8 (l.getD 0 0) k)
def rsL (xs : List Int) (k : Nat) : List Int := bits .and .u8 (xs.getD 0 0) 31 :: List.take k (List.drop 1 xs)
def nbW (ls : List Int) (o : Nat) : Nat := natB (win ls o 48)
/- one byte -/
def fB (s i b : Bool) (f : Int) : Int := match s, i with
  | false, true => bits .or .u8 f 64
  | false, false => f
  | true, true => bits .or .u8 (bits .or .u8 f 128) 64
  | true, false => if b = true then bits .or .u8 (bits .or .u8 f 128) 32 else bits .or .u8 f 128
def fB1 (s i b : Bool) (n : Nat) : Bool := (decide (0 < bits .and .u8 (fB s i b n) 128) == s) && ((decide (0 < bits .and .u8 (fB s i b n) 64) == i) && ((decide (0 < bits .and .u8 (fB s i b n) 32) == (s && (!i && b))) && decide (bits .and .u8 (fB s i b n) 31 = n)))
theorem fB1_all (s i b : Bool) : (List.range 32).all (fB1 s i b) = true := by cases s <;> cases i <;> cases b <;> kernel_rfl
theorem fB1_ok (s i b : Bool) {f : Int} (h0 : 0 ≤ f) (h1 : f < 32) : decide (0 < bits .and .u8 (fB s i b f) 128) = s ∧ decide (0 < bits .and .u8 (fB s i b f) 64) = i ∧ decide (0 < bits .and .u8 (fB s i b f) 32) = (s && (!i && b)) ∧ bits .and .u8 (fB s i b f) 31 = f := by
  obtain ⟨n, rfl⟩ := Int.eq_ofNat_of_zero_le h0
  have h := List.all_eq_true.1 (fB1_all s i b) n (List.mem_range.2 (by omega))
  unfold fB1 at h
  simp only [Bool.and_eq_true, beq_iff_eq] at h
  exact ⟨h.1, h.2.1, h.2.2.1, of_decide_eq_true h.2.2.2⟩
def fB2 (b : Bool) (n : Nat) : Bool := decide (bits .xor .u8 (fB true false b n) 32 = fB true false (!b) n)
theorem fB2_all (b : Bool) : (List.range 32).all (fB2 b) = true := by cases b <;> kernel_rfl
theorem fB2_ok (b : Bool) {f : Int} (h0 : 0 ≤ f) (h1 : f < 32) : bits .xor .u8 (fB true false b f) 32 = fB true false (!b) f := by
  obtain ⟨n, rfl⟩ := Int.eq_ofNat_of_zero_le h0
  exact of_decide_eq_true (List.all_eq_true.1 (fB2_all b) n (List.mem_range.2 (by omega)))
def fB3 (s i b : Bool) (n : Nat) : Bool := !(decide (0 < bits .and .u8 n 128) == s) || (!(decide (0 < bits .and .u8 n 64) == i) || (!(decide (0 < bits .and .u8 n 32) == (s && (!i && b))) || decide (fB s i b (bits .and .u8 n 31) = n)))
theorem fB3_all (s i b : Bool) : (List.range 256).all (fB3 s i b) = true := by cases s <;> cases i <;> cases b <;> kernel_rfl
theorem fB3_ok {s i b : Bool} {f : Int} (h0 : 0 ≤ f) (h1 : f < 256) (hs : decide (0 < bits .and .u8 f 128) = s) (hi : decide (0 < bits .and .u8 f 64) = i) (hb : decide (0 < bits .and .u8 f 32) = (s && (!i && b))) : fB s i b (bits .and .u8 f 31) = f := by
  obtain ⟨n, rfl⟩ := Int.eq_ofNat_of_zero_le h0
  have h := List.all_eq_true.1 (fB3_all s i b) n (List.mem_range.2 (by omega))
  unfold fB3 at h
  rw [hs, hi, hb] at h
  simpa using h
def fB4 (n : Nat) : Bool := decide (0 ≤ bits .and .u8 n 31) && decide (bits .and .u8 n 31 < 32)
theorem fB4_all : (List.range 256).all fB4 = true := by kernel_rfl
theorem fB4_ok {f : Int} (h0 : 0 ≤ f) (h1 : f < 256) : 0 ≤ bits .and .u8 f 31 ∧ bits .and .u8 f 31 < 32 := by
  obtain ⟨n, rfl⟩ := Int.eq_ofNat_of_zero_le h0
  have h := List.all_eq_true.1 fB4_all n (List.mem_range.2 (by omega))
  unfold fB4 at h
  simpa using h
/- all bytes -/
def ecL (s i b : Bool) (B : List Int) : List Int := match s, i with
  | false, true => orF B 64
  | false, false => B
  | true, true => orF (orF B 128) 64
  | true, false => if b = true then orF (orF B 128) 32 else orF B 128
theorem ecL_cons (s i b : Bool) (f : Int) (t : List Int) : ecL s i b (f :: t) = fB s i b f :: t := by cases s <;> cases i <;> cases b <;> rfl
theorem e1L_ec (s : Bool) (p : Pt FP) : e1L s p = ecL s (ptI p) (biggerN (ptY p)) (b1 p) := by
  unfold e1L ecL
  cases s <;> cases ptI p <;> rfl
theorem e2L_ec (s : Bool) (p : P2) : e2L s p = ecL s (pI1 p) (bg2 (pY1 p)) (b2 p) := by
  unfold e2L ecL
  cases s <;> cases pI1 p <;> rfl
theorem ec_win (s i b : Bool) {B : List Int} {k : Nat} (hk : 0 < k) (hB : k ≤ B.length) {f : Int} {t : List Int} (e : B = f :: t) (h0 : 0 ≤ f) (h1 : f < 32) : (win (ecL s i b B) 0 k).length = k ∧ flB (win (ecL s i b B) 0 k) 128 = s ∧ flB (win (ecL s i b B) 0 k) 64 = i ∧ flB (win (ecL s i b B) 0 k) 32 = (s && (!i && b)) ∧ rsL (win (ecL s i b B) 0 k) (k - 1) = B.take k := by
  obtain ⟨j, rfl⟩ : ∃ j, k = j + 1 := ⟨k - 1, by omega⟩
  subst e
  rw [ecL_cons]
  obtain ⟨q1, q2, q3, q4⟩ := fB1_ok s i b h0 h1
  have hl : j ≤ t.length := by simpa using hB
  refine ⟨by simp [win]; omega, q1, q2, q3, ?_⟩
  show bits .and .u8 (fB s i b f) 31 :: List.take j (List.take j t) = f :: List.take j t
  rw [q4, List.take_take, Nat.min_self]
theorem ec_back {s i b : Bool} {L B : List Int} {k : Nat} (hk : 0 < k) (hl : L.length = k) (hL : ∀ d ∈ L, 0 ≤ d ∧ d < 256) (hs : flB L 128 = s) (hi : flB L 64 = i) (hb : flB L 32 = (s && (!i && b))) (hB : B.take k = rsL L (k - 1)) : win (ecL s i b B) 0 k = L := by
  obtain ⟨j, rfl⟩ : ∃ j, k = j + 1 := ⟨k - 1, by omega⟩
  cases L with
  | nil => cases hl
  | cons v u =>
    have hv := hL v (List.mem_cons_self ..)
    have hu : u.length = j := by simpa using hl
    have hB' : B.take (j + 1) = bits .and .u8 v 31 :: List.take j u := hB
    cases B with
    | nil => cases hB'
    | cons f t =>
      rw [List.take_succ_cons] at hB'
      injection hB' with e1 e2
      rw [ecL_cons]
      show fB s i b f :: List.take j t = v :: u
      rw [e1, e2, fB3_ok hv.1 hv.2 hs hi hb, ← hu, List.take_length]
/- the numbers -/
def cat : List Nat → List Int
  | [] => []
  | x :: r => octL x 48 ++ cat r
theorem cat_length : ∀ l : List Nat, (cat l).length = 48 * l.length
  | [] => rfl
  | x :: r => by rw [cat, List.length_append, octL_length, cat_length r, List.length_cons]; omega
theorem cat_take : ∀ (l : List Nat) (k : Nat), (cat l).take (48 * k) = cat (l.take k)
  | [], k => by rw [cat, List.take_nil, List.take_nil]; rfl
  | x :: r, 0 => rfl
  | x :: r, k + 1 => by
    rw [cat, List.take_succ_cons, cat, ← cat_take r k, List.take_append, octL_length, List.take_of_length_le (by rw [octL_length]; omega)]
    congr 2
theorem nbW_cat : ∀ (l : List Nat) (j : Nat), j < l.length → nbW (cat l) (48 * j) = l.getD j 0 % 256 ^ 48
  | [], j, h => absurd h (Nat.not_lt_zero j)
  | x :: r, 0, _ => by
    show natB ((octL x 48 ++ cat r).take 48) = _
    rw [List.take_left' (octL_length x 48), natB_octL]; rfl
  | x :: r, j + 1, h => by
    have ih := nbW_cat r j (by simpa using h)
    show natB (((octL x 48 ++ cat r).drop (48 * (j + 1))).take 48) = r.getD j 0 % 256 ^ 48
    rw [show 48 * (j + 1) = 48 + 48 * j by omega, ← List.drop_drop, List.drop_left' (octL_length x 48)]
    exact ih
theorem cat_nbW : ∀ (k : Nat) (ls : List Int), ls.length = 48 * k → (∀ d ∈ ls, 0 ≤ d ∧ d < 256) → cat ((List.range k).map fun j => nbW ls (48 * j)) = ls
  | 0, ls, h, _ => by
    cases ls with
    | nil => rfl
    | cons a b => simp at h
  | k + 1, ls, h, hb => by
    have ih := cat_nbW k (ls.drop 48) (by rw [List.length_drop]; omega) fun d hd => hb d (List.mem_of_mem_drop hd)
    rw [List.range_succ_eq_map, List.map_cons, List.map_map, cat]
    have e1 : octL (nbW ls (48 * 0)) 48 = ls.take 48 := by
      have hl : (ls.take 48).length = 48 := by rw [List.length_take]; omega
      have := octL_natB (ls.take 48) fun d hd => hb d (List.mem_of_mem_take hd)
      rw [hl] at this
      exact this
    have e2 : ((fun j => nbW ls (48 * j)) ∘ Nat.succ) = fun j => nbW (ls.drop 48) (48 * j) := by
      funext j
      show natB ((ls.drop (48 * (j + 1))).take 48) = natB (((ls.drop 48).drop (48 * j)).take 48)
      rw [List.drop_drop, show 48 * (j + 1) = 48 + 48 * j by omega]
    rw [e1, e2, ih, List.take_append_drop]
theorem pN_256 : pN < 32 * 256 ^ 47 := nblt.1 (by kernel_rfl)
theorem mod_p48 {x : Nat} (h : x < pN) : x % 256 ^ 48 = x := Nat.mod_eq_of_lt (by have := pN_256; omega)
/-- The first byte of a number is below 32. -/
theorem cat_head {x : Nat} (hx : x < pN) (r : List Nat) : ∃ f t, cat (x :: r) = f :: t ∧ 0 ≤ f ∧ f < 32 := by
  refine ⟨byteN x 47, octL x 47 ++ cat r, ?_, ?_⟩
  · show octL x (47 + 1) ++ cat r = _
    rw [octL_succ]; rfl
  · have h1 : x / 256 ^ 47 < 32 := Nat.div_lt_of_lt_mul (by have := pN_256; omega)
    have h2 : byteN x 47 = ((x / 256 ^ 47 % 256 : Nat) : Int) := rfl
    rw [h2]
    omega
noncomputable def l1 (p : Pt FP) : List Nat := [ptX p, ptY p]
noncomputable def l2 (p : P2) : List Nat := [(rX p).2, (rX p).1, (rY p).2, (rY p).1]
theorem b1_cat (p : Pt FP) : b1 p = cat (l1 p) := by
  unfold b1 l1 cat cat cat
  rw [Nat.mod_eq_of_lt (ptX_lt p), Nat.mod_eq_of_lt (ptY_lt p), List.append_nil]
theorem rX_lt (p : P2) : Nat.lt (rX p).1 pN ∧ Nat.lt (rX p).2 pN := ⟨(pX1 p).a.isLt, (pX1 p).b.isLt⟩
theorem rY_lt (p : P2) : Nat.lt (rY p).1 pN ∧ Nat.lt (rY p).2 pN := ⟨(pY1 p).a.isLt, (pY1 p).b.isLt⟩
theorem o48_eq {x : Nat} (h : Nat.lt x pN) : o48 x = octL x 48 := by unfold o48; rw [Nat.mod_eq_of_lt h]
theorem b2_cat (p : P2) : b2 p = cat (l2 p) := by
  unfold b2 l2 cat cat cat cat cat
  rw [o48_eq (rX_lt p).1, o48_eq (rX_lt p).2, o48_eq (rY_lt p).1, o48_eq (rY_lt p).2, List.append_nil, List.append_assoc, List.append_assoc]
end
end Go.Proofs.YtohjpdglbeohpaaGreat
/- sigillaw20: awake. -/
namespace Go.Proofs.YtohjpdglbeohpaaGreat
open Ex Num Rg
open Sh (R av rd mo en mo_en)
set_option maxRecDepth 100000
set_option maxHeartbeats 4000000

noncomputable def SOa : List (FuncId × ASpec) := (28, inlSpec Tryz.prog oJg Tryz.f28 3000) :: SJg
theorem SOaok : SpecsOk Tryz.prog SOa := ⟨inl_ok oJgok mixed Tryz.func28 (by kernel_rfl) (by kernel_rfl) 3000, SJgok⟩
noncomputable def SOb : List (FuncId × ASpec) := (11, inlSpec Tryz.prog (orc SOa KH) Tryz.f11 3000) :: SOa
theorem SObok : SpecsOk Tryz.prog SOb := ⟨inl_ok (orc_ok SOaok KHok) mixed Tryz.func11 (by kernel_rfl) (by kernel_rfl) 3000, SOaok⟩
noncomputable def awG2 : P2 := mo (en G2B : R P2)
noncomputable def aw20C : List (Bool × Bool) := (in1 .inf, true) :: (in2 awG2, true) :: tt 2 ((false, false) :: tt 9 ((in1 (toPt' G1B), true) :: (true, true) :: (false, false) :: (true, true) :: (false, false) :: (true, true) :: (false, false) ::
  tt 4 [(decide (0 < (e2L true awG2).length), true), (decide ((e2L true awG2).getD 0 0 = 147), true), (true, true), (decide (0 < (e1L true (toPt' G1B)).length), true), (decide ((e1L true (toPt' G1B)).getD 0 0 = 151), true)]))
theorem aw20_run : pureRun Tryz.prog (orc SOb KH) Tryz.f7 [] [false, false, false, true, true, false, false, false, false, true, true, true, true, true, true, true, true] 1000 = some (aw20C, .val false [.b true]) := by kernel_rfl
theorem aw_e2 : (e2L true G2B).getD 0 0 = 147 := by kernel_rfl
theorem aw_e1 : (e1L true G1B).getD 0 0 = 151 := by kernel_rfl
theorem aw_l2 : decide (0 < (e2L true G2B).length) = true := by kernel_rfl
theorem aw_l1 : decide (0 < (e1L true G1B).length) = true := by kernel_rfl
theorem aw20_ok : PureOk Tryz.prog 7 [] (.val false [.b true]) := by
  have e2 : awG2 = G2B := mo_en G2B
  have e1 : toPt' G1B = G1B := toPt'_eq _
  have r := aw20_run
  unfold aw20C at r
  rw [e2, e1] at r
  exact pure_ok (orc_ok SObok KHok) mixed Tryz.func7 r ⟨in1_inf, in2_G, tt_ok 2 ⟨rfl, tt_ok 9 ⟨in1_G, rfl, rfl, rfl, rfl, rfl, rfl, tt_ok 4 ⟨aw_l2, decide_eq_true aw_e2, rfl, aw_l1, decide_eq_true aw_e1, trivial⟩⟩⟩⟩ rfl
noncomputable def SO20 : List (FuncId × ASpec) := (7, pureSpec yes12) :: (10, smSp) :: SJg
theorem SO20ok : SpecsOk Tryz.prog SO20 := ⟨pureSpec_ok Tryz.func7 (by kernel_rfl) (by kernel_rfl) (sp0_ok aw20_ok fun u h => h), smSp_ok, SJgok⟩
noncomputable abbrev oO20 : Orc := orc SO20 KH
theorem oO20ok : OrcOk Tryz.prog oO20 := orc_ok SO20ok KHok
end Go.Proofs.YtohjpdglbeohpaaGreat
