/- The moduli p and r are prime; squares modulo p. -/
import Derived.Test.YtoemaicabljpfaaNa
namespace Go.Proofs.Ytoemaicabljpfaa.Num
set_option maxRecDepth 100000

theorem small {n f : Nat} (h : (Nat.ble 2 n && (noDiv n f 2 && Nat.blt n ((f + 2) * (f + 2)))) = true) : Prime n := by
  simp only [Bool.and_eq_true] at h
  exact prime_small (Nat.le_of_ble_eq_true h.1) h.2.1 (Nat.le_of_ble_eq_true h.2.2)
theorem pock {N q h a f : Nat} (hq : Prime q) (hb : (pockB N q h a f && (Nat.blt h q && Nat.blt 0 h)) = true) : Prime N := by
  simp only [Bool.and_eq_true] at hb
  have hq2 := hq.1
  obtain ⟨e1, e2, e3⟩ := pockB_spec hb.1 (by omega)
  exact pocklington e1 hq (Nat.le_of_ble_eq_true hb.2.1) (Nat.le_of_ble_eq_true hb.2.2) e2 e3
theorem pr421987 : Prime 421987 := small (f := 650) (by kernel_rfl)
theorem pr755057 : Prime 755057 := small (f := 870) (by kernel_rfl)
theorem pr13090036741 : Prime 13090036741 := pock (q := 421987) (h := 31020) (a := 2) (f := 64) pr421987 (by kernel_rfl)
theorem pock2 {N q h a q' h' a' f : Nat} (hq : Prime q) (hq' : Prime q') (hb : (pockB N q h a f && (pockB N q' h' a' f && (Nat.blt q q' && (Nat.blt N ((q * q' + 1) * (q * q' + 1)) && Nat.ble 2 N)))) = true) : Prime N := by
  simp only [Bool.and_eq_true] at hb
  obtain ⟨b1, b2, b3, b4, b5⟩ := hb
  have hq2 := hq.1
  have hq2' := hq'.1
  obtain ⟨e1, e2, e3⟩ := pockB_spec b1 (by omega)
  obtain ⟨d1, d2, d3⟩ := pockB_spec b2 (by omega)
  exact pocklington2 e1 hq e2 e3 d1 hq' d2 d3 (Nat.le_of_ble_eq_true b3) (Nat.le_of_ble_eq_true b4) (Nat.le_of_ble_eq_true b5)
theorem prQ3 : Prime 3819663927398918131021 := pock2 (h := (3819663927398918131021 - 1) / 755057) (a := 2) (h' := (3819663927398918131021 - 1) / 13090036741) (a' := 2) (f := 128) pr755057 pr13090036741 (by kernel_rfl)
theorem prQ2 : Prime 1125266252156850182658904441386709967 := pock (h := 294598235223046) (a := 2) (f := 128) prQ3 (by kernel_rfl)
theorem prQ : Prime 15778400344354997994418419698270088123916926905054652752758194827714659 := pock (h := 14021926201120671579994175730661374) (a := 2) (f := 256) prQ2 (by kernel_rfl)
theorem prp : Prime 4002409555221667393417789825735904156556882819939007885332058136124031650490837864442687629129015664037894272559787 := pock (h := 253663835868735594330404923636534084567099854) (a := 2) (f := 384) prQ (by kernel_rfl)

/- squares -/
theorem sq_eq {p x y : Nat} (hp : Prime p) (hx : x < p) (hy : y < p) (h : x * x % p = y * y % p) : x = y ∨ x + y = p := by
  have gen : ∀ {x y : Nat}, x < p → y ≤ x → x * x % p = y * y % p → x = y ∨ x + y = p := by
    intro x y hx hle h
    have hd := mod_dvd h (Nat.mul_le_mul hle hle)
    have e : x * x - y * y = (x + y) * (x - y) := Nat.mul_self_sub_mul_self_eq x y
    rw [e] at hd
    rcases hp.dvd_mul hd with h1 | h1
    · rcases Nat.eq_zero_or_pos (x + y) with h0 | h0
      · left; omega
      · obtain ⟨k, hk⟩ := h1
        right
        have : k = 1 := by
          rcases Nat.lt_or_ge k 2 with h2 | h2
          · rcases Nat.eq_zero_or_pos k with h3 | h3
            · subst h3; omega
            · omega
          · have := Nat.mul_le_mul_left p h2; omega
        subst this; omega
    · left
      rcases Nat.eq_zero_or_pos (x - y) with h0 | h0
      · omega
      · have := Nat.le_of_dvd h0 h1; omega
  rcases Nat.lt_or_ge x y with h1 | h1
  · rcases gen hy (Nat.le_of_lt h1) h.symm with e | e
    · exact .inl e.symm
    · exact .inr (by omega)
  · exact gen hx h1 h
theorem pm_one {p x : Nat} (hp : Prime p) (h2 : 2 < p) (h : x * x % p = 1) : x % p = 1 ∨ x % p = p - 1 := by
  have h' : x % p * (x % p) % p = 1 * 1 % p := by rw [← Nat.mul_mod, h, Nat.mul_one, Nat.mod_eq_of_lt (by omega)]
  rcases sq_eq hp (Nat.mod_lt x (by omega)) (show 1 < p by omega) h' with e | e
  · exact .inl e
  · exact .inr (by omega)
theorem chi_cases {p a : Nat} (hp : Prime p) (h2 : 2 < p) (hodd : p % 2 = 1) (ha : ¬ p ∣ a) : a ^ ((p - 1) / 2) % p = 1 ∨ a ^ ((p - 1) / 2) % p = p - 1 := by
  refine pm_one hp h2 ?_
  rw [← Nat.pow_two, ← Nat.pow_mul, show (p - 1) / 2 * 2 = p - 1 by omega]
  exact fermat hp ha
/-- p leaves 3 by 4: of a number but 0 the square of the power (p + 1) / 4 is it, times chi. -/
theorem quarter_sq {p a : Nat} (h4 : p % 4 = 3) : a ^ ((p + 1) / 4) % p * (a ^ ((p + 1) / 4) % p) % p = a * (a ^ ((p - 1) / 2)) % p := by
  rw [← Nat.mul_mod, ← Nat.pow_add, ← Nat.pow_succ']
  congr 2
  omega
theorem neg_mod {p a : Nat} (hp : 0 < p) : a * (p - 1) % p = (p - a % p) % p := by
  have h1 : (a * (p - 1) + a) % p = 0 := by
    have : a * (p - 1) + a = a * p := by
      have := Nat.mul_sub a p 1
      have h2 : a * 1 ≤ a * p := Nat.mul_le_mul_left a hp
      omega
    rw [this, Nat.mul_mod_left]
  have hl := Nat.mod_lt a hp
  have hl2 := Nat.mod_lt (a * (p - 1)) hp
  have h3 : (a * (p - 1) % p + a % p) % p = 0 := by rw [← Nat.add_mod]; exact h1
  have h4 := Nat.div_add_mod (a * (p - 1) % p + a % p) p
  rw [h3] at h4
  rcases Nat.eq_zero_or_pos (a % p) with h0 | h0
  · rw [h0] at h4 ⊢
    have : (a * (p - 1) % p + 0) / p = 0 := Nat.div_eq_of_lt (by omega)
    rw [this] at h4
    rw [Nat.sub_zero, Nat.mod_self]; omega
  · rw [Nat.mod_eq_of_lt (a := p - a % p) (by omega)]
    have : (a * (p - 1) % p + a % p) / p = 1 := by
      have l1 : (a * (p - 1) % p + a % p) / p < 2 := Nat.div_lt_of_lt_mul (by omega)
      rcases Nat.eq_zero_or_pos ((a * (p - 1) % p + a % p) / p) with e | e
      · rw [e] at h4; omega
      · omega
    rw [this] at h4; omega
/-- A number but 0 is a square (its root is as told) just if chi is 1. -/
theorem isSq_iff {p a : Nat} (hp : Prime p) (h4 : p % 4 = 3) (ha : ¬ p ∣ a) : a ^ ((p + 1) / 4) % p * (a ^ ((p + 1) / 4) % p) % p = a % p ↔ a ^ ((p - 1) / 2) % p = 1 := by
  have h2 : 2 < p := by omega
  have hz : a % p ≠ 0 := fun h => ha (Nat.dvd_of_mod_eq_zero h)
  have hlt := Nat.mod_lt a (show 0 < p by omega)
  rw [quarter_sq h4, Nat.mul_mod]
  rcases chi_cases hp h2 (by omega) ha with h | h
  · rw [h, Nat.mul_one, Nat.mod_mod]; simp
  · rw [h, neg_mod (by omega), Nat.mod_mod, Nat.mod_eq_of_lt (a := p - a % p) (by omega)]
    constructor
    · intro h3; omega
    · intro h3; omega
theorem chi_mul (p a b e : Nat) : (a * b % p) ^ e % p = (a ^ e % p) * (b ^ e % p) % p := by
  rw [← Nat.pow_mod, Nat.mul_pow, Nat.mul_mod]
theorem chi_neg {p a : Nat} (hp : 1 < p) (h4 : p % 4 = 3) : ((p - a % p) % p) ^ ((p - 1) / 2) % p = (p - 1) * (a ^ ((p - 1) / 2) % p) % p := by
  rw [← neg_mod (by omega), Nat.mul_comm a, chi_mul]
  congr 2
  have : ∀ k, (p - 1) ^ (2 * k + 1) % p = p - 1 := by
    intro k
    induction k with
    | zero => rw [Nat.pow_one, Nat.mod_eq_of_lt (by omega)]
    | succ k ih =>
      rw [show 2 * (k + 1) + 1 = (2 * k + 1) + 2 by omega, Nat.pow_add, Nat.mul_mod, ih]
      have : (p - 1) ^ 2 % p = 1 := by
        obtain ⟨q, rfl⟩ : ∃ q, p = q + 2 := ⟨p - 2, by omega⟩
        rw [show q + 2 - 1 = q + 1 by omega, Nat.pow_two, show (q + 1) * (q + 1) = 1 + (q + 2) * q by simp only [Nat.add_mul, Nat.mul_add]; omega, Nat.add_mul_mod_self_left, Nat.mod_eq_of_lt (by omega)]
      rw [this, Nat.mul_one, Nat.mod_eq_of_lt (by omega)]
  have e : (p - 1) / 2 = 2 * (p / 4) + 1 := by omega
  rw [e, this]
end Go.Proofs.Ytoemaicabljpfaa.Num
