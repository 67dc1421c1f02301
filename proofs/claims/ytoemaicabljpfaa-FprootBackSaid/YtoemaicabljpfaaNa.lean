/- Prime numbers: Euclid, Fermat, Pocklington; powers by squaring. -/
import Derived.KernelRfl
namespace Go.Proofs.Ytoemaicabljpfaa.Num

def Prime (p : Nat) : Prop := 2 ≤ p ∧ ∀ d, d ∣ p → d = 1 ∨ d = p
theorem Prime.coprime {p a : Nat} (hp : Prime p) (h : ¬ p ∣ a) : Nat.Coprime p a := by
  rcases hp.2 (Nat.gcd p a) (Nat.gcd_dvd_left _ _) with e | e
  · exact e
  · exact absurd (e ▸ Nat.gcd_dvd_right p a) h
theorem Prime.dvd_mul {p a b : Nat} (hp : Prime p) (h : p ∣ a * b) : p ∣ a ∨ p ∣ b := by
  by_cases ha : p ∣ a
  · exact .inl ha
  · exact .inr ((hp.coprime ha).dvd_of_dvd_mul_left h)
theorem Prime.dvd_pow {p a : Nat} (hp : Prime p) : ∀ {k : Nat}, p ∣ a ^ k → p ∣ a
  | 0, h => by
    rw [Nat.pow_zero] at h
    have := Nat.le_of_dvd (by decide) h
    have := hp.1
    omega
  | k + 1, h => by
    rw [Nat.pow_succ] at h
    rcases hp.dvd_mul h with h | h
    · exact hp.dvd_pow h
    · exact h
theorem mod_dvd {a b n : Nat} (h : a % n = b % n) (hle : b ≤ a) : n ∣ a - b := by
  have h1 := Nat.div_add_mod a n
  have h2 := Nat.div_add_mod b n
  exact ⟨a / n - b / n, by rw [Nat.mul_sub]; omega⟩
theorem dvd_mod {a b n : Nat} (h : n ∣ a - b) (hle : b ≤ a) : a % n = b % n := by
  obtain ⟨k, hk⟩ := h
  have : a = b + n * k := by omega
  rw [this, Nat.add_mul_mod_self_left]

/- Fermat -/
def prodL : List Nat → Nat
  | [] => 1
  | x :: l => x * prodL l
theorem prodL_perm {l m : List Nat} (h : l.Perm m) : prodL l = prodL m := by
  induction h with
  | nil => rfl
  | cons x _ ih => simp [prodL, ih]
  | swap x y l => simp only [prodL]; rw [Nat.mul_left_comm]
  | trans _ _ h1 h2 => exact h1.trans h2
theorem perm_of_nodup : ∀ {l m : List Nat}, l.Nodup → (∀ x ∈ l, x ∈ m) → m.length ≤ l.length → l.Perm m
  | [], m, _, _, h => by
    have : m = [] := List.length_eq_zero_iff.1 (by simpa using h)
    subst this; exact .refl _
  | a :: l, m, hn, hs, hlen => by
    have ham := hs a (by simp)
    have hp := List.perm_cons_erase ham
    have hn' := List.nodup_cons.1 hn
    refine .trans (.cons a (perm_of_nodup hn'.2 (fun x hx => ?_) ?_)) hp.symm
    · have : x ≠ a := fun e => hn'.1 (e ▸ hx)
      exact (List.mem_erase_of_ne this).2 (hs x (by simp [hx]))
    · rw [List.length_erase_of_mem ham]
      simp at hlen; omega
theorem prodL_map (a p : Nat) : ∀ l : List Nat, prodL (l.map fun x => a * x % p) % p = a ^ l.length * prodL l % p
  | [] => by simp [prodL]
  | x :: l => by
    simp only [List.map_cons, prodL, List.length_cons]
    rw [Nat.mul_mod, prodL_map a p l, Nat.mod_mod, ← Nat.mul_mod, Nat.pow_succ]
    refine congrArg (· % p) ?_
    show a * x * (a ^ l.length * prodL l) = a ^ l.length * a * (x * prodL l)
    ac_rfl
theorem prodL_prime {p : Nat} (hp : Prime p) : ∀ {l : List Nat}, (∀ x ∈ l, ¬ p ∣ x) → ¬ p ∣ prodL l
  | [], _, h => by
    have := Nat.le_of_dvd (by decide) h
    have := hp.1
    simp only [prodL] at *; omega
  | x :: l, hx, h => by
    rcases hp.dvd_mul h with h | h
    · exact hx x (by simp) h
    · exact prodL_prime hp (fun y hy => hx y (by simp [hy])) h
theorem fermat {p a : Nat} (hp : Prime p) (ha : ¬ p ∣ a) : a ^ (p - 1) % p = 1 := by
  have h2 := hp.1
  have hL : ∀ x, x ∈ List.range' 1 (p - 1) ↔ 1 ≤ x ∧ x < p := by intro x; rw [List.mem_range'_1]; omega
  have hnd : ∀ x ∈ List.range' 1 (p - 1), ¬ p ∣ x := fun x hx hd => by
    have := (hL x).1 hx
    have := Nat.le_of_dvd (by omega) hd
    omega
  have hperm : ((List.range' 1 (p - 1)).map fun x => a * x % p).Perm (List.range' 1 (p - 1)) := by
    refine perm_of_nodup ?_ ?_ (by simp)
    · have hq : ∀ {l : List Nat}, l.Nodup → (∀ x ∈ l, 1 ≤ x ∧ x < p) → (l.map fun x => a * x % p).Nodup := by
        intro l
        induction l with
        | nil => intro _ _; exact List.nodup_nil
        | cons x l ih =>
          intro hn hb
          have hn' := List.nodup_cons.1 hn
          rw [List.map_cons, List.nodup_cons]
          refine ⟨fun hm => ?_, ih hn'.2 fun y hy => hb y (by simp [hy])⟩
          obtain ⟨y, hy, he⟩ := List.mem_map.1 hm
          have b1 := hb x (by simp)
          have b2 := hb y (by simp [hy])
          have hxy : x ≠ y := fun e => hn'.1 (e ▸ hy)
          rcases Nat.lt_or_ge x y with hlt | hge
          · have := mod_dvd (a := a * y) (b := a * x) he (Nat.mul_le_mul_left a (by omega))
            rw [← Nat.mul_sub] at this
            rcases hp.dvd_mul this with h | h
            · exact ha h
            · have := Nat.le_of_dvd (by omega) h; omega
          · have := mod_dvd (a := a * x) (b := a * y) he.symm (Nat.mul_le_mul_left a (by omega))
            rw [← Nat.mul_sub] at this
            rcases hp.dvd_mul this with h | h
            · exact ha h
            · have := Nat.le_of_dvd (by omega) h; omega
      exact hq List.nodup_range' fun x hx => (hL x).1 hx
    · intro y hy
      obtain ⟨x, hx, rfl⟩ := List.mem_map.1 hy
      have b := (hL x).1 hx
      refine (hL _).2 ⟨?_, Nat.mod_lt _ (by omega)⟩
      rcases Nat.eq_zero_or_pos (a * x % p) with h | h
      · rcases hp.dvd_mul (Nat.dvd_of_mod_eq_zero h) with h | h
        · exact absurd h ha
        · exact absurd h (hnd x hx)
      · exact h
  have e := prodL_map a p (List.range' 1 (p - 1))
  rw [prodL_perm hperm, List.length_range'] at e
  have hpos : 1 ≤ a ^ (p - 1) := Nat.pow_pos (Nat.pos_of_ne_zero fun h => ha (h ▸ Nat.dvd_zero p))
  have hd := mod_dvd (a := a ^ (p - 1) * prodL (List.range' 1 (p - 1))) (b := prodL (List.range' 1 (p - 1))) e.symm (Nat.le_mul_of_pos_left _ hpos)
  have : a ^ (p - 1) * prodL (List.range' 1 (p - 1)) - prodL (List.range' 1 (p - 1)) = (a ^ (p - 1) - 1) * prodL (List.range' 1 (p - 1)) := by rw [Nat.sub_mul, Nat.one_mul]
  rw [this] at hd
  rcases hp.dvd_mul hd with h | h
  · rw [dvd_mod h hpos, Nat.mod_eq_of_lt (by omega)]
  · exact absurd h (prodL_prime hp hnd)

/- Pocklington -/
theorem exists_prime_dvd : ∀ n, 2 ≤ n → ∃ q, Prime q ∧ q ∣ n := by
  intro n
  induction n using Nat.strongRecOn with
  | ind n ih =>
    intro h
    by_cases hp : Prime n
    · exact ⟨n, hp, Nat.dvd_refl n⟩
    · have : ∃ d, d ∣ n ∧ d ≠ 1 ∧ d ≠ n := Classical.byContradiction fun hno => hp ⟨h, fun d hd => Classical.byContradiction fun hd2 => hno ⟨d, hd, fun e => hd2 (.inl e), fun e => hd2 (.inr e)⟩⟩
      obtain ⟨d, hd, h1, h2⟩ := this
      have hle := Nat.le_of_dvd (by omega) hd
      have h0 : d ≠ 0 := fun e => by subst e; have := Nat.eq_zero_of_zero_dvd hd; omega
      obtain ⟨q, hq, hqd⟩ := ih d (by omega) (by omega)
      exact ⟨q, hq, Nat.dvd_trans hqd hd⟩
theorem prime_of_factors {n : Nat} (h : 2 ≤ n) (hf : ∀ q, Prime q → q ∣ n → n < q * q) : Prime n := by
  refine ⟨h, fun d hd => ?_⟩
  obtain ⟨e, rfl⟩ := hd
  by_cases h1 : d = 1
  · exact .inl h1
  · by_cases h2 : e = 1
    · subst h2; exact .inr (by simp)
    · exfalso
      have d0 : d ≠ 0 := fun e' => by subst e'; simp at h
      have e0 : e ≠ 0 := fun e' => by subst e'; simp at h
      obtain ⟨q, hq, hqd⟩ := exists_prime_dvd d (by omega)
      obtain ⟨r, hr, hre⟩ := exists_prime_dvd e (by omega)
      have a1 := hf q hq (Nat.dvd_mul_right_of_dvd hqd e)
      have a2 := hf r hr (Nat.dvd_mul_left_of_dvd hre d)
      have b1 := Nat.le_of_dvd (by omega) hqd
      have b2 := Nat.le_of_dvd (by omega) hre
      rcases Nat.lt_or_ge d e with hlt | hge
      · have := Nat.mul_le_mul b1 b1
        have := Nat.mul_le_mul_left d (Nat.le_of_lt hlt)
        omega
      · have := Nat.mul_le_mul b2 b2
        have := Nat.mul_le_mul_right e hge
        omega
theorem pow_one_mod {r x m : Nat} (h : x ^ m % r = 1 % r) (k : Nat) : x ^ (m * k) % r = 1 % r := by
  rw [Nat.pow_mul, Nat.pow_mod, h, ← Nat.pow_mod, Nat.one_pow]
theorem pow_gcd {r x : Nat} : ∀ (m n : Nat), x ^ m % r = 1 % r → x ^ n % r = 1 % r → x ^ (Nat.gcd m n) % r = 1 % r := by
  intro m n
  induction m, n using Nat.gcd.induction with
  | H0 n => intro _ h; rwa [Nat.gcd_zero_left]
  | H1 m n hm ih =>
    intro h1 h2
    rw [Nat.gcd_rec]
    refine ih ?_ h1
    have e := Nat.div_add_mod n m
    rw [← e, Nat.pow_add, Nat.mul_mod, pow_one_mod h1, ← Nat.mul_mod, Nat.one_mul] at h2
    exact h2
theorem pock_step {N q h a r : Nat} (hN : N = h * q + 1) (hq : Prime q) (h1 : a ^ (N - 1) % N = 1) (h2 : Nat.gcd (a ^ h % N + N - 1) N = 1) (hr : Prime r) (hrN : r ∣ N) : q ∣ r - 1 := by
  have hr2 := hr.1
  have e1 : (a ^ h) ^ q % r = 1 % r := by
    rw [← Nat.pow_mul, show h * q = N - 1 by omega, ← Nat.mod_mod_of_dvd _ hrN, h1]
  have hN1 : 1 ≤ N := by omega
  have e2 : a ^ h % r ≠ 1 := fun e => by
    have hd : r ∣ a ^ h % N + N - 1 := by
      refine Nat.dvd_of_mod_eq_zero ?_
      have : (a ^ h % N + N - 1 + 1) % r = 1 % r := by
        rw [Nat.sub_add_cancel (by omega), Nat.add_mod, Nat.mod_mod_of_dvd _ hrN, e, Nat.mod_eq_zero_of_dvd hrN, Nat.add_zero]
      have := mod_dvd this (by omega)
      exact Nat.mod_eq_zero_of_dvd (by simpa using this)
    have := Nat.dvd_gcd hd hrN
    rw [h2] at this
    have := Nat.le_of_dvd (by decide) this
    omega
  have hnd : ¬ r ∣ a ^ h := fun hd => by
    have : r ∣ (a ^ h) ^ q := by
      obtain ⟨k, hk⟩ := hd
      have hq2 := hq.1
      obtain ⟨j, rfl⟩ : ∃ j, q = j + 1 := ⟨q - 1, by omega⟩
      exact ⟨(a ^ h) ^ j * k, by rw [Nat.pow_succ, Nat.mul_left_comm, ← hk]⟩
    rw [Nat.mod_eq_zero_of_dvd this, Nat.mod_eq_of_lt (by omega)] at e1
    cases e1
  have e3 := fermat hr hnd
  by_cases hd : q ∣ r - 1
  · exact hd
  · exfalso
    have hc := hq.coprime hd
    have := pow_gcd q (r - 1) e1 (by rw [e3, Nat.mod_eq_of_lt (by omega)])
    rw [hc, Nat.pow_one, Nat.mod_eq_of_lt (a := 1) (by omega)] at this
    exact e2 this
theorem pocklington {N q h a : Nat} (hN : N = h * q + 1) (hq : Prime q) (hh : h < q) (h0 : 0 < h) (h1 : a ^ (N - 1) % N = 1) (h2 : Nat.gcd (a ^ h % N + N - 1) N = 1) : Prime N := by
  have hq2 := hq.1
  have hpos : 1 * 1 ≤ h * q := Nat.mul_le_mul h0 (by omega)
  refine prime_of_factors (by omega) fun r hr hrN => ?_
  have := Nat.le_of_dvd (by have := hr.1; omega) (pock_step hN hq h1 h2 hr hrN)
  have hle : q + 1 ≤ r := by have := hr.1; omega
  have := Nat.mul_le_mul hle hle
  have h3 : h * q ≤ q * q := Nat.mul_le_mul_right q (by omega)
  rw [Nat.succ_mul, Nat.mul_succ] at this
  omega
theorem pocklington2 {N q h a q' h' a' : Nat} (hN : N = h * q + 1) (hq : Prime q) (h1 : a ^ (N - 1) % N = 1) (h2 : Nat.gcd (a ^ h % N + N - 1) N = 1) (hN' : N = h' * q' + 1) (hq' : Prime q') (h1' : a' ^ (N - 1) % N = 1) (h2' : Nat.gcd (a' ^ h' % N + N - 1) N = 1)
    (hne : q < q') (hbig : N < (q * q' + 1) * (q * q' + 1)) (hN2 : 2 ≤ N) : Prime N := by
  refine prime_of_factors hN2 fun r hr hrN => ?_
  have d1 := pock_step hN hq h1 h2 hr hrN
  have d2 := pock_step hN' hq' h1' h2' hr hrN
  have hc : Nat.Coprime q q' := hq.coprime fun hd => by
    rcases hq'.2 q hd with e | e
    · have := hq.1; omega
    · omega
  have := Nat.le_of_dvd (by have := hr.1; omega) (hc.mul_dvd_of_dvd_of_dvd d1 d2)
  have hle : q * q' + 1 ≤ r := by have := hr.1; omega
  exact Nat.lt_of_lt_of_le hbig (Nat.mul_le_mul hle hle)

/- small primes, by trial -/
def noDiv (n : Nat) : Nat → Nat → Bool
  | 0, _ => true
  | f + 1, d => match n % d with
    | 0 => false
    | _ + 1 => noDiv n f (d + 1)
theorem noDiv_spec (n : Nat) : ∀ (f d : Nat), noDiv n f d = true → ∀ e, d ≤ e → e < d + f → ¬ e ∣ n
  | 0, d, _, e, h1, h2 => by omega
  | f + 1, d, h, e, h1, h2 => by
    unfold noDiv at h
    split at h
    · cases h
    · rename_i k hk
      rcases Nat.eq_or_lt_of_le h1 with rfl | hlt
      · intro hd; rw [Nat.mod_eq_zero_of_dvd hd] at hk; cases hk
      · exact noDiv_spec n f (d + 1) h e (by omega) (by omega)
theorem prime_small {n f : Nat} (h2 : 2 ≤ n) (h : noDiv n f 2 = true) (hb : n < (f + 2) * (f + 2)) : Prime n := by
  refine prime_of_factors h2 fun q hq hd => ?_
  rcases Nat.lt_or_ge q (f + 2) with hlt | hge
  · exact absurd hd (noDiv_spec n f 2 h q hq.1 (by omega))
  · exact Nat.lt_of_lt_of_le hb (Nat.mul_le_mul hge hge)

/-- A power modulo m, by halving the exponent (fuel first). -/
def pmd (m x : Nat) : Nat → Nat → Nat
  | 0, _ => 1 % m
  | f + 1, e => (match e % 2 with
    | 0 => pmd m (x * x % m) f (e / 2)
    | _ => x * pmd m (x * x % m) f (e / 2) % m)
theorem pmd_eq (m : Nat) : ∀ (f x e : Nat), e < 2 ^ f → pmd m x f e = x ^ e % m
  | 0, x, e, h => by
    have : e = 0 := by simpa using h
    subst this; rfl
  | f + 1, x, e, h => by
    have ih := pmd_eq m f (x * x % m) (e / 2) (by rw [Nat.pow_succ] at h; omega)
    have h2 : (x * x % m) ^ (e / 2) % m = x ^ (2 * (e / 2)) % m := by
      rw [← Nat.pow_mod, Nat.pow_mul, Nat.pow_two]
    unfold pmd
    rcases Nat.mod_two_eq_zero_or_one e with h0 | h1
    · rw [h0]
      show pmd m (x * x % m) f (e / 2) = _
      rw [ih, h2, show 2 * (e / 2) = e by omega]
    · rw [h1]
      show x * pmd m (x * x % m) f (e / 2) % m = _
      rw [ih, h2, Nat.mul_mod, Nat.mod_mod, ← Nat.mul_mod, ← Nat.pow_succ', show (2 * (e / 2)).succ = e by omega]
/-- What is asked of a prime's certificate, for the kernel. -/
def pockB (N q h a f : Nat) : Bool := Nat.beq N (h * q + 1) && (Nat.ble (N - 1 + 1) (2 ^ f) && (Nat.beq (pmd N a f (N - 1)) 1 && Nat.beq (Nat.gcd (pmd N a f h + N - 1) N) 1))
theorem pockB_spec {N q h a f : Nat} (h0 : pockB N q h a f = true) (hq : 0 < q) : N = h * q + 1 ∧ a ^ (N - 1) % N = 1 ∧ Nat.gcd (a ^ h % N + N - 1) N = 1 := by
  unfold pockB at h0
  simp only [Bool.and_eq_true] at h0
  obtain ⟨c1, c2, c3, c4⟩ := h0
  have e1 := Nat.eq_of_beq_eq_true c1
  have e2 := Nat.le_of_ble_eq_true c2
  have e3 := Nat.eq_of_beq_eq_true c3
  have e4 := Nat.eq_of_beq_eq_true c4
  have hle : h * 1 ≤ h * q := Nat.mul_le_mul_left h hq
  rw [pmd_eq N f a _ (by omega)] at e3
  rw [pmd_eq N f a _ (by omega)] at e4
  exact ⟨e1, e3, e4⟩
end Go.Proofs.Ytoemaicabljpfaa.Num
