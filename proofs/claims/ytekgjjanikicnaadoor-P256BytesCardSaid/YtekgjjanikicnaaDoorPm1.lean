/- Numbers, plainly: primes, powers modulo a prime, the field's modulus is a prime. -/
import Derived.KernelRfl
namespace Go.Proofs.YtekgjjanikicnaaDoor.Pm
set_option linter.unusedVariables false

/-- A prime number. -/
def Pr (p : Nat) : Prop := 2 ≤ p ∧ ∀ d, d ∣ p → d = 1 ∨ d = p
theorem Pr.coprime {p a : Nat} (h : Pr p) (ha : ¬ p ∣ a) : Nat.Coprime p a := by
  rcases h.2 (Nat.gcd p a) (Nat.gcd_dvd_left p a) with e | e
  · exact e
  · exact absurd (e ▸ Nat.gcd_dvd_right p a) ha
theorem Pr.dvd_mul {p a b : Nat} (h : Pr p) (hd : p ∣ a * b) : p ∣ a ∨ p ∣ b := by
  by_cases ha : p ∣ a
  · exact .inl ha
  · exact .inr (Nat.Coprime.dvd_of_dvd_mul_left (h.coprime ha) hd)
theorem exists_pr (n : Nat) : 2 ≤ n → ∃ r, Pr r ∧ r ∣ n := by
  induction n using Nat.strongRecOn with
  | ind n ih =>
    intro hn
    by_cases h : Pr n
    · exact ⟨n, h, Nat.dvd_refl n⟩
    · have : ∃ d, d ∣ n ∧ d ≠ 1 ∧ d ≠ n := by
        apply Classical.byContradiction
        intro hc
        apply h
        refine ⟨hn, fun d hd => ?_⟩
        apply Classical.byContradiction
        intro h1
        exact hc ⟨d, hd, fun e => h1 (.inl e), fun e => h1 (.inr e)⟩
      obtain ⟨d, hd, h1, h2⟩ := this
      have hle := Nat.le_of_dvd (by omega) hd
      have h0 : d ≠ 0 := by
        intro e
        subst e
        exact h2 (Nat.eq_zero_of_zero_dvd hd).symm
      obtain ⟨r, hr, hrd⟩ := ih d (by omega) (by omega)
      exact ⟨r, hr, Nat.dvd_trans hrd hd⟩

/-! ### Binomials -/
def C : Nat → Nat → Nat
  | _, 0 => 1
  | 0, _ + 1 => 0
  | n + 1, k + 1 => C n k + C n (k + 1)
theorem C_lt : ∀ (n k : Nat), n < k → C n k = 0
  | 0, k + 1, _ => rfl
  | n + 1, k + 1, h => by rw [C, C_lt n k (by omega), C_lt n (k + 1) (by omega)]
theorem C_self : ∀ n : Nat, C n n = 1
  | 0 => rfl
  | n + 1 => by rw [C, C_self n, C_lt n (n + 1) (by omega)]
theorem C_zero (n : Nat) : C n 0 = 1 := by cases n <;> rfl
theorem C_mul : ∀ n k : Nat, (k + 1) * C (n + 1) (k + 1) = (n + 1) * C n k
  | 0, 0 => rfl
  | 0, k + 1 => by simp [C]
  | n + 1, 0 => by
    have := C_mul n 0
    rw [C_zero] at this
    have e : C (n + 1 + 1) (0 + 1) = C (n + 1) 0 + C (n + 1) (0 + 1) := rfl
    rw [e, C_zero]
    try rw [C_zero]
    omega
  | n + 1, k + 1 => by
    have h1 := C_mul n k
    have h2 := C_mul n (k + 1)
    have e1 : C (n + 1 + 1) (k + 1 + 1) = C (n + 1) (k + 1) + C (n + 1) (k + 1 + 1) := rfl
    have e2 : C (n + 1) (k + 1) = C n k + C n (k + 1) := rfl
    rw [e1, Nat.mul_add, h2, Nat.add_mul (k + 1) 1, h1]
    rw [Nat.add_mul (n + 1) 1 (C (n + 1) (k + 1))]
    rw [show (n + 1) * C (n + 1) (k + 1) = (n + 1) * C n k + (n + 1) * C n (k + 1) by rw [e2, Nat.mul_add]]
    omega
/-- The first m terms of a power of a + 1. -/
def T (n a : Nat) : Nat → Nat
  | 0 => 0
  | m + 1 => T n a m + C n m * a ^ m
theorem T_step (n a : Nat) : ∀ m, T (n + 1) a (m + 1) = T n a (m + 1) + a * T n a m
  | 0 => by simp [T, C_zero]
  | m + 1 => by
    have ih := T_step n a m
    have e : C (n + 1) (m + 1) = C n m + C n (m + 1) := rfl
    rw [T, ih, e, show T n a (m + 1 + 1) = T n a (m + 1) + C n (m + 1) * a ^ (m + 1) from rfl]
    rw [show a * T n a (m + 1) = a * T n a m + a * (C n m * a ^ m) by rw [T, Nat.mul_add]]
    rw [Nat.add_mul, show a * (C n m * a ^ m) = C n m * a ^ (m + 1) by rw [Nat.pow_succ, ← Nat.mul_assoc, Nat.mul_comm a, Nat.mul_assoc, Nat.mul_comm a]]
    omega
theorem T_pow (a : Nat) : ∀ n, T n a (n + 1) = (a + 1) ^ n
  | 0 => by simp [T, C_zero]
  | n + 1 => by
    rw [T_step, T, C_lt n (n + 1) (by omega), Nat.zero_mul, Nat.add_zero, T_pow a n, Nat.pow_succ, Nat.mul_add, Nat.mul_one, Nat.mul_comm a, Nat.add_comm]
theorem Pr.dvd_C {p : Nat} (h : Pr p) {k : Nat} (h0 : 0 < k) (hk : k < p) : p ∣ C p k := by
  obtain ⟨n, rfl⟩ : ∃ n, p = n + 1 := ⟨p - 1, by have := h.1; omega⟩
  obtain ⟨j, rfl⟩ : ∃ j, k = j + 1 := ⟨k - 1, by omega⟩
  have h1 : n + 1 ∣ (j + 1) * C (n + 1) (j + 1) := ⟨_, C_mul n j⟩
  rcases h.dvd_mul h1 with h2 | h2
  · exact absurd (Nat.le_of_dvd (by omega) h2) (by omega)
  · exact h2
theorem T_mod {p : Nat} (h : Pr p) (a : Nat) : ∀ m, m < p → T p a (m + 1) % p = 1
  | 0, _ => by
    have := h.1
    simp only [T, C_zero, Nat.pow_zero, Nat.mul_one, Nat.zero_add]
    exact Nat.mod_eq_of_lt (by omega)
  | m + 1, hm => by
    rw [T, Nat.add_mod, T_mod h a m (by omega)]
    obtain ⟨c, hc⟩ := h.dvd_C (k := m + 1) (by omega) hm
    rw [hc, Nat.mul_assoc, Nat.mul_mod_right]
    have := h.1
    exact Nat.mod_eq_of_lt (by omega)
theorem frob {p : Nat} (h : Pr p) : ∀ a : Nat, a ^ p % p = a % p
  | 0 => by have := h.1; rw [Nat.zero_pow (by omega)]
  | a + 1 => by
    obtain ⟨n, hn⟩ : ∃ n, p = n + 1 := ⟨p - 1, by have := h.1; omega⟩
    have h1 := T_pow a p
    have h2 := T_mod h a (p - 1) (by have := h.1; omega)
    rw [show p - 1 + 1 = p by have := h.1; omega] at h2
    rw [← h1, T, C_self, Nat.one_mul, Nat.add_mod, h2, frob h a, ← Nat.mod_eq_of_lt (show 1 < p from h.1), ← Nat.add_mod, Nat.mod_eq_of_lt (show 1 < p from h.1), Nat.add_comm]
theorem mul_cancel {p a b : Nat} (h : Pr p) (ha : ¬ p ∣ a) (e : a * b % p = a % p) (hb : 1 ≤ b) : b % p = 1 := by
  have h1 : p ∣ a * b - a := Nat.dvd_of_mod_eq_zero (Nat.sub_mod_eq_zero_of_mod_eq e)
  have h2 : p ∣ a * (b - 1) := by rw [Nat.mul_sub, Nat.mul_one]; exact h1
  rcases h.dvd_mul h2 with h3 | h3
  · exact absurd h3 ha
  · obtain ⟨c, hc⟩ := h3
    rw [show b = 1 + p * c by omega, Nat.add_mul_mod_self_left]; exact Nat.mod_eq_of_lt h.1
theorem fermat {p a : Nat} (h : Pr p) (ha : ¬ p ∣ a) : a ^ (p - 1) % p = 1 := by
  refine mul_cancel h ha ?_ (Nat.one_le_iff_ne_zero.2 fun e => ?_)
  · have := frob h a
    rw [show p = p - 1 + 1 by have := h.1; omega] at this
    rw [Nat.pow_succ, Nat.mul_comm] at this
    rw [show p - 1 + 1 = p by have := h.1; omega] at this
    exact this
  · have h0 : a = 0 := (Nat.pow_eq_zero.1 e).1
    exact ha (h0 ▸ Nat.dvd_zero p)

/-! ### That a number is a prime -/
theorem pow_mod_one {r h : Nat} (hr : 2 ≤ r) {a : Nat} (e : h ^ a % r = 1) (k : Nat) : h ^ (a * k) % r = 1 := by
  rw [Nat.pow_mul, Nat.pow_mod, e, Nat.one_pow]; exact Nat.mod_eq_of_lt (by omega)
theorem pow_gcd {r h : Nat} (hr : 2 ≤ r) (a b : Nat) : h ^ a % r = 1 → h ^ b % r = 1 → h ^ Nat.gcd a b % r = 1 := by
  induction a, b using Nat.gcd.induction with
  | H0 b => intro _ hb; rwa [Nat.gcd_zero_left]
  | H1 a b ha ih =>
    intro h1 h2
    rw [Nat.gcd_rec]
    refine ih ?_ h1
    have e := Nat.div_add_mod b a
    rw [← e, Nat.pow_add, Nat.mul_mod, pow_mod_one hr h1, Nat.one_mul, Nat.mod_mod] at h2
    exact h2
theorem pock_step {N r q g : Nat} (hN : 2 ≤ N) (hr : Pr r) (hrN : r ∣ N) (hq : Pr q) (hd : q ∣ N - 1) (h1 : g ^ (N - 1) % N = 1) (h2 : Nat.gcd (g ^ ((N - 1) / q) % N + (N - 1)) N = 1) : q ∣ r - 1 := by
  have hr2 := hr.1
  have hm : ∀ x : Nat, x % N % r = x % r := fun x => Nat.mod_mod_of_dvd x hrN
  have e1 : g ^ (N - 1) % r = 1 := by rw [← hm, h1]; exact Nat.mod_eq_of_lt (by omega)
  have hrg : ¬ r ∣ g := fun hg => by
    have : r ∣ g ^ (N - 1) := Nat.dvd_trans hg ⟨g ^ (N - 1 - 1), by rw [Nat.mul_comm, ← Nat.pow_succ]; congr 1; omega⟩
    rw [Nat.mod_eq_zero_of_dvd this] at e1
    omega
  have e2 := fermat hr hrg
  apply Classical.byContradiction
  intro hn
  have hc : Nat.gcd q (r - 1) = 1 := hq.coprime hn
  obtain ⟨c, hc'⟩ := hd
  have hq0 : 0 < q := by have := hq.1; omega
  have hcd : (N - 1) / q = c := by rw [hc']; exact Nat.mul_div_cancel_left c hq0
  rw [hcd] at h2
  have e3 : (g ^ c) ^ q % r = 1 := by rw [← Nat.pow_mul, Nat.mul_comm, ← hc']; exact e1
  have e4 : (g ^ c) ^ (r - 1) % r = 1 := by rw [← Nat.pow_mul, Nat.mul_comm, Nat.pow_mul, Nat.pow_mod, e2, Nat.one_pow]; exact Nat.mod_eq_of_lt (by omega)
  have e5 := pow_gcd hr2 q (r - 1) e3 e4
  rw [hc, Nat.pow_one] at e5
  have e6 : r ∣ g ^ c % N + (N - 1) := by
    apply Nat.dvd_of_mod_eq_zero
    rw [Nat.add_mod, hm, e5]
    obtain ⟨k, hk⟩ := hrN
    have hk0 : 0 < k := by
      rcases Nat.eq_zero_or_pos k with e | e
      · subst e; omega
      · exact e
    obtain ⟨j, rfl⟩ : ∃ j, k = j + 1 := ⟨k - 1, by omega⟩
    rw [hk, show r * (j + 1) - 1 = r * j + (r - 1) by rw [Nat.mul_add, Nat.mul_one]; omega, Nat.mul_add_mod, Nat.mod_eq_of_lt (show r - 1 < r by omega), show 1 + (r - 1) = r by omega, Nat.mod_self]
  have h7 := Nat.dvd_gcd e6 hrN
  rw [h2] at h7
  have := Nat.le_of_dvd (by decide) h7
  omega
theorem prime_of_big {N F : Nat} (hN : 2 ≤ N) (h : ∀ r, Pr r → r ∣ N → F ∣ r - 1) (hF : N < F * F) : Pr N := by
  obtain ⟨r, hr, hrN⟩ := exists_pr N hN
  obtain ⟨k, hk⟩ := hrN
  by_cases hk1 : k = 1
  · subst hk1; rw [hk, Nat.mul_one]; exact hr
  · exfalso
    have hk0 : k ≠ 0 := by intro e; subst e; omega
    obtain ⟨s, hs, hsk⟩ := exists_pr k (by omega)
    have h1 := Nat.le_of_dvd (by have := hr.1; omega) (h r hr ⟨k, hk⟩)
    have h2 := Nat.le_of_dvd (by have := hs.1; omega) (h s hs (Nat.dvd_trans hsk ⟨r, by rw [hk, Nat.mul_comm]⟩))
    have h3 := Nat.le_of_dvd (by omega) hsk
    have h4 : F * F ≤ r * k := Nat.mul_le_mul (by omega) (by omega)
    omega
theorem pock1 {N q : Nat} (g : Nat) (hN : 2 ≤ N) (hq : Pr q) (hd : q ∣ N - 1) (hF : N < q * q) (h1 : g ^ (N - 1) % N = 1) (h2 : Nat.gcd (g ^ ((N - 1) / q) % N + (N - 1)) N = 1) : Pr N :=
  prime_of_big hN (fun r hr hrN => pock_step hN hr hrN hq hd h1 h2) hF
theorem pock2 {N p q : Nat} (g : Nat) (hN : 2 ≤ N) (hp : Pr p) (hq : Pr q) (hpq : p ≠ q) (hd : p ∣ N - 1) (hd' : q ∣ N - 1) (hF : N < (p * q) * (p * q)) (h1 : g ^ (N - 1) % N = 1) (h2 : Nat.gcd (g ^ ((N - 1) / p) % N + (N - 1)) N = 1)
    (h3 : Nat.gcd (g ^ ((N - 1) / q) % N + (N - 1)) N = 1) : Pr N :=
  prime_of_big hN (fun r hr hrN => by
    have a := pock_step hN hr hrN hp hd h1 h2
    have b := pock_step hN hr hrN hq hd' h1 h3
    have hc : Nat.Coprime p q := hp.coprime fun h => by
      rcases hq.2 p h with e | e
      · have := hp.1; omega
      · exact hpq e
    exact Nat.Coprime.mul_dvd_of_dvd_of_dvd hc a b) hF
/-- No number from k on, n of them, divides N. -/
def noDiv (N : Nat) : Nat → Nat → Bool
  | 0, _ => true
  | n + 1, k => match Nat.beq (N % k) 0 with
    | true => false
    | false => noDiv N n (k + 1)
theorem noDiv_spec {N : Nat} : ∀ {n k : Nat}, noDiv N n k = true → ∀ d, k ≤ d → d < k + n → ¬ d ∣ N
  | 0, k, _, d, h1, h2, _ => by omega
  | n + 1, k, h, d, h1, h2, hd => by
    rw [noDiv] at h
    split at h
    · cases h
    · rename_i e
      by_cases hk : d = k
      · subst hk
        have : Nat.beq (N % d) 0 = true := by rw [Nat.mod_eq_zero_of_dvd hd]; rfl
        rw [this] at e; cases e
      · exact noDiv_spec h d (by omega) (by omega) hd
theorem prime_small {N : Nat} (n : Nat) (hN : 2 ≤ N) (h : noDiv N n 2 = true) (hn : N < (n + 2) * (n + 2)) : Pr N := by
  obtain ⟨r, hr, k, hk⟩ := exists_pr N hN
  by_cases hk1 : k = 1
  · subst hk1; rw [hk, Nat.mul_one]; exact hr
  · exfalso
    have hk0 : k ≠ 0 := by intro e; subst e; omega
    have hr2 := hr.1
    have h1 : ¬ (r < n + 2) := fun hl => noDiv_spec h r hr2 (by omega) ⟨k, hk⟩
    have h2 : ¬ (k < n + 2) := fun hl => noDiv_spec h k (by omega) (by omega) ⟨r, by rw [hk, Nat.mul_comm]⟩
    have h3 : (n + 2) * (n + 2) ≤ r * k := Nat.mul_le_mul (by omega) (by omega)
    omega
/-- A power modulo m, bit by bit. -/
def pmod (b m : Nat) : Nat → Nat → Nat
  | 0, _ => 1 % m
  | f + 1, e => match Nat.beq (e % 2) 1 with
    | true => pmod b m f (e / 2) * pmod b m f (e / 2) % m * b % m
    | false => pmod b m f (e / 2) * pmod b m f (e / 2) % m
/-- The same, reckoned once. -/
def pmodq (b m : Nat) : Nat → Nat → (Nat → Nat) → Nat
  | 0, _, k => k (1 % m)
  | f + 1, e, k => match Nat.beq (e % 2) 1 with
    | true => pmodq b m f (e / 2) fun x => k (x * x % m * b % m)
    | false => pmodq b m f (e / 2) fun x => k (x * x % m)
theorem pmodq_eq {b m : Nat} : ∀ {f e : Nat} {k : Nat → Nat}, pmodq b m f e k = k (pmod b m f e)
  | 0, _, _ => rfl
  | f + 1, e, k => by
    rw [pmodq, pmod]
    split <;> rw [pmodq_eq]
theorem pmod_eq {b m : Nat} : ∀ {f e : Nat}, e < 2 ^ f → pmod b m f e = b ^ e % m
  | 0, e, h => by
    have : e = 0 := by simpa using h
    subst this; rfl
  | f + 1, e, h => by
    have ih := pmod_eq (b := b) (m := m) (f := f) (e := e / 2) (by rw [Nat.pow_succ] at h; omega)
    have sq : (b ^ (e / 2) % m) * (b ^ (e / 2) % m) % m = b ^ (e / 2 + e / 2) % m := by rw [← Nat.mul_mod, Nat.pow_add]
    rw [pmod]
    split
    · rename_i h1
      have h1 : e % 2 = 1 := Nat.eq_of_beq_eq_true h1
      rw [ih, sq, Nat.mod_mul_mod, ← Nat.pow_succ]
      congr 2; omega
    · rename_i h1
      have h1 : e % 2 ≠ 1 := fun e2 => by rw [e2] at h1; cases h1
      rw [ih, sq]
      congr 2; omega
end Go.Proofs.YtekgjjanikicnaaDoor.Pm
namespace Go.Proofs.YtekgjjanikicnaaDoor.Pm
set_option linter.unusedVariables false
set_option maxRecDepth 100000

abbrev Pf : Nat := 115792089210356248762697446949407573530086143415290314195533631308867097853951
/-- A power's rest: named, so that nobody reckons it. -/
def Pw (b e m r : Nat) : Prop := b ^ e % m = r
def Gw (g c N : Nat) : Prop := Nat.gcd (g ^ c % N + (N - 1)) N = 1
theorem pock1w {N q : Nat} (g : Nat) (hN : 2 ≤ N) (hq : Pr q) (hd : q ∣ N - 1) (hF : N < q * q) (h1 : Pw g (N - 1) N 1) (h2 : Gw g ((N - 1) / q) N) : Pr N := pock1 g hN hq hd hF h1 h2
theorem pock2w {N p q : Nat} (g : Nat) (hN : 2 ≤ N) (hp : Pr p) (hq : Pr q) (hpq : p ≠ q) (hd : p ∣ N - 1) (hd' : q ∣ N - 1) (hF : N < (p * q) * (p * q)) (h1 : Pw g (N - 1) N 1) (h2 : Gw g ((N - 1) / p) N) (h3 : Gw g ((N - 1) / q) N) : Pr N := pock2 g hN hp hq hpq hd hd' hF h1 h2 h3
theorem pow_by {b m e f : Nat} {r : Nat} (h : e < 2 ^ f) (hr : pmodq b m f e (fun x => x) = r) : Pw b e m r := by
  unfold Pw
  rw [← pmod_eq h, ← hr, pmodq_eq]
theorem gcd_by {g N c f : Nat} (h : c < 2 ^ f) (hg : Nat.gcd (pmodq g N f c (fun x => x) + (N - 1)) N = 1) : Gw g c N := by
  unfold Gw
  rw [← pmod_eq h, ← pmodq_eq (k := fun x => x)]; exact hg
theorem pr_a : Pr 204061199 := prime_small 14300 (by decide) (by decide +kernel) (by decide)
theorem pr_b : Pr 34282281433 := pock1w 2 (by decide) pr_a (by decide) (by decide) (pow_by (f := 64) (by decide) (by decide +kernel)) (gcd_by (f := 64) (by decide) (by decide +kernel))
theorem pr_c : Pr 704251 := prime_small 900 (by decide) (by decide +kernel) (by decide)
theorem pr_d : Pr 78283 := prime_small 300 (by decide) (by decide +kernel) (by decide)
theorem pr_e : Pr 46076956964474543 := pock2w 2 (by decide) pr_c pr_d (by decide) (by decide) (by decide) (by decide) (pow_by (f := 64) (by decide) (by decide +kernel)) (gcd_by (f := 64) (by decide) (by decide +kernel)) (gcd_by (f := 64) (by decide) (by decide +kernel))
theorem pr_f : Pr 774023187263532362759620327192479577272145303 := pock2w 2 (by decide) pr_e pr_b (by decide) (by decide) (by decide) (by decide) (pow_by (f := 160) (by decide) (by decide +kernel)) (gcd_by (f := 160) (by decide) (by decide +kernel)) (gcd_by (f := 160) (by decide) (by decide +kernel))
theorem pr_g : Pr 835945042244614951780389953367877943453916927241 := pock1w 2 (by decide) pr_f (by decide) (by decide) (pow_by (f := 160) (by decide) (by decide +kernel)) (gcd_by (f := 160) (by decide) (by decide +kernel))
theorem pf_prime : Pr Pf := pock1w 2 (by decide) pr_g (by decide) (by decide) (pow_by (f := 256) (by decide) (by decide +kernel)) (gcd_by (f := 256) (by decide) (by decide +kernel))

/-! ### The field -/
abbrev K := Fin Pf
theorem pf_pos : 0 < Pf := by decide
def kof (n : Nat) : K := ⟨n % Pf, Nat.mod_lt _ pf_pos⟩
def kinv (a : K) : K := kof (a.val ^ (Pf - 2))
theorem k_ext {a b : K} (h : a.val = b.val) : a = b := Fin.ext h
theorem k_mul (a b : K) : (a * b).val = a.val * b.val % Pf := rfl
theorem k_zero {a : K} : a = 0 ↔ a.val = 0 := ⟨fun h => by rw [h]; rfl, fun h => Fin.ext h⟩
theorem k_dvd {a : K} (h : Pf ∣ a.val) : a = 0 := k_zero.2 (Nat.eq_zero_of_dvd_of_lt h a.isLt)
theorem mul_kinv {a : K} (h : a ≠ 0) : a * kinv a = 1 := by
  have hn : ¬ Pf ∣ a.val := fun hd => h (k_dvd hd)
  have hf := fermat pf_prime hn
  apply Fin.ext
  rw [k_mul]
  show a.val * (a.val ^ (Pf - 2) % Pf) % Pf = 1
  rw [Nat.mul_mod_mod, Nat.mul_comm, ← Nat.pow_succ]
  exact hf
theorem k_or {a b : K} (h : a * b = 0) : a = 0 ∨ b = 0 := by
  have h1 : Pf ∣ a.val * b.val := Nat.dvd_of_mod_eq_zero (by have := congrArg Fin.val h; simpa [k_mul] using this)
  rcases pf_prime.dvd_mul h1 with h2 | h2
  · exact .inl (k_dvd h2)
  · exact .inr (k_dvd h2)
theorem k_ne {a b : K} (ha : a ≠ 0) (hb : b ≠ 0) : a * b ≠ 0 := fun h => (k_or h).elim ha hb
theorem k_cancel {a b c : K} (ha : a ≠ 0) (h : a * b = a * c) : b = c := by
  have hi := mul_kinv ha
  grobner
theorem one_ne : (1 : K) ≠ 0 := by decide
theorem kinv_ne {a : K} (h : a ≠ 0) : kinv a ≠ 0 := fun e => by
  have := mul_kinv h
  rw [e] at this
  exact one_ne (by grobner)
def cb : K := ⟨41058363725152142129326129780047268409114441015993725554835256314039467401291, by decide⟩
def On (x y : K) : Prop := y * y = x * x * x - 3 * x + cb
end Go.Proofs.YtekgjjanikicnaaDoor.Pm
namespace Go.Proofs.YtekgjjanikicnaaDoor.Pm
set_option linter.unusedVariables false
set_option maxRecDepth 100000

/-- A polynomial's value. -/
def ev : List K → K → K
  | [], _ => 0
  | c :: r, x => c + x * ev r x
def addL : List K → List K → List K
  | [], b => b
  | a, [] => a
  | c :: a, d :: b => (c + d) :: addL a b
theorem addL_length : ∀ a b : List K, (addL a b).length ≤ max a.length b.length
  | [], b => by simp [addL]
  | c :: a, [] => by simp [addL]
  | c :: a, d :: b => by
    have := addL_length a b
    simp only [addL, List.length_cons]
    omega
theorem ev_addL (x : K) : ∀ a b : List K, ev (addL a b) x = ev a x + ev b x
  | [], b => by simp only [addL, ev]; grobner
  | c :: a, [] => by simp only [addL, ev]; grobner
  | c :: a, d :: b => by
    have := ev_addL x a b
    simp only [addL, ev, this]
    grobner
def scaleL (k : K) (l : List K) : List K := l.map (k * ·)
theorem ev_scaleL (k x : K) : ∀ l : List K, ev (scaleL k l) x = k * ev l x
  | [] => by simp only [scaleL, List.map_nil, ev]; grobner
  | c :: l => by
    have := ev_scaleL k x l
    simp only [scaleL, List.map_cons, ev] at this ⊢
    rw [this]
    grobner
def mulL : List K → List K → List K
  | [], _ => []
  | c :: a, b => addL (scaleL c b) (0 :: mulL a b)
theorem ev_mulL (x : K) (b : List K) : ∀ a : List K, ev (mulL a b) x = ev a x * ev b x
  | [] => by simp only [mulL, ev]; grobner
  | c :: a => by
    have := ev_mulL x b a
    simp only [mulL, ev_addL, ev_scaleL, ev, this]
    grobner
theorem mulL_length (b : List K) : ∀ a : List K, a ≠ [] → b ≠ [] → (mulL a b).length ≤ a.length + b.length - 1
  | [], h, _ => absurd rfl h
  | [c], _, hb => by
    have := addL_length (scaleL c b) [0]
    have hb' : b.length ≠ 0 := fun e => hb (List.length_eq_zero_iff.1 e)
    simp only [mulL, scaleL, List.length_map, List.length_cons, List.length_nil] at this ⊢
    omega
  | c :: d :: a, _, hb => by
    have h1 := mulL_length b (d :: a) (by simp) hb
    have h2 := addL_length (scaleL c b) (0 :: mulL (d :: a) b)
    have hb' : b.length ≠ 0 := fun e => hb (List.length_eq_zero_iff.1 e)
    simp only [scaleL, List.length_map, List.length_cons] at h1 h2 ⊢
    rw [mulL]
    simp only [scaleL] at h2 ⊢
    omega
/-- A polynomial of less than m coefficients' degree. -/
def PD (m : Nat) (f : K → K) : Prop := ∃ l : List K, l.length ≤ m ∧ ∀ x, f x = ev l x
theorem PD.mono {m n : Nat} {f : K → K} (h : PD m f) (hmn : m ≤ n) : PD n f := by
  obtain ⟨l, h1, h2⟩ := h
  exact ⟨l, by omega, h2⟩
theorem PD.add {m n k : Nat} {f g : K → K} (hf : PD m f) (hg : PD n g) (h1 : m ≤ k) (h2 : n ≤ k) : PD k fun x => f x + g x := by
  obtain ⟨a, ha, ea⟩ := hf
  obtain ⟨b, hb, eb⟩ := hg
  refine ⟨addL a b, ?_, fun x => by simp only [ev_addL, ea, eb]⟩
  have := addL_length a b
  omega
theorem PD.scale {m : Nat} {f : K → K} (k : K) (hf : PD m f) : PD m fun x => k * f x := by
  obtain ⟨a, ha, ea⟩ := hf
  exact ⟨scaleL k a, by simpa [scaleL] using ha, fun x => by simp only [ev_scaleL, ea]⟩
theorem PD.mul {m n : Nat} {f g : K → K} (hf : PD m f) (hg : PD n g) : PD (if m = 0 ∨ n = 0 then 0 else m + n - 1) fun x => f x * g x := by
  obtain ⟨a, ha, ea⟩ := hf
  obtain ⟨b, hb, eb⟩ := hg
  by_cases h1 : a = []
  · subst h1
    exact ⟨[], Nat.zero_le _, fun x => by simp only [ea, ev]; grobner⟩
  by_cases h2 : b = []
  · subst h2
    exact ⟨[], Nat.zero_le _, fun x => by simp only [eb, ev]; grobner⟩
  have h1' : a.length ≠ 0 := fun e => h1 (List.length_eq_zero_iff.1 e)
  have h2' : b.length ≠ 0 := fun e => h2 (List.length_eq_zero_iff.1 e)
  have := mulL_length b a h1 h2
  refine ⟨mulL a b, ?_, fun x => by simp only [ev_mulL, ea, eb]⟩
  rw [if_neg (by omega)]
  omega
/-- A root is divided off. -/
def quoL (r : K) : List K → List K
  | [] => []
  | [_] => []
  | _ :: d :: l => ev (d :: l) r :: quoL r (d :: l)
theorem quoL_length (r : K) : ∀ l : List K, (quoL r l).length = l.length - 1
  | [] => rfl
  | [_] => rfl
  | _ :: d :: l => by
    have := quoL_length r (d :: l)
    simp only [quoL, List.length_cons] at this ⊢
    omega
theorem quoL_ev (r x : K) : ∀ l : List K, ev l x - ev l r = (x - r) * ev (quoL r l) x
  | [] => by simp only [ev, quoL]; grobner
  | [c] => by simp only [ev, quoL]; grobner
  | c :: d :: l => by
    have := quoL_ev r x (d :: l)
    have e1 : ev (c :: d :: l) x = c + x * ev (d :: l) x := rfl
    have e2 : ev (c :: d :: l) r = c + r * ev (d :: l) r := rfl
    have e3 : ev (quoL r (c :: d :: l)) x = ev (d :: l) r + x * ev (quoL r (d :: l)) x := rfl
    rw [e1, e2, e3]
    grobner
theorem vanish : ∀ (n : Nat) (l : List K), l.length ≤ n → ∀ xs : List K, xs.Nodup → xs.length = n → (∀ x ∈ xs, ev l x = 0) → ∀ x, ev l x = 0
  | 0, l, hl, xs, hn, hx, h, x => by
    have : l = [] := List.length_eq_zero_iff.1 (by omega)
    subst this; rfl
  | n + 1, l, hl, [], hn, hx, h, x => by cases hx
  | n + 1, l, hl, r :: xs, hn, hx, h, x => by
    have hr := h r (List.mem_cons_self ..)
    have hq := vanish n (quoL r l) (by rw [quoL_length]; omega) xs (List.nodup_cons.1 hn).2 (by simpa using hx) (fun y hy => by
      have h1 := quoL_ev r y l
      rw [h y (List.mem_cons_of_mem _ hy), hr] at h1
      have hne : y - r ≠ 0 := fun e => by
        have : y = r := by grobner
        subst this
        exact (List.nodup_cons.1 hn).1 hy
      rcases k_or (show (y - r) * ev (quoL r l) y = 0 by grobner) with e | e
      · exact absurd e hne
      · exact e)
    have h1 := quoL_ev r x l
    rw [hq x, hr] at h1
    grobner
theorem PD.vanish {m : Nat} {f : K → K} (hf : PD m f) (xs : List K) (hn : xs.Nodup) (hl : m ≤ xs.length) (h : ∀ x ∈ xs, f x = 0) (x : K) : f x = 0 := by
  obtain ⟨l, h1, h2⟩ := hf
  rw [h2]
  exact Pm.vanish xs.length l (by omega) xs hn rfl (fun y hy => by rw [← h2]; exact h y hy) x
/-- A function on the curve whose pole is of order n at most. -/
def Cls (n : Nat) (F : K → K → K) : Prop := ∃ f g, PD (n / 2 + 1) f ∧ PD ((n - 1) / 2) g ∧ ∀ x y, On x y → F x y = f x + g x * y
theorem Cls.mono {m n : Nat} {F : K → K → K} (h : Cls m F) (hmn : m ≤ n) : Cls n F := by
  obtain ⟨f, g, h1, h2, h3⟩ := h
  exact ⟨f, g, h1.mono (by omega), h2.mono (by omega), h3⟩
theorem PD.const (c : K) : PD 1 fun _ => c := ⟨[c], Nat.le_refl _, fun x => by simp only [ev]; grobner⟩
theorem PD.zero : PD 0 fun _ => 0 := ⟨[], Nat.le_refl _, fun x => rfl⟩
theorem PD.x : PD 2 fun x => x := ⟨[0, 1], Nat.le_refl _, fun x => by simp only [ev]; grobner⟩
theorem PD.cubic : PD 4 fun x => x * x * x - 3 * x + cb := ⟨[cb, -3, 0, 1], Nat.le_refl _, fun x => by simp only [ev]; grobner⟩
theorem Cls.const (c : K) : Cls 0 fun _ _ => c := ⟨fun _ => c, fun _ => 0, PD.const c, PD.zero, fun x y h => by grobner⟩
theorem Cls.x : Cls 2 fun x _ => x := ⟨fun x => x, fun _ => 0, PD.x, PD.zero, fun x y h => by grobner⟩
theorem Cls.y : Cls 3 fun _ y => y := ⟨fun _ => 0, fun _ => 1, PD.zero.mono (by omega), PD.const 1, fun x y h => by grobner⟩
theorem Cls.add {n : Nat} {F G : K → K → K} (hF : Cls n F) (hG : Cls n G) : Cls n fun x y => F x y + G x y := by
  obtain ⟨f, g, h1, h2, h3⟩ := hF
  obtain ⟨f', g', h1', h2', h3'⟩ := hG
  exact ⟨_, _, h1.add h1' (Nat.le_refl _) (Nat.le_refl _), h2.add h2' (Nat.le_refl _) (Nat.le_refl _), fun x y h => by simp only [h3 x y h, h3' x y h]; grobner⟩
theorem Cls.scale {n : Nat} {F : K → K → K} (k : K) (hF : Cls n F) : Cls n fun x y => k * F x y := by
  obtain ⟨f, g, h1, h2, h3⟩ := hF
  exact ⟨_, _, h1.scale k, h2.scale k, fun x y h => by simp only [h3 x y h]; grobner⟩
theorem Cls.sub {n : Nat} {F G : K → K → K} (hF : Cls n F) (hG : Cls n G) : Cls n fun x y => F x y - G x y := by
  have := hF.add (hG.scale (-1))
  obtain ⟨f, g, h1, h2, h3⟩ := this
  exact ⟨f, g, h1, h2, fun x y h => by rw [← h3 x y h]; grobner⟩
theorem Cls.mul {m n : Nat} {F G : K → K → K} (hF : Cls m F) (hG : Cls n G) : Cls (m + n) fun x y => F x y * G x y := by
  obtain ⟨f, g, h1, h2, h3⟩ := hF
  obtain ⟨f', g', h1', h2', h3'⟩ := hG
  have a := h1.mul h1'
  have b := (h2.mul h2').mul PD.cubic
  have c := h1.mul h2'
  have d := h2.mul h1'
  refine ⟨_, _, (a.add b (k := (m + n) / 2 + 1) ?_ ?_), (c.add d (k := (m + n - 1) / 2) ?_ ?_), fun x y h => ?_⟩
  · repeat' split
    all_goals omega
  · repeat' split
    all_goals omega
  · repeat' split
    all_goals omega
  · repeat' split
    all_goals omega
  · simp only [h3 x y h, h3' x y h]
    have : y * y = x * x * x - 3 * x + cb := h
    grobner
theorem two_ne : (2 : K) ≠ 0 := by decide
theorem Cls.vanish {n : Nat} {F : K → K → K} (hF : Cls n F) (ps : List (K × K)) (hn : (ps.map (·.1)).Nodup) (hl : n / 2 + 1 ≤ ps.length) (h : ∀ p ∈ ps, On p.1 p.2 ∧ p.2 ≠ 0 ∧ F p.1 p.2 = 0 ∧ F p.1 (-p.2) = 0) {x y : K} (ho : On x y) : F x y = 0 := by
  obtain ⟨f, g, h1, h2, h3⟩ := hF
  have key : ∀ p ∈ ps, f p.1 = 0 ∧ g p.1 = 0 := fun p hp => by
    obtain ⟨k1, k2, k3, k4⟩ := h p hp
    have k5 : On p.1 (-p.2) := by unfold On at k1 ⊢; grobner
    rw [h3 _ _ k1] at k3
    rw [h3 _ _ k5] at k4
    have a : f p.1 = 0 := k_cancel two_ne (by grobner)
    exact ⟨a, k_cancel k2 (by grobner)⟩
  have e1 := h1.vanish (ps.map (·.1)) hn (by simpa using hl) (fun x hx => by
    obtain ⟨p, hp, rfl⟩ := List.mem_map.1 hx
    exact (key p hp).1) x
  have e2 := h2.vanish (ps.map (·.1)) hn (by rw [List.length_map]; omega) (fun x hx => by
    obtain ⟨p, hp, rfl⟩ := List.mem_map.1 hx
    exact (key p hp).2) x
  rw [h3 x y ho, e1, e2]
  grobner
end Go.Proofs.YtekgjjanikicnaaDoor.Pm
namespace Go.Proofs.YtekgjjanikicnaaDoor.Pm
set_option linter.unusedVariables false
set_option maxRecDepth 100000

/-- A number, reckoned before it is handed on. -/
def fz {α : Type} (n : Nat) (k : Nat → α) : α := match n + 1 with
  | 0 => k 0
  | m + 1 => k m
theorem fz_eq {α : Type} (n : Nat) (k : Nat → α) : fz n k = k n := rfl
abbrev nb : Nat := 74733725485204106633371317169360305120971702399296588640698374994827630452660
def q3 (a b c a' b' c' : Nat) (k : Nat → Nat → Nat → Bool) : Bool :=
  fz ((a * a' + nb * ((b * c' + c * b') % Pf)) % Pf) fun x =>
  fz ((a * b' + b * a' + 3 * (b * c' + c * b') + nb * (c * c' % Pf)) % Pf) fun y =>
  fz ((a * c' + b * b' + c * a' + 3 * (c * c')) % Pf) fun z => k x y z
/-- x to the power of e, modulo the cubic. -/
def qp : Nat → Nat → (Nat → Nat → Nat → Bool) → Bool
  | 0, _, k => k 1 0 0
  | f + 1, e, k => match Nat.beq (e % 2) 1 with
    | true => qp f (e / 2) fun a b c => q3 a b c a b c fun a b c => q3 a b c 0 1 0 k
    | false => qp f (e / 2) fun a b c => q3 a b c a b c k
def qend (a b c : Nat) : Bool := q3 76626890310466861426869089647039036757962535851890885406097439786770458211455 74462945259064871768191128030512052509059297803194871526163573358218695456204 34768139465301476436978405170953382516735956999154666452188405812258086013549 a (b + Pf - 1) c fun a b c => Nat.beq a 1 && (Nat.beq b 0 && Nat.beq c 0)
theorem qend_ok : qp 256 Pf qend = true := by decide +kernel

theorem kof_mod (a : Nat) : kof (a % Pf) = kof a := Fin.ext (Nat.mod_mod _ _)
theorem kof_mul (a b : Nat) : kof (a * b) = kof a * kof b := Fin.ext (Nat.mul_mod _ _ _)
theorem kof_add (a b : Nat) : kof (a + b) = kof a + kof b := Fin.ext (Nat.add_mod _ _ _)
theorem kof_val (a : K) : kof a.val = a := Fin.ext (Nat.mod_eq_of_lt a.isLt)
theorem kof_0 : kof 0 = 0 := by decide
theorem kof_1 : kof 1 = 1 := by decide
theorem kof_3 : kof 3 = 3 := by decide
theorem kof_nb : kof nb = -cb := by decide
theorem kof_m1 : kof (Pf - 1) = -1 := by decide
def e3 (r : K) (a b c : Nat) : K := kof a + kof b * r + kof c * (r * r)
theorem q3_spec {r : K} (hr : r * r * r - 3 * r + cb = 0) (a b c a' b' c' : Nat) (k : Nat → Nat → Nat → Bool) : ∃ x y z, q3 a b c a' b' c' k = k x y z ∧ e3 r x y z = e3 r a b c * e3 r a' b' c' := by
  refine ⟨_, _, _, rfl, ?_⟩
  simp only [e3, kof_mod, kof_add, kof_mul, kof_3, kof_nb]
  grobner
theorem pow_two (r : K) (n : Nat) : kof (r.val ^ (n + n)) = kof (r.val ^ n) * kof (r.val ^ n) := by rw [Nat.pow_add, kof_mul]
theorem qp_spec {r : K} (hr : r * r * r - 3 * r + cb = 0) : ∀ (f e : Nat) (k : Nat → Nat → Nat → Bool), e < 2 ^ f → ∃ a b c, qp f e k = k a b c ∧ e3 r a b c = kof (r.val ^ e)
  | 0, e, k, h => by
    have : e = 0 := by simpa using h
    subst this
    refine ⟨1, 0, 0, rfl, ?_⟩
    simp only [e3, kof_0, kof_1, Nat.pow_zero]
    grobner
  | f + 1, e, k, h => by
    have hf : e / 2 < 2 ^ f := by rw [Nat.pow_succ] at h; omega
    rw [qp]
    split
    · rename_i h1
      have h1 : e % 2 = 1 := Nat.eq_of_beq_eq_true h1
      obtain ⟨a, b, c, k1, k2⟩ := qp_spec hr f (e / 2) (fun a b c => q3 a b c a b c fun a b c => q3 a b c 0 1 0 k) hf
      obtain ⟨a', b', c', k3, k4⟩ := q3_spec hr a b c a b c (fun a b c => q3 a b c 0 1 0 k)
      obtain ⟨x, y, z, k5, k6⟩ := q3_spec hr a' b' c' 0 1 0 k
      refine ⟨x, y, z, by rw [k1, k3, k5], ?_⟩
      have e1 : e3 r 0 1 0 = r := by simp only [e3, kof_0, kof_1]; grobner
      rw [k6, k4, k2, e1, ← pow_two]
      have e2 : kof (r.val ^ e) = kof (r.val ^ (e / 2 + e / 2)) * kof r.val := by rw [← kof_mul, ← Nat.pow_succ]; congr 2; omega
      rw [e2, kof_val]
    · rename_i h1
      have h1 : e % 2 ≠ 1 := fun e2 => by rw [e2] at h1; cases h1
      obtain ⟨a, b, c, k1, k2⟩ := qp_spec hr f (e / 2) (fun a b c => q3 a b c a b c k) hf
      obtain ⟨a', b', c', k3, k4⟩ := q3_spec hr a b c a b c k
      refine ⟨a', b', c', by rw [k1, k3], ?_⟩
      rw [k4, k2, ← pow_two]
      congr 2; omega
theorem no_root (r : K) : r * r * r - 3 * r + cb ≠ 0 := fun hr => by
  obtain ⟨a, b, c, k1, k2⟩ := qp_spec hr 256 Pf qend (by decide)
  rw [qend_ok] at k1
  have k1 := k1.symm
  unfold qend at k1
  obtain ⟨x, y, z, k3, k4⟩ := q3_spec hr 76626890310466861426869089647039036757962535851890885406097439786770458211455 74462945259064871768191128030512052509059297803194871526163573358218695456204 34768139465301476436978405170953382516735956999154666452188405812258086013549 a (b + Pf - 1) c fun a b c => Nat.beq a 1 && (Nat.beq b 0 && Nat.beq c 0)
  rw [k3] at k1
  simp only [Bool.and_eq_true, Nat.beq_eq] at k1
  obtain ⟨rfl, rfl, rfl⟩ := k1
  have h1 : e3 r a (b + Pf - 1) c = 0 := by
    have e1 : b + Pf - 1 = b + (Pf - 1) := by rw [Nat.add_sub_assoc (by decide)]
    have e2 : kof (r.val ^ Pf) = r := by rw [← kof_mod, frob pf_prime, kof_mod, kof_val]
    rw [e2] at k2
    simp only [e3] at k2 ⊢
    rw [e1, kof_add, kof_m1]
    grobner
  have h2 : e3 r 1 0 0 = 1 := by simp only [e3, kof_0, kof_1]; grobner
  rw [h1, h2] at k4
  exact one_ne (by grobner)
theorem On.y_ne {x y : K} (h : On x y) : y ≠ 0 := fun e => by
  subst e
  unfold On at h
  exact no_root x (by grobner)
theorem On.neg {x y : K} (h : On x y) : On x (-y) := by unfold On at h ⊢; grobner
end Go.Proofs.YtekgjjanikicnaaDoor.Pm
