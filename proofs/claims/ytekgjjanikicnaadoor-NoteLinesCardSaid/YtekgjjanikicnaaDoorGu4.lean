/- Numbers and their digits, plainly. -/
import Derived.Test.YtekgjjanikicnaaDoorGu2
import Derived.Lib.ParseIntBCases
namespace Go.Proofs.YtekgjjanikicnaaDoor.Sx
open Go
set_option linter.unusedSimpArgs false
set_option linter.unusedVariables false
/-- What text.Number answers. -/
def numOf (l : List UInt8) : Option Nat :=
  match Lib.parseUintB 64 l with
  | .ok u => if Lib.decDigits u = l then some u else none
  | _ => none
theorem parseM_app (M : Nat) (c : UInt8) : ∀ (l : List UInt8) (acc v : Nat), Lib.parseUintM M acc l = .ok v → Lib.parseUintM M acc (l ++ [c]) = Lib.parseUintM M v [c]
  | [], acc, v, h => by
    simp only [Lib.parseUintM, Lib.NumEnd.ok.injEq] at h
    subst h; rfl
  | x :: r, acc, v, h => by
    rw [List.cons_append]
    unfold Lib.parseUintM at h ⊢
    split at h
    · rename_i h1
      rw [if_pos h1]
      split at h
      · cases h
      · rename_i h2
        rw [if_neg h2]
        split at h
        · cases h
        · rename_i h3
          rw [if_neg h3]
          exact parseM_app M c r _ v h
    · cases h
theorem digit_nat {d : Nat} (h : d < 10) : (UInt8.ofNat (48 + d)).toNat = 48 + d := by
  simp only [UInt8.toNat_ofNat']; omega
theorem parse_dec : ∀ (n u : Nat), u ≤ n → u < 18446744073709551616 → Lib.parseUintM (2 ^ 64 - 1) 0 (Lib.decDigits u) = .ok u := by
  intro n
  induction n with
  | zero =>
    intro u h _
    have : u = 0 := by omega
    subst this
    rw [Lib.decDigits_one (by omega)]
    simp [Lib.parseUintM]
  | succ n ih =>
    intro u h hu
    by_cases h10 : u < 10
    · rw [Lib.decDigits_one h10]
      unfold Lib.parseUintM Lib.parseUintM
      have e := digit_nat h10
      rw [if_pos (by omega), if_neg (by omega), if_neg (by omega), e]
      congr 1; omega
    · have e : Lib.decDigits u = Lib.decDigits (u / 10) ++ [UInt8.ofNat (48 + u % 10)] := by
        conv => lhs; rw [Lib.decDigits, dif_neg h10]
      have hd := digit_nat (Nat.mod_lt u (show 0 < 10 by omega))
      rw [e, parseM_app _ _ _ _ _ (ih (u / 10) (by omega) (by omega))]
      unfold Lib.parseUintM Lib.parseUintM
      rw [if_pos (by omega), if_neg (by omega), if_neg (by omega), hd]
      congr 1; omega
theorem dec_ne (u : Nat) : Lib.decDigits u ≠ [] := by
  intro h
  have h1 := Lib.decDigits_length u
  have h2 : 1 ≤ Lib.nDigits u := by
    by_cases h10 : u < 10
    · rw [Lib.nDigits_small h10]; omega
    · rw [Lib.nDigits_big h10]; omega
  rw [h] at h1
  simp at h1
  omega
theorem parse_decB {u : Nat} (hu : u < 18446744073709551616) : Lib.parseUintB 64 (Lib.decDigits u) = .ok u := by
  unfold Lib.parseUintB
  rw [if_neg (dec_ne u), parse_dec u u (Nat.le_refl _) hu]
theorem dec_inj {u v : Nat} (hu : u < 18446744073709551616) (hv : v < 18446744073709551616) (h : Lib.decDigits u = Lib.decDigits v) : u = v := by
  have h1 := parse_decB hu
  rw [h, parse_decB hv] at h1
  cases h1; rfl
theorem numOf_some {l : List UInt8} {u : Nat} (h : numOf l = some u) : u < 18446744073709551616 ∧ Lib.decDigits u = l := by
  unfold numOf at h
  split at h
  · rename_i v hv
    have := Lib.parseUintB_le hv
    split at h
    · rename_i e
      cases h
      exact ⟨by omega, e⟩
    · cases h
  · cases h
theorem numOf_dec {u : Nat} (hu : u < 18446744073709551616) : numOf (Lib.decDigits u) = some u := by
  unfold numOf
  rw [parse_decB hu]
  simp only [if_true]
theorem numOf_iff {l : List UInt8} {u : Nat} : numOf l = some u ↔ u < 18446744073709551616 ∧ Lib.decDigits u = l :=
  ⟨numOf_some, fun ⟨h1, h2⟩ => by rw [← h2]; exact numOf_dec h1⟩
theorem numOf_none {l : List UInt8} (h : ∀ u, u < 18446744073709551616 → Lib.decDigits u ≠ l) : numOf l = none := by
  cases e : numOf l with
  | none => rfl
  | some u => exact absurd (numOf_some e).2 (h u (numOf_some e).1)
/-- A 0 ahead. -/
theorem dec_zero_ahead {u n : Nat} (hu : u < 18446744073709551616) (hn : n < 18446744073709551616) : Lib.decDigits u ≠ 48 :: Lib.decDigits n := by
  intro h
  have h1 := parse_decB hu
  rw [h] at h1
  unfold Lib.parseUintB at h1
  rw [if_neg (by simp)] at h1
  unfold Lib.parseUintM at h1
  rw [if_pos (by decide), if_neg (by omega), if_neg (by simp)] at h1
  have h2 := parse_dec n n (Nat.le_refl _) hn
  have e0 : 0 * 10 + ((48 : UInt8).toNat - 48) = 0 := by decide
  rw [e0, h2] at h1
  cases h1
  have := congrArg List.length h
  simp at this
theorem numOf_ahead {n : Nat} (hn : n < 18446744073709551616) : numOf (48 :: Lib.decDigits n) = none := numOf_none fun u hu => dec_zero_ahead hu hn
/-- A 0 behind. -/
theorem dec_behind {n : Nat} (hn : 0 < n) : Lib.decDigits (n * 10) = Lib.decDigits n ++ [48] := by
  conv => lhs; rw [Lib.decDigits, dif_neg (by omega)]
  rw [Nat.mul_div_cancel _ (by omega), Nat.mul_mod_left]
  rfl
theorem numOf_behind {n : Nat} (hn : n < 18446744073709551616) : numOf (Lib.decDigits n ++ [48]) = if 0 < n ∧ n * 10 < 18446744073709551616 then some (n * 10) else none := by
  split
  · rename_i h
    rw [← dec_behind h.1]
    exact numOf_dec h.2
  · rename_i h
    by_cases h0 : n = 0
    · subst h0
      rw [Lib.decDigits_one (by omega)]
      have e := numOf_ahead (n := 0) hn
      rw [Lib.decDigits_one (by omega)] at e
      exact e
    · refine numOf_none fun u hu e => ?_
      rw [← dec_behind (by omega)] at e
      by_cases h10 : u < 10
      · have := congrArg List.length e
        rw [Lib.decDigits_length, Lib.decDigits_length, Lib.nDigits_small h10, Lib.nDigits_big (by omega)] at this
        have : 1 ≤ Lib.nDigits (n * 10 / 10) := by rw [← Lib.decDigits_length]; exact List.length_pos_iff.2 (dec_ne _)
        omega
      · have e1 : Lib.decDigits u = Lib.decDigits (u / 10) ++ [UInt8.ofNat (48 + u % 10)] := by conv => lhs; rw [Lib.decDigits, dif_neg h10]
        rw [e1, dec_behind (by omega)] at e
        obtain ⟨e2, e3⟩ := List.append_inj' e rfl
        have e4 := dec_inj (by omega) hn e2
        have e5 := congrArg UInt8.toNat (List.cons.inj e3).1
        rw [digit_nat (Nat.mod_lt u (by omega))] at e5
        have : (48 : UInt8).toNat = 48 := rfl
        omega
/-- The number that digits would be, modulo M. -/
def foldM (M : Nat) (l : List UInt8) : Nat := l.foldl (fun n c => (n * 10 + c.toNat + (M - 48)) % M) 0
theorem foldM_app (M : Nat) (l : List UInt8) (c : UInt8) : foldM M (l ++ [c]) = (foldM M l * 10 + c.toNat + (M - 48)) % M := by
  simp [foldM, List.foldl_append]
theorem foldl_lt {M : Nat} (hM : 0 < M) : ∀ (l : List UInt8) (a : Nat), a < M → l.foldl (fun n c => (n * 10 + c.toNat + (M - 48)) % M) a < M
  | [], a, h => h
  | c :: r, a, h => foldl_lt hM r _ (Nat.mod_lt _ hM)
theorem foldM_lt {M : Nat} (hM : 0 < M) (l : List UInt8) : foldM M l < M := foldl_lt hM l 0 hM
theorem foldM_dec {M : Nat} (hM : 58 ≤ M) : ∀ (n u : Nat), u ≤ n → u < M → foldM M (Lib.decDigits u) = u := by
  have step : ∀ (a d u : Nat), d < 10 → a * 10 + d = u → u < M → (a * 10 + (UInt8.ofNat (48 + d)).toNat + (M - 48)) % M = u := by
    intro a d u hd e hu
    rw [digit_nat hd, show a * 10 + (48 + d) + (M - 48) = u + M by omega, Nat.add_mod_right, Nat.mod_eq_of_lt hu]
  intro n
  induction n with
  | zero =>
    intro u h hu
    have : u = 0 := by omega
    subst this
    rw [Lib.decDigits_one (by omega)]
    exact step 0 0 0 (by omega) rfl hu
  | succ n ih =>
    intro u h hu
    by_cases h10 : u < 10
    · rw [Lib.decDigits_one h10]
      exact step 0 u u h10 (by omega) hu
    · have e : Lib.decDigits u = Lib.decDigits (u / 10) ++ [UInt8.ofNat (48 + u % 10)] := by
        conv => lhs; rw [Lib.decDigits, dif_neg h10]
      rw [e, foldM_app, ih (u / 10) (by omega) (by omega)]
      exact step (u / 10) (u % 10) u (by omega) (by omega) hu
theorem numOf_foldM {M : Nat} (hM : M = 18446744073709551616) {l : List UInt8} : numOf l = if Lib.decDigits (foldM M (l.take 20)) = l then some (foldM M (l.take 20)) else none := by
  split
  · rename_i e
    rw [numOf_iff]
    exact ⟨by rw [← hM]; exact foldM_lt (by omega) _, e⟩
  · rename_i e
    refine numOf_none fun u hu h => e ?_
    have hlen : l.length ≤ 20 := by rw [← h, Lib.decDigits_length]; exact nDigits_le u hu
    rw [List.take_of_length_le hlen]
    conv => lhs; rw [← h]
    rw [foldM_dec (by omega) u u (Nat.le_refl _) (by omega), h]
end Go.Proofs.YtekgjjanikicnaaDoor.Sx
