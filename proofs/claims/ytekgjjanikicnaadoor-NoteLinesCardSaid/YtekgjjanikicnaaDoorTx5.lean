/- The text of bytes, plainly: its signs, and that it tells the bytes. -/
import Derived.Test.YtekgjjanikicnaaDoorTx3
namespace Go.Proofs.YtekgjjanikicnaaDoor.Sx
open Go
set_option linter.unusedSimpArgs false
set_option linter.unusedVariables false

def plainSign (c : UInt8) : Bool := (65 ≤ c.toNat && c.toNat ≤ 90) || (97 ≤ c.toNat && c.toNat ≤ 122) || (48 ≤ c.toNat && c.toNat ≤ 57) || c.toNat == 43 || c.toNat == 47
/-- What a sign tells. -/
def val6 (c : UInt8) : Nat :=
  if 65 ≤ c.toNat ∧ c.toNat ≤ 90 then c.toNat - 65
  else if 97 ≤ c.toNat ∧ c.toNat ≤ 122 then c.toNat - 71
  else if 48 ≤ c.toNat ∧ c.toNat ≤ 57 then c.toNat + 4
  else if c.toNat = 43 then 62
  else if c.toNat = 47 then 63
  else 64
theorem sgn_all : (List.range 64).all (fun n => plainSign (sgn6 n) && (val6 (sgn6 n) == n)) = true := by decide +kernel
theorem sgn_plain {n : Nat} (h : n < 64) : plainSign (sgn6 n) = true := by
  have := List.all_eq_true.1 sgn_all n (List.mem_range.2 h)
  simp only [Bool.and_eq_true] at this
  exact this.1
theorem val_sgn {n : Nat} (h : n < 64) : val6 (sgn6 n) = n := by
  have := List.all_eq_true.1 sgn_all n (List.mem_range.2 h)
  simp only [Bool.and_eq_true, beq_iff_eq] at this
  exact this.2
theorem plain_ne {c : UInt8} (h : plainSign c = true) : c ≠ 61 := by
  rintro rfl
  revert h
  decide
theorem enc_form : ∀ bs, ∃ p k, enc bs = p ++ List.replicate k 61 ∧ k ≤ 2 ∧ ∀ c ∈ p, plainSign c = true
  | a :: b :: c :: r => by
    obtain ⟨p, k, h1, h2, h3⟩ := enc_form r
    have := bv_lt a
    have := bv_lt b
    have := bv_lt c
    refine ⟨sgn6 (a.toNat / 4) :: sgn6 (a.toNat % 4 * 16 + b.toNat / 16) :: sgn6 (b.toNat % 16 * 4 + c.toNat / 64) :: sgn6 (c.toNat % 64) :: p, k, by simp [enc, h1], h2, ?_⟩
    intro x hx
    simp only [List.mem_cons] at hx
    rcases hx with rfl | rfl | rfl | rfl | hx
    · exact sgn_plain (by omega)
    · exact sgn_plain (by omega)
    · exact sgn_plain (by omega)
    · exact sgn_plain (by omega)
    · exact h3 x hx
  | [a, b] => by
    have := bv_lt a
    have := bv_lt b
    refine ⟨[sgn6 (a.toNat / 4), sgn6 (a.toNat % 4 * 16 + b.toNat / 16), sgn6 (b.toNat % 16 * 4)], 1, by simp [enc], by decide, ?_⟩
    intro x hx
    simp only [List.mem_cons, List.not_mem_nil, or_false] at hx
    rcases hx with rfl | rfl | rfl
    · exact sgn_plain (by omega)
    · exact sgn_plain (by omega)
    · exact sgn_plain (by omega)
  | [a] => by
    have := bv_lt a
    refine ⟨[sgn6 (a.toNat / 4), sgn6 (a.toNat % 4 * 16)], 2, by simp [enc], by decide, ?_⟩
    intro x hx
    simp only [List.mem_cons, List.not_mem_nil, or_false] at hx
    rcases hx with rfl | rfl
    · exact sgn_plain (by omega)
    · exact sgn_plain (by omega)
  | [] => ⟨[], 0, by simp [enc], by decide, by simp⟩
/-- The bytes of a text, where it is one. -/
def unenc : List UInt8 → List UInt8
  | x :: y :: z :: w :: r =>
    if z = 61 then [UInt8.ofNat (val6 x * 4 + val6 y / 16)]
    else if w = 61 then [UInt8.ofNat (val6 x * 4 + val6 y / 16), UInt8.ofNat (val6 y % 16 * 16 + val6 z / 4)]
    else UInt8.ofNat (val6 x * 4 + val6 y / 16) :: UInt8.ofNat (val6 y % 16 * 16 + val6 z / 4) :: UInt8.ofNat (val6 z % 4 * 64 + val6 w) :: unenc r
  | _ => []
theorem ofNat_eq {n : Nat} {a : UInt8} (h : n = a.toNat) : UInt8.ofNat n = a := by rw [h]; simp
theorem unenc_enc : ∀ bs, unenc (enc bs) = bs
  | a :: b :: c :: r => by
    have := bv_lt a
    have := bv_lt b
    have := bv_lt c
    simp only [enc, unenc]
    rw [if_neg (plain_ne (sgn_plain (by omega))), if_neg (plain_ne (sgn_plain (by omega))), val_sgn (by omega), val_sgn (by omega), val_sgn (by omega), val_sgn (by omega), unenc_enc r,
      ofNat_eq (a := a) (by omega), ofNat_eq (a := b) (by omega), ofNat_eq (a := c) (by omega)]
  | [a, b] => by
    have := bv_lt a
    have := bv_lt b
    simp only [enc, unenc]
    rw [if_neg (plain_ne (sgn_plain (by omega))), if_pos trivial, val_sgn (by omega), val_sgn (by omega), val_sgn (by omega), ofNat_eq (a := a) (by omega), ofNat_eq (a := b) (by omega)]
  | [a] => by
    have := bv_lt a
    simp only [enc, unenc]
    rw [if_pos trivial, val_sgn (by omega), val_sgn (by omega), ofNat_eq (a := a) (by omega)]
  | [] => rfl
theorem enc_inj {a b : List UInt8} (h : enc a = enc b) : a = b := by rw [← unenc_enc a, h, unenc_enc]
end Go.Proofs.YtekgjjanikicnaaDoor.Sx
