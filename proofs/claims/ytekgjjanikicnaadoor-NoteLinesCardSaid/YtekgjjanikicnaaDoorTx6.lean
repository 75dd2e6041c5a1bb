/- Texts decoded, plainly: what both decoders make of a text of bytes. -/
import Derived.Test.YtekgjjanikicnaaDoorTx5
import Derived.Lib.Strings
import Derived.Lib.Bytealg
namespace Go.Proofs.YtekgjjanikicnaaDoor.Sx
open Go
set_option linter.unusedSimpArgs false
set_option linter.unusedVariables false

/-- n bits p are at hand, and the signs that follow: the bytes, or none. -/
def decGo : List UInt8 → Nat → Nat → Option (List UInt8)
  | [], _, _ => some []
  | c :: r, p, n =>
    if val6 c = 64 then none
    else if 2 ≤ n then (decGo r ((p * 64 + val6 c) % 2 ^ (n - 2)) (n - 2)).map (UInt8.ofNat ((p * 64 + val6 c) / 2 ^ (n - 2)) :: ·)
    else decGo r (p * 64 + val6 c) (n + 6)
theorem val6_le (c : UInt8) : val6 c ≤ 64 := by
  unfold val6
  have := bv_lt c
  repeat' split
  all_goals omega
theorem dec_no {c : UInt8} {r : List UInt8} {p n : Nat} (h : val6 c = 64) : decGo (c :: r) p n = none := by
  rw [decGo, if_pos h]
theorem dec_lo {c : UInt8} {r : List UInt8} {p n : Nat} (h : val6 c < 64) (hn : n < 2) : decGo (c :: r) p n = decGo r (p * 64 + val6 c) (n + 6) := by
  rw [decGo, if_neg (by omega), if_neg (by omega)]
theorem dec_hi {c : UInt8} {r : List UInt8} {p n : Nat} (h : val6 c < 64) (hn : 2 ≤ n) :
    decGo (c :: r) p n = (decGo r ((p * 64 + val6 c) % 2 ^ (n - 2)) (n - 2)).map (UInt8.ofNat ((p * 64 + val6 c) / 2 ^ (n - 2)) :: ·) := by
  rw [decGo, if_neg (by omega), if_pos hn]
theorem dec_four {x y z w : Nat} (hx : x < 64) (hy : y < 64) (hz : z < 64) (hw : w < 64) (r : List UInt8) : decGo (sgn6 x :: sgn6 y :: sgn6 z :: sgn6 w :: r) 0 0 =
    (decGo r 0 0).map fun l => UInt8.ofNat (x * 4 + y / 16) :: UInt8.ofNat (y % 16 * 16 + z / 4) :: UInt8.ofNat (z % 4 * 64 + w) :: l := by
  have vx := val_sgn hx
  have vy := val_sgn hy
  have vz := val_sgn hz
  have vw := val_sgn hw
  rw [dec_lo (by omega) (by omega), dec_hi (by omega) (by omega), dec_hi (by omega) (by omega), dec_hi (by omega) (by omega), vx, vy, vz, vw]
  simp only [Nat.reduceAdd, Nat.reduceSub, Nat.reducePow, Nat.mod_one, Nat.div_one, Nat.zero_mul, Nat.zero_add, Option.map_map]
  have e1 : (x * 64 + y) / 16 = x * 4 + y / 16 := by omega
  have e2 : ((x * 64 + y) % 16 * 64 + z) / 4 = y % 16 * 16 + z / 4 := by omega
  have e3 : ((x * 64 + y) % 16 * 64 + z) % 4 * 64 + w = z % 4 * 64 + w := by omega
  rw [e1, e2, e3]
  rfl
theorem dec_three {x y z : Nat} (hx : x < 64) (hy : y < 64) (hz : z < 64) : decGo [sgn6 x, sgn6 y, sgn6 z] 0 0 = some [UInt8.ofNat (x * 4 + y / 16), UInt8.ofNat (y % 16 * 16 + z / 4)] := by
  have vx := val_sgn hx
  have vy := val_sgn hy
  have vz := val_sgn hz
  rw [dec_lo (by omega) (by omega), dec_hi (by omega) (by omega), dec_hi (by omega) (by omega), vx, vy, vz]
  simp only [decGo, Nat.reduceAdd, Nat.reduceSub, Nat.reducePow, Nat.zero_mul, Nat.zero_add, Option.map_some]
  have e1 : (x * 64 + y) / 16 = x * 4 + y / 16 := by omega
  have e2 : ((x * 64 + y) % 16 * 64 + z) / 4 = y % 16 * 16 + z / 4 := by omega
  rw [e1, e2]
theorem dec_two {x y : Nat} (hx : x < 64) (hy : y < 64) : decGo [sgn6 x, sgn6 y] 0 0 = some [UInt8.ofNat (x * 4 + y / 16)] := by
  have vx := val_sgn hx
  have vy := val_sgn hy
  rw [dec_lo (by omega) (by omega), dec_hi (by omega) (by omega), vx, vy]
  simp only [decGo, Nat.reduceAdd, Nat.reduceSub, Nat.reducePow, Nat.zero_mul, Nat.zero_add, Option.map_some]
  have e1 : (x * 64 + y) / 16 = x * 4 + y / 16 := by omega
  rw [e1]
/-- What a sign tells, or nought. -/
def val0 (c : UInt8) : Nat := if val6 c = 64 then 0 else val6 c
theorem val0_lt (c : UInt8) : val0 c < 64 := by
  unfold val0
  have := val6_le c
  split <;> omega
theorem val0_sgn {n : Nat} (h : n < 64) : val0 (sgn6 n) = n := by
  unfold val0
  rw [val_sgn h, if_neg (by omega)]
theorem val0_eq : val0 61 = 0 := by decide
/-- Three bytes for four signs each. -/
def rdec : List UInt8 → List UInt8
  | x :: y :: z :: w :: r =>
    UInt8.ofNat ((((val0 x * 64 + val0 y) * 64 + val0 z) * 64 + val0 w) / 65536) :: UInt8.ofNat ((((val0 x * 64 + val0 y) * 64 + val0 z) * 64 + val0 w) / 256 % 256) ::
      UInt8.ofNat ((((val0 x * 64 + val0 y) * 64 + val0 z) * 64 + val0 w) % 256) :: rdec r
  | _ => []
theorem rdec_length : ∀ (s : List UInt8), (rdec s).length = s.length / 4 * 3
  | x :: y :: z :: w :: r => by simp only [rdec, List.length_cons, rdec_length r]; omega
  | [] => rfl
  | [_] => by simp [rdec]
  | [_, _] => by simp [rdec]
  | [_, _, _] => by simp [rdec]
/-- A text of bytes: its signs, its ends, and what the decoders make of it. -/
theorem enc_dec : ∀ bs, ∃ p k e, enc bs = p ++ List.replicate k 61 ∧ k ≤ 2 ∧ (∀ c ∈ p, plainSign c = true) ∧ decGo p 0 0 = some bs ∧ rdec (enc bs) = bs ++ e ∧ e.length = k ∧ (bs ≠ [] → p ≠ []) ∧ (bs = [] → k = 0)
  | a :: b :: c :: r => by
    obtain ⟨p, k, e, h1, h2, h3, h4, h5, h6, h7, h8⟩ := enc_dec r
    have := bv_lt a
    have := bv_lt b
    have := bv_lt c
    refine ⟨sgn6 (a.toNat / 4) :: sgn6 (a.toNat % 4 * 16 + b.toNat / 16) :: sgn6 (b.toNat % 16 * 4 + c.toNat / 64) :: sgn6 (c.toNat % 64) :: p, k, e, by simp [enc, h1], h2, ?_, ?_, ?_, h6, by simp, by simp⟩
    · intro x hx
      simp only [List.mem_cons] at hx
      rcases hx with rfl | rfl | rfl | rfl | hx
      · exact sgn_plain (by omega)
      · exact sgn_plain (by omega)
      · exact sgn_plain (by omega)
      · exact sgn_plain (by omega)
      · exact h3 x hx
    · rw [dec_four (by omega) (by omega) (by omega) (by omega), h4, Option.map_some, ofNat_eq (a := a) (by omega), ofNat_eq (a := b) (by omega), ofNat_eq (a := c) (by omega)]
    · simp only [enc, rdec, h5]
      rw [val0_sgn (by omega), val0_sgn (by omega), val0_sgn (by omega), val0_sgn (by omega), ofNat_eq (a := a) (by omega), ofNat_eq (a := b) (by omega), ofNat_eq (a := c) (by omega)]
      rfl
  | [a, b] => by
    have := bv_lt a
    have := bv_lt b
    refine ⟨[sgn6 (a.toNat / 4), sgn6 (a.toNat % 4 * 16 + b.toNat / 16), sgn6 (b.toNat % 16 * 4)], 1, [UInt8.ofNat ((((a.toNat / 4 * 64 + (a.toNat % 4 * 16 + b.toNat / 16)) * 64 + b.toNat % 16 * 4) * 64 + 0) % 256)], by simp [enc], by decide, ?_, ?_, ?_, rfl, by simp, by simp⟩
    · intro x hx
      simp only [List.mem_cons, List.not_mem_nil, or_false] at hx
      rcases hx with rfl | rfl | rfl
      · exact sgn_plain (by omega)
      · exact sgn_plain (by omega)
      · exact sgn_plain (by omega)
    · rw [dec_three (by omega) (by omega) (by omega), ofNat_eq (a := a) (by omega), ofNat_eq (a := b) (by omega)]
    · simp only [enc, rdec]
      rw [val0_sgn (by omega), val0_sgn (by omega), val0_sgn (by omega), val0_eq, ofNat_eq (a := a) (by omega), ofNat_eq (a := b) (by omega)]
      rfl
  | [a] => by
    have := bv_lt a
    refine ⟨[sgn6 (a.toNat / 4), sgn6 (a.toNat % 4 * 16)], 2, [UInt8.ofNat ((((a.toNat / 4 * 64 + a.toNat % 4 * 16) * 64 + 0) * 64 + 0) / 256 % 256), UInt8.ofNat ((((a.toNat / 4 * 64 + a.toNat % 4 * 16) * 64 + 0) * 64 + 0) % 256)], by simp [enc], by decide, ?_, ?_, ?_, rfl, by simp, by simp⟩
    · intro x hx
      simp only [List.mem_cons, List.not_mem_nil, or_false] at hx
      rcases hx with rfl | rfl
      · exact sgn_plain (by omega)
      · exact sgn_plain (by omega)
    · rw [dec_two (by omega) (by omega), ofNat_eq (a := a) (by omega)]
    · simp only [enc, rdec]
      rw [val0_sgn (by omega), val0_sgn (by omega), val0_eq, ofNat_eq (a := a) (by omega)]
      rfl
  | [] => ⟨[], 0, [], by simp [enc], by decide, by simp, rfl, rfl, rfl, by simp, fun _ => rfl⟩
/-- One = at the end is let go. -/
def strip1 (l : List UInt8) : List UInt8 := Lib.trimSuffix l [61]
theorem strip_one (l : List UInt8) : strip1 (l ++ [61]) = l := by
  unfold strip1 Lib.trimSuffix Lib.hasSuffix
  rw [if_pos (by simp [List.isSuffixOf_iff_suffix])]
  simp
theorem strip_no {l : List UInt8} (h : ∀ c ∈ l, plainSign c = true) : strip1 l = l := by
  unfold strip1 Lib.trimSuffix Lib.hasSuffix
  rw [if_neg]
  rw [List.isSuffixOf_iff_suffix]
  rintro ⟨t, rfl⟩
  exact plain_ne (h 61 (by simp)) rfl
theorem strip_enc {p : List UInt8} {k : Nat} (h : ∀ c ∈ p, plainSign c = true) (hk : k ≤ 2) : strip1 (strip1 (p ++ List.replicate k 61)) = p := by
  have : k = 0 ∨ k = 1 ∨ k = 2 := by omega
  rcases this with rfl | rfl | rfl
  · simp only [List.replicate_zero, List.append_nil, strip_no h]
  · rw [show List.replicate 1 (61 : UInt8) = [61] from rfl, strip_one, strip_no h]
  · rw [show p ++ List.replicate 2 (61 : UInt8) = (p ++ [61]) ++ [61] by simp [List.replicate]]
    rw [strip_one, strip_one]
theorem dec_enc (bs : List UInt8) : decGo (strip1 (strip1 (enc bs))) 0 0 = some bs := by
  obtain ⟨p, k, e, h1, h2, h3, h4, _⟩ := enc_dec bs
  rw [h1, strip_enc h3 h2, h4]
/-- How many bytes are let go at the end. -/
def rcut (s o : List UInt8) : Nat :=
  if 0 < o.length ∧ s[s.length - 1]? = some 61 then (if 1 < o.length ∧ s[s.length - 2]? = some 61 then 2 else 1) else 0
theorem rcut_enc (bs : List UInt8) : (rdec (enc bs)).take ((rdec (enc bs)).length - rcut (enc bs) (rdec (enc bs))) = bs := by
  obtain ⟨p, k, e, h1, h2, h3, h4, h5, h6, h7, h8⟩ := enc_dec bs
  have hr : rcut (enc bs) (rdec (enc bs)) = k := by
    by_cases hb : bs = []
    · obtain rfl := h8 hb
      subst hb
      have : e = [] := List.length_eq_zero_iff.1 h6
      subst this
      rw [h5]; rfl
    · have hl : 0 < bs.length := List.length_pos_iff.2 hb
      have hpl : 0 < p.length := List.length_pos_iff.2 (h7 hb)
      have last : ∀ j, j < k → (enc bs)[(enc bs).length - 1 - j]? = some 61 := by
        intro j hj
        rw [h1, List.length_append, List.length_replicate, List.getElem?_append_right (by omega), List.getElem?_replicate]
        rw [if_pos (by omega)]
      have lastp : (enc bs)[(enc bs).length - 1 - k]? ≠ some 61 := by
        rw [h1, List.length_append, List.length_replicate, List.getElem?_append_left (by omega)]
        intro h
        exact plain_ne (h3 _ (List.mem_of_getElem? h)) rfl
      have hlen : (rdec (enc bs)).length = bs.length + k := by rw [h5, List.length_append, h6]
      unfold rcut
      rw [hlen]
      have : k = 0 ∨ k = 1 ∨ k = 2 := by omega
      rcases this with rfl | rfl | rfl
      · rw [if_neg (fun h => lastp h.2)]
      · rw [if_pos ⟨by omega, last 0 (by omega)⟩, if_neg (fun h => lastp h.2)]
      · rw [if_pos ⟨by omega, last 0 (by omega)⟩, if_pos ⟨by omega, last 1 (by omega)⟩]
  rw [hr, h5, List.length_append, h6, Nat.add_sub_cancel, List.take_left]
/-- What IndexByte tells of a sign. -/
def sgnL : List UInt8 := (List.range 64).map sgn6
theorem index_all : (List.range 256).all (fun n => Lib.indexByte sgnL (UInt8.ofNat n) == (if val6 (UInt8.ofNat n) = 64 then -1 else (val6 (UInt8.ofNat n) : Int))) = true := by decide +kernel
theorem index_sgn (c : UInt8) : Lib.indexByte sgnL c = if val6 c = 64 then -1 else (val6 c : Int) := by
  have := List.all_eq_true.1 index_all c.toNat (List.mem_range.2 (bv_lt c))
  simpa using this
end Go.Proofs.YtekgjjanikicnaaDoor.Sx
