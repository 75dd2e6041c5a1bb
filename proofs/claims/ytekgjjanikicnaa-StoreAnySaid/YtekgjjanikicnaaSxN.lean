/- A symbolic executor for the model's code, part 17: numbers' bits, plainly. -/
import Derived.Test.YtekgjjanikicnaaSxG
namespace Go.Proofs.Ytekgjjanikicnaa.Sx
open Go
set_option linter.unusedVariables false

theorem bv_lt (c : UInt8) : c.toNat < 256 := c.toNat_lt
theorem wrap_u8_nat (n : Nat) : IntKind.u8.wrap (n : Int) = ((n % 256 : Nat) : Int) := by
  simp [IntKind.wrap, IntKind.signed, IntKind.bits]
theorem wrap_u32_nat (n : Nat) : IntKind.u32.wrap (n : Int) = ((n % 4294967296 : Nat) : Int) := by
  simp [IntKind.wrap, IntKind.signed, IntKind.bits]
theorem wrap_u64_nat (n : Nat) : IntKind.u64.wrap (n : Int) = ((n % 18446744073709551616 : Nat) : Int) := by
  simp [IntKind.wrap, IntKind.signed, IntKind.bits]
theorem bitz_nat (op : BinOp) (kd : IntKind) (hs : kd.signed = false) (x y : Nat) (hx : x < 2 ^ kd.bits) (hy : y < 2 ^ kd.bits) :
    bitz .and kd x y = ((x &&& y : Nat) : Int) ∧ bitz .or kd x y = ((x ||| y : Nat) : Int) ∧ bitz .xor kd x y = ((x ^^^ y : Nat) : Int) := by
  have wr : ∀ z : Nat, z < 2 ^ kd.bits → kd.wrap (z : Int) = z := by
    intro z hz
    cases kd <;> simp [IntKind.wrap, IntKind.signed, IntKind.bits] at hs hz ⊢ <;> omega
  have ex : (BitVec.ofInt kd.bits (x : Int)).toNat = x := by simp [Nat.mod_eq_of_lt hx]
  have ey : (BitVec.ofInt kd.bits (y : Int)).toNat = y := by simp [Nat.mod_eq_of_lt hy]
  refine ⟨?_, ?_, ?_⟩
  · simp only [bitz, BitVec.toNat_and, ex, ey]; exact wr _ (Nat.and_lt_two_pow _ hy)
  · simp only [bitz, BitVec.toNat_or, ex, ey]; exact wr _ (Nat.or_lt_two_pow hx hy)
  · simp only [bitz, BitVec.toNat_xor, ex, ey]; exact wr _ (Nat.xor_lt_two_pow hx hy)
theorem or_u32 (x y : Nat) (hx : x < 4294967296) (hy : y < 4294967296) : bitz .or .u32 (x : Int) (y : Int) = ((x ||| y : Nat) : Int) := (bitz_nat .or .u32 rfl x y hx hy).2.1
theorem and_u32 (x y : Nat) (hx : x < 4294967296) (hy : y < 4294967296) : bitz .and .u32 (x : Int) (y : Int) = ((x &&& y : Nat) : Int) := (bitz_nat .or .u32 rfl x y hx hy).1
theorem xor_u32 (x y : Nat) (hx : x < 4294967296) (hy : y < 4294967296) : bitz .xor .u32 (x : Int) (y : Int) = ((x ^^^ y : Nat) : Int) := (bitz_nat .or .u32 rfl x y hx hy).2.2
theorem or_u8 (x y : Nat) (hx : x < 256) (hy : y < 256) : bitz .or .u8 (x : Int) (y : Int) = ((x ||| y : Nat) : Int) := (bitz_nat .or .u8 rfl x y hx hy).2.1
theorem and_u8 (x y : Nat) (hx : x < 256) (hy : y < 256) : bitz .and .u8 (x : Int) (y : Int) = ((x &&& y : Nat) : Int) := (bitz_nat .or .u8 rfl x y hx hy).1
theorem or_u64 (x y : Nat) (hx : x < 18446744073709551616) (hy : y < 18446744073709551616) : bitz .or .u64 (x : Int) (y : Int) = ((x ||| y : Nat) : Int) := (bitz_nat .or .u64 rfl x y hx hy).2.1
theorem and_u64 (x y : Nat) (hx : x < 18446744073709551616) (hy : y < 18446744073709551616) : bitz .and .u64 (x : Int) (y : Int) = ((x &&& y : Nat) : Int) := (bitz_nat .or .u64 rfl x y hx hy).1
theorem xor_u64 (x y : Nat) (hx : x < 18446744073709551616) (hy : y < 18446744073709551616) : bitz .xor .u64 (x : Int) (y : Int) = ((x ^^^ y : Nat) : Int) := (bitz_nat .or .u64 rfl x y hx hy).2.2
/-- High digits, or low ones. -/
theorem or_low (i x y : Nat) (hy : y < 2 ^ i) : x * 2 ^ i ||| y = x * 2 ^ i + y := by
  rw [Nat.mul_comm, Nat.two_pow_add_eq_or_of_lt hy]
theorem and_low (i x : Nat) : x &&& (2 ^ i - 1) = x % 2 ^ i := Nat.and_two_pow_sub_one_eq_mod x i
theorem and63 (x : Nat) : x &&& 63 = x % 64 := and_low 6 x
theorem and255 (x : Nat) : x &&& 255 = x % 256 := and_low 8 x
theorem or_256 (x y : Nat) (hy : y < 256) : x * 256 ||| y = x * 256 + y := or_low 8 x y hy
theorem zero_or (y : Nat) : 0 ||| y = y := Nat.zero_or y
theorem mul_nat (x y : Nat) : (x : Int) * (y : Int) = ((x * y : Nat) : Int) := by push_cast; rfl
theorem div_nat (x y : Nat) : (x : Int) / (y : Int) = ((x / y : Nat) : Int) := by push_cast; rfl
theorem and63_bound (x : Int) : 0 ≤ bitz .and .u32 x 63 ∧ bitz .and .u32 x 63 < 64 := by
  have h : bitz .and .u32 x 63 = (((BitVec.ofInt IntKind.u32.bits x).toNat % 64 : Nat) : Int) := by
    show IntKind.u32.wrap ((BitVec.ofInt IntKind.u32.bits x &&& BitVec.ofInt IntKind.u32.bits 63).toNat : Int) = _
    rw [BitVec.toNat_and]
    have e : (BitVec.ofInt IntKind.u32.bits 63).toNat = 63 := by decide
    rw [e, and63, wrap_u32_nat]
    rw [Nat.mod_eq_of_lt (by omega)]
  rw [h]; omega
theorem and63_lt (x : Int) : (bitz .and .u32 x 63).toNat < 64 := by
  have := and63_bound x
  omega
/-! Strings as rows of bytes. -/
theorem ext_list (s : ByteArray) (a b : Nat) : (s.extract a b).data.toList = (s.data.toList.take b).drop a := by
  rw [ByteArray.data_extract, Array.toList_extract]
  simp [List.drop_take]
theorem ext_size (s : ByteArray) (a b : Nat) : (s.extract a b).size = min b s.size - a := ByteArray.size_extract
theorem app_list (s t : ByteArray) : (s ++ t).data.toList = s.data.toList ++ t.data.toList := ByteArray.toList_data_append
theorem app_size (s t : ByteArray) : (s ++ t).size = s.size + t.size := ByteArray.size_append
theorem one_size (c : UInt8) : (ByteArray.mk #[c]).size = 1 := rfl
theorem list_size (s : ByteArray) : s.data.toList.length = s.size := by rw [Array.length_toList]; rfl
end Go.Proofs.Ytekgjjanikicnaa.Sx
