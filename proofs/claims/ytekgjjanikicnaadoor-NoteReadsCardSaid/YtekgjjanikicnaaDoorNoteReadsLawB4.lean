/- Lemmas of this proof, part 4: 12 texts joined. -/
import Derived.Test.YtekgjjanikicnaaDoorNoteReadsLawB3
import Derived.Lib.Strings
import Derived.Lib.Bytealg
import Derived.Lib.Slices
import Derived.Lib.Walk
namespace Go.Proofs.YtekgjjanikicnaaDoor.Sx
open Go
set_option linter.unusedVariables false

theorem bv_lt (c : UInt8) : c.toNat < 256 := c.toNat_lt
theorem wrap_u8_nat (n : Nat) : IntKind.u8.wrap (n : Int) = ((n % 256 : Nat) : Int) := by
  simp [IntKind.wrap, IntKind.signed, IntKind.bits]
theorem wrap_u32_nat (n : Nat) : IntKind.u32.wrap (n : Int) = ((n % 4294967296 : Nat) : Int) := by
  simp [IntKind.wrap, IntKind.signed, IntKind.bits]
theorem wrap_u64_nat (n : Nat) : IntKind.u64.wrap (n : Int) = ((n % 18446744073709551616 : Nat) : Int) := by
  simp [IntKind.wrap, IntKind.signed, IntKind.bits]
theorem bitz_nat (op : BinOp) (kd : IntKind) (hs : kd.signed = false) (x y : Nat) (hx : x < 2 ^ kd.bits) (hy : y < 2 ^ kd.bits) :
    bitz .and kd x y = ((x &&& y : Nat) : Int) ∧ bitz .or kd x y = ((x ||| y : Nat) : Int) ∧ bitz .xor kd x y = ((x ^^^ y : Nat) : Int) := by
  have wr : ∀ z : Nat, z < 2 ^ kd.bits → kd.wrap (z : Int) = z := by
    intro z hz
    cases kd <;> simp [IntKind.wrap, IntKind.signed, IntKind.bits] at hs hz ⊢ <;> omega
  have ex : (BitVec.ofInt kd.bits (x : Int)).toNat = x := by simp [Nat.mod_eq_of_lt hx]
  have ey : (BitVec.ofInt kd.bits (y : Int)).toNat = y := by simp [Nat.mod_eq_of_lt hy]
  refine ⟨?_, ?_, ?_⟩
  · simp only [bitz, BitVec.toNat_and, ex, ey]; exact wr _ (Nat.and_lt_two_pow _ hy)
  · simp only [bitz, BitVec.toNat_or, ex, ey]; exact wr _ (Nat.or_lt_two_pow hx hy)
  · simp only [bitz, BitVec.toNat_xor, ex, ey]; exact wr _ (Nat.xor_lt_two_pow hx hy)
theorem or_u32 (x y : Nat) (hx : x < 4294967296) (hy : y < 4294967296) : bitz .or .u32 (x : Int) (y : Int) = ((x ||| y : Nat) : Int) := (bitz_nat .or .u32 rfl x y hx hy).2.1
theorem and_u32 (x y : Nat) (hx : x < 4294967296) (hy : y < 4294967296) : bitz .and .u32 (x : Int) (y : Int) = ((x &&& y : Nat) : Int) := (bitz_nat .or .u32 rfl x y hx hy).1
theorem xor_u32 (x y : Nat) (hx : x < 4294967296) (hy : y < 4294967296) : bitz .xor .u32 (x : Int) (y : Int) = ((x ^^^ y : Nat) : Int) := (bitz_nat .or .u32 rfl x y hx hy).2.2
theorem or_u8 (x y : Nat) (hx : x < 256) (hy : y < 256) : bitz .or .u8 (x : Int) (y : Int) = ((x ||| y : Nat) : Int) := (bitz_nat .or .u8 rfl x y hx hy).2.1
theorem and_u8 (x y : Nat) (hx : x < 256) (hy : y < 256) : bitz .and .u8 (x : Int) (y : Int) = ((x &&& y : Nat) : Int) := (bitz_nat .or .u8 rfl x y hx hy).1
theorem or_u64 (x y : Nat) (hx : x < 18446744073709551616) (hy : y < 18446744073709551616) : bitz .or .u64 (x : Int) (y : Int) = ((x ||| y : Nat) : Int) := (bitz_nat .or .u64 rfl x y hx hy).2.1
theorem and_u64 (x y : Nat) (hx : x < 18446744073709551616) (hy : y < 18446744073709551616) : bitz .and .u64 (x : Int) (y : Int) = ((x &&& y : Nat) : Int) := (bitz_nat .or .u64 rfl x y hx hy).1
theorem xor_u64 (x y : Nat) (hx : x < 18446744073709551616) (hy : y < 18446744073709551616) : bitz .xor .u64 (x : Int) (y : Int) = ((x ^^^ y : Nat) : Int) := (bitz_nat .or .u64 rfl x y hx hy).2.2
/-- High digits, or low ones. -/
theorem or_low (i x y : Nat) (hy : y < 2 ^ i) : x * 2 ^ i ||| y = x * 2 ^ i + y := by
  rw [Nat.mul_comm, Nat.two_pow_add_eq_or_of_lt hy]
theorem and_low (i x : Nat) : x &&& (2 ^ i - 1) = x % 2 ^ i := Nat.and_two_pow_sub_one_eq_mod x i
theorem and63 (x : Nat) : x &&& 63 = x % 64 := and_low 6 x
theorem and255 (x : Nat) : x &&& 255 = x % 256 := and_low 8 x
theorem or_256 (x y : Nat) (hy : y < 256) : x * 256 ||| y = x * 256 + y := or_low 8 x y hy
theorem zero_or (y : Nat) : 0 ||| y = y := Nat.zero_or y
theorem mul_nat (x y : Nat) : (x : Int) * (y : Int) = ((x * y : Nat) : Int) := by push_cast; rfl
theorem div_nat (x y : Nat) : (x : Int) / (y : Int) = ((x / y : Nat) : Int) := by push_cast; rfl
theorem and63_bound (x : Int) : 0 ≤ bitz .and .u32 x 63 ∧ bitz .and .u32 x 63 < 64 := by
  have h : bitz .and .u32 x 63 = (((BitVec.ofInt IntKind.u32.bits x).toNat % 64 : Nat) : Int) := by
    show IntKind.u32.wrap ((BitVec.ofInt IntKind.u32.bits x &&& BitVec.ofInt IntKind.u32.bits 63).toNat : Int) = _
    rw [BitVec.toNat_and]
    have e : (BitVec.ofInt IntKind.u32.bits 63).toNat = 63 := by decide
    rw [e, and63, wrap_u32_nat]
    rw [Nat.mod_eq_of_lt (by omega)]
  rw [h]; omega
theorem and63_lt (x : Int) : (bitz .and .u32 x 63).toNat < 64 := by
  have := and63_bound x
  omega
/-! Strings as rows of bytes. -/
theorem ext_list (s : ByteArray) (a b : Nat) : (s.extract a b).data.toList = (s.data.toList.take b).drop a := by
  rw [ByteArray.data_extract, Array.toList_extract]
  simp [List.drop_take]
theorem ext_size (s : ByteArray) (a b : Nat) : (s.extract a b).size = min b s.size - a := ByteArray.size_extract
theorem app_list (s t : ByteArray) : (s ++ t).data.toList = s.data.toList ++ t.data.toList := ByteArray.toList_data_append
theorem app_size (s t : ByteArray) : (s ++ t).size = s.size + t.size := ByteArray.size_append
theorem one_size (c : UInt8) : (ByteArray.mk #[c]).size = 1 := rfl
theorem list_size (s : ByteArray) : s.data.toList.length = s.size := by rw [Array.length_toList]; rfl
end Go.Proofs.YtekgjjanikicnaaDoor.Sx

namespace Go.Proofs.YtekgjjanikicnaaDoor.Sx
open Go
set_option maxRecDepth 100000
set_option linter.unusedSimpArgs false
set_option linter.unusedVariables false

abbrev signsB : ByteArray := ⟨#[65, 66, 67, 68, 69, 70, 71, 72, 73, 74, 75, 76, 77, 78, 79, 80, 81, 82, 83, 84, 85, 86, 87, 88, 89, 90, 97, 98, 99, 100, 101, 102, 103, 104, 105, 106, 107, 108, 109, 110, 111, 112, 113, 114, 115, 116, 117, 118, 119, 120, 121, 122, 48, 49, 50, 51, 52, 53, 54, 55, 56, 57, 43, 47]⟩
/-- The sign for six bits. -/
def sgn6 (n : Nat) : UInt8 := sbyte signsB n
def enc : List UInt8 → List UInt8
  | a :: b :: c :: r => sgn6 (a.toNat / 4) :: sgn6 (a.toNat % 4 * 16 + b.toNat / 16) :: sgn6 (b.toNat % 16 * 4 + c.toNat / 64) :: sgn6 (c.toNat % 64) :: enc r
  | [a, b] => [sgn6 (a.toNat / 4), sgn6 (a.toNat % 4 * 16 + b.toNat / 16), sgn6 (b.toNat % 16 * 4), 61]
  | [a] => [sgn6 (a.toNat / 4), sgn6 (a.toNat % 4 * 16), 61, 61]
  | [] => []
theorem acc0 (a : UInt8) : bitz .or .u32 ((0 : Nat) : Int) (IntKind.u32.wrap (a.toNat : Int)) = (a.toNat : Int) := by
  have := bv_lt a
  rw [wrap_u32_nat, Nat.mod_eq_of_lt (by omega), or_u32 _ _ (by omega) (by omega), Nat.zero_or]
theorem shl1 (x : Nat) (hx : x < 16777216) : IntKind.u32.wrap ((x : Int) * ((256 : Nat) : Int)) = ((x * 256 : Nat) : Int) := by
  rw [mul_nat, wrap_u32_nat, Nat.mod_eq_of_lt (by omega)]
theorem acc1 (x : Nat) (b : UInt8) (hx : x < 16777216) : bitz .or .u32 (IntKind.u32.wrap ((x : Int) * ((256 : Nat) : Int))) (IntKind.u32.wrap (b.toNat : Int)) = ((x * 256 + b.toNat : Nat) : Int) := by
  have := bv_lt b
  rw [shl1 x hx, wrap_u32_nat, Nat.mod_eq_of_lt (a := b.toNat) (by omega), or_u32 _ _ (by omega) (by omega), or_256 _ _ (by omega)]
theorem sgn_at (x k : Nat) (hx : x < 4294967296) : sbyte signsB (bitz .and .u32 ((x : Int) / (k : Int)) 63).toNat = sgn6 (x / k % 64) := by
  have h1 : x / k < 4294967296 := Nat.lt_of_le_of_lt (Nat.div_le_self _ _) hx
  have h2 := and_u32 (x / k) 63 h1 (by decide)
  rw [div_nat]
  have e : ((63 : Nat) : Int) = 63 := rfl
  rw [e] at h2
  rw [h2, and63]
  rfl
structure EncS where
  A : Option Addr
  n : Nat
  cap : Nat
  rest : List UInt8
  out : List UInt8
theorem enc_length : ∀ bs, (enc bs).length = (bs.length + 2) / 3 * 4
  | a :: b :: c :: r => by simp only [enc, List.length_cons, enc_length r]; omega
  | [a, b] => by simp [enc]
  | [a] => by simp [enc]
  | [] => by simp [enc]
theorem tEncode (fx : List Fact) (A : Option Addr) (cap : Nat) (bs : List UInt8) (hb : bs.length ≤ 1000000000) (hc : bs.length ≤ cap) (hB : BytesAt fx A bs) :
    Tri Tryd.prog 80 [.v (.slice A bs.length cap)] [] 0 fx (Ret 0 (.v (.string ⟨(enc bs).toArray⟩)) [] 0 []) := by
  have hlen := enc_length bs
  refine Tri.of_code tok Tryd.func80 rfl rfl rfl (by decide) rfl (Nat.le_of_ble_eq_true rfl) ?_
  conv => whnf
  refine loop_fold tok (α := EncS) (fun s => match s with | ⟨A, n, cap, rest, out⟩ => ⟨[(0, .v (.slice A n cap)), (2, .v (.string ByteArray.empty)), (3, .p 0 0)], [(0, .abs (bldA out))], 1, fx⟩)
    (fun s => s.out ++ enc s.rest = enc bs ∧ s.n = s.rest.length ∧ s.n ≤ s.cap ∧ BytesAt fx s.A s.rest) (fun s => s.rest.length) ⟨A, bs.length, cap, bs, []⟩ [0] [(0, .abs (bldA []))] ⟨rfl, rfl, hc, hB⟩ ⟨bld_zero (List.mem_singleton.2 rfl), rfl, ?_, ⟨OSub.ren rfl rfl, trivial⟩, fun f hf => hf⟩ ?_
  · exact ⟨fun _ _ _ => rfl, fun _ _ _ => rfl, SEq.ren rfl rfl, trivial⟩
  rintro ⟨A, n, cap, rest, out⟩ ⟨h1, h2, h3, h4⟩
  simp only at h1 h2 h3 h4
  have hout := congrArg List.length h1
  rw [List.length_append, enc_length, enc_length] at hout
  rcases rest with _ | ⟨a, rest⟩
  · obtain rfl : n = 0 := h2
    conv => whnf
    repeat' ((first | refine And.intro (by repeat' first | exact trivial | refine And.intro rfl ?_) (And.intro (by first | exact fun _ h => h | exact fun _ => List.mem_cons_of_mem _ | exact fun _ => List.mem_append_right _) ?_) | (refine And.intro (fun h => ?_) (fun h => ?_) <;> (try simp only [n1, n2, n3, n4, n5, n6] at h) <;> first | (exfalso; omega) | (cases h; done) | skip) | refine And.intro (by omega) ?_ | refine Exists.intro _ (And.intro (by first | exact And.intro rfl rfl | exact Pl.den (by repeat constructor) | with_reducible rfl | exact cast_succ _ | assumption | exact (Int.toNat_of_nonneg (by omega)).symm | rfl) ?_) | refine hD _ _ ?_ | refine hL _ _ ?_ | (intro h; (try simp only [n1, n2, n3, n4, n5, n6] at h); first | (exfalso; omega) | (cases h; done) | skip)) <;> (conv => whnf))
    refine Tri.use (tString out (by simp at hout; omega)).one [0] rfl (args_ren rfl rfl) ⟨OSub.ren rfl rfl, trivial⟩ (fun f hf => by first | exact hf | cases hf | simp_all) (fun u hu => ?_)
    conv => whnf
    repeat' ((first | refine And.intro (by repeat' first | exact trivial | refine And.intro rfl ?_) (And.intro (by first | exact fun _ h => h | exact fun _ => List.mem_cons_of_mem _ | exact fun _ => List.mem_append_right _) ?_) | (refine And.intro (fun h => ?_) (fun h => ?_) <;> (try simp only [n1, n2, n3, n4, n5, n6] at h) <;> first | (exfalso; omega) | (cases h; done) | skip) | refine And.intro (by omega) ?_ | refine Exists.intro _ (And.intro (by first | exact And.intro rfl rfl | exact Pl.den (by repeat constructor) | with_reducible rfl | exact cast_succ _ | assumption | exact (Int.toNat_of_nonneg (by omega)).symm | rfl) ?_) | refine hD _ _ ?_ | refine hL _ _ ?_ | (intro h; (try simp only [n1, n2, n3, n4, n5, n6] at h); first | (exfalso; omega) | (cases h; done) | skip)) <;> (conv => whnf))
    simp only [enc, List.append_nil] at h1
    refine Ret.none rfl (fun ρ => by rw [h1]; rfl) (fun _ h => nomatch h)
  obtain ⟨ad, rfl⟩ : ∃ ad, A = some ad := by
    cases A with
    | none => exact absurd (h4.1 rfl) (by simp)
    | some ad => exact ⟨ad, rfl⟩
  have e0 := h4.2 ad rfl 0 a rfl
  rcases rest with _ | ⟨b, rest⟩
  · obtain rfl : n = 1 := h2
    conv => whnf
    repeat' ((first | refine And.intro (by repeat' first | exact trivial | refine And.intro rfl ?_) (And.intro (by first | exact fun _ h => h | exact fun _ => List.mem_cons_of_mem _ | exact fun _ => List.mem_append_right _) ?_) | (refine And.intro (fun h => ?_) (fun h => ?_) <;> (try simp only [n1, n2, n3, n4, n5, n6] at h) <;> first | (exfalso; omega) | (cases h; done) | skip) | refine And.intro (by omega) ?_ | refine Exists.intro _ (And.intro (by first | exact And.intro rfl rfl | exact Pl.den (by repeat constructor) | with_reducible rfl | exact cast_succ _ | assumption | exact (Int.toNat_of_nonneg (by omega)).symm | rfl) ?_) | refine hD _ _ ?_ | refine hL _ _ ?_ | (intro h; (try simp only [n1, n2, n3, n4, n5, n6] at h); first | (exfalso; omega) | (cases h; done) | skip)) <;> (conv => whnf))
    refine loop_rounds 4 (round_next tok ?_)
    conv => whnf
    repeat' ((first | refine And.intro (by repeat' first | exact trivial | refine And.intro rfl ?_) (And.intro (by first | exact fun _ h => h | exact fun _ => List.mem_cons_of_mem _ | exact fun _ => List.mem_append_right _) ?_) | (refine And.intro (fun h => ?_) (fun h => ?_) <;> (try simp only [n1, n2, n3, n4, n5, n6] at h) <;> first | (exfalso; omega) | (cases h; done) | skip) | refine And.intro (by omega) ?_ | refine Exists.intro _ (And.intro (by first | exact And.intro rfl rfl | exact Pl.den (by repeat constructor) | with_reducible rfl | exact cast_succ _ | assumption | exact (Int.toNat_of_nonneg (by omega)).symm | rfl) ?_) | refine hD _ _ ?_ | refine hL _ _ ?_ | (intro h; (try simp only [n1, n2, n3, n4, n5, n6] at h); first | (exfalso; omega) | (cases h; done) | skip)) <;> (conv => whnf))
    refine round_next tok ?_
    conv => whnf
    repeat' ((first | refine And.intro (by repeat' first | exact trivial | refine And.intro rfl ?_) (And.intro (by first | exact fun _ h => h | exact fun _ => List.mem_cons_of_mem _ | exact fun _ => List.mem_append_right _) ?_) | (refine And.intro (fun h => ?_) (fun h => ?_) <;> (try simp only [n1, n2, n3, n4, n5, n6] at h) <;> first | (exfalso; omega) | (cases h; done) | skip) | refine And.intro (by omega) ?_ | refine Exists.intro _ (And.intro (by first | exact And.intro rfl rfl | exact Pl.den (by repeat constructor) | with_reducible rfl | exact cast_succ _ | assumption | exact (Int.toNat_of_nonneg (by omega)).symm | rfl) ?_) | refine hD _ _ ?_ | refine hL _ _ ?_ | (intro h; (try simp only [n1, n2, n3, n4, n5, n6] at h); first | (exfalso; omega) | (cases h; done) | skip)) <;> (conv => whnf))
    refine round_next tok ?_
    conv => whnf
    repeat' ((first | refine And.intro (by repeat' first | exact trivial | refine And.intro rfl ?_) (And.intro (by first | exact fun _ h => h | exact fun _ => List.mem_cons_of_mem _ | exact fun _ => List.mem_append_right _) ?_) | (refine And.intro (fun h => ?_) (fun h => ?_) <;> (try simp only [n1, n2, n3, n4, n5, n6] at h) <;> first | (exfalso; omega) | (cases h; done) | skip) | refine And.intro (by omega) ?_ | refine Exists.intro _ (And.intro (by first | exact And.intro rfl rfl | exact Pl.den (by repeat constructor) | with_reducible rfl | exact cast_succ _ | assumption | exact (Int.toNat_of_nonneg (by omega)).symm | rfl) ?_) | refine hD _ _ ?_ | refine hL _ _ ?_ | (intro h; (try simp only [n1, n2, n3, n4, n5, n6] at h); first | (exfalso; omega) | (cases h; done) | skip)) <;> (conv => whnf))
    refine round_next tok ?_
    conv => whnf
    repeat' ((first | refine And.intro (by repeat' first | exact trivial | refine And.intro rfl ?_) (And.intro (by first | exact fun _ h => h | exact fun _ => List.mem_cons_of_mem _ | exact fun _ => List.mem_append_right _) ?_) | (refine And.intro (fun h => ?_) (fun h => ?_) <;> (try simp only [n1, n2, n3, n4, n5, n6] at h) <;> first | (exfalso; omega) | (cases h; done) | skip) | refine And.intro (by omega) ?_ | refine Exists.intro _ (And.intro (by first | exact And.intro rfl rfl | exact Pl.den (by repeat constructor) | with_reducible rfl | exact cast_succ _ | assumption | exact (Int.toNat_of_nonneg (by omega)).symm | rfl) ?_) | refine hD _ _ ?_ | refine hL _ _ ?_ | (intro h; (try simp only [n1, n2, n3, n4, n5, n6] at h); first | (exfalso; omega) | (cases h; done) | skip)) <;> (conv => whnf))
    refine loop_rounds 5 (round_next tok ?_)
    conv => whnf
    repeat' ((first | (refine Exists.intro _ (And.intro (Int.toNat_of_nonneg (and63_bound _).1).symm (And.intro (and63_lt _) ?_))) | refine And.intro (by repeat' first | exact trivial | refine And.intro rfl ?_) (And.intro (by first | exact fun _ h => h | exact fun _ => List.mem_cons_of_mem _ | exact fun _ => List.mem_append_right _) ?_) | (refine And.intro (fun h => ?_) (fun h => ?_) <;> (try simp only [n1, n2, n3, n4, n5, n6] at h) <;> first | (exfalso; omega) | (cases h; done) | skip) | refine And.intro (by omega) ?_ | refine Exists.intro _ (And.intro (by first | exact And.intro rfl rfl | exact Pl.den (by repeat constructor) | with_reducible rfl | exact cast_succ _ | assumption | exact (Int.toNat_of_nonneg (by omega)).symm | rfl) ?_) | refine hD _ _ ?_ | refine hL _ _ ?_ | (intro h; (try simp only [n1, n2, n3, n4, n5, n6] at h); first | (exfalso; omega) | (cases h; done) | skip)) <;> (conv => whnf))
    refine Tri.use (tWriteByte _ _ (by simp at hout ⊢; omega)) [0] rfl (args_ren rfl rfl) ⟨OSub.ren rfl rfl, trivial⟩ (fun f hf => by first | exact hf | cases hf | simp_all) (fun u hu => ?_)
    conv => whnf
    repeat' ((first | refine And.intro (by repeat' first | exact trivial | refine And.intro rfl ?_) (And.intro (by first | exact fun _ h => h | exact fun _ => List.mem_cons_of_mem _ | exact fun _ => List.mem_append_right _) ?_) | (refine And.intro (fun h => ?_) (fun h => ?_) <;> (try simp only [n1, n2, n3, n4, n5, n6] at h) <;> first | (exfalso; omega) | (cases h; done) | skip) | refine And.intro (by omega) ?_ | refine Exists.intro _ (And.intro (by first | exact And.intro rfl rfl | exact Pl.den (by repeat constructor) | with_reducible rfl | exact cast_succ _ | assumption | exact (Int.toNat_of_nonneg (by omega)).symm | rfl) ?_) | refine hD _ _ ?_ | refine hL _ _ ?_ | (intro h; (try simp only [n1, n2, n3, n4, n5, n6] at h); first | (exfalso; omega) | (cases h; done) | skip)) <;> (conv => whnf))
    refine round_next tok ?_
    conv => whnf
    repeat' ((first | (refine Exists.intro _ (And.intro (Int.toNat_of_nonneg (and63_bound _).1).symm (And.intro (and63_lt _) ?_))) | refine And.intro (by repeat' first | exact trivial | refine And.intro rfl ?_) (And.intro (by first | exact fun _ h => h | exact fun _ => List.mem_cons_of_mem _ | exact fun _ => List.mem_append_right _) ?_) | (refine And.intro (fun h => ?_) (fun h => ?_) <;> (try simp only [n1, n2, n3, n4, n5, n6] at h) <;> first | (exfalso; omega) | (cases h; done) | skip) | refine And.intro (by omega) ?_ | refine Exists.intro _ (And.intro (by first | exact And.intro rfl rfl | exact Pl.den (by repeat constructor) | with_reducible rfl | exact cast_succ _ | assumption | exact (Int.toNat_of_nonneg (by omega)).symm | rfl) ?_) | refine hD _ _ ?_ | refine hL _ _ ?_ | (intro h; (try simp only [n1, n2, n3, n4, n5, n6] at h); first | (exfalso; omega) | (cases h; done) | skip)) <;> (conv => whnf))
    refine Tri.use (tWriteByte _ _ (by simp at hout ⊢; omega)) [0] rfl (args_ren rfl rfl) ⟨OSub.ren rfl rfl, trivial⟩ (fun f hf => by first | exact hf | cases hf | simp_all) (fun u hu => ?_)
    conv => whnf
    repeat' ((first | refine And.intro (by repeat' first | exact trivial | refine And.intro rfl ?_) (And.intro (by first | exact fun _ h => h | exact fun _ => List.mem_cons_of_mem _ | exact fun _ => List.mem_append_right _) ?_) | (refine And.intro (fun h => ?_) (fun h => ?_) <;> (try simp only [n1, n2, n3, n4, n5, n6] at h) <;> first | (exfalso; omega) | (cases h; done) | skip) | refine And.intro (by omega) ?_ | refine Exists.intro _ (And.intro (by first | exact And.intro rfl rfl | exact Pl.den (by repeat constructor) | with_reducible rfl | exact cast_succ _ | assumption | exact (Int.toNat_of_nonneg (by omega)).symm | rfl) ?_) | refine hD _ _ ?_ | refine hL _ _ ?_ | (intro h; (try simp only [n1, n2, n3, n4, n5, n6] at h); first | (exfalso; omega) | (cases h; done) | skip)) <;> (conv => whnf))
    refine round_next tok ?_
    conv => whnf
    repeat' ((first | (refine Exists.intro _ (And.intro (Int.toNat_of_nonneg (and63_bound _).1).symm (And.intro (and63_lt _) ?_))) | refine And.intro (by repeat' first | exact trivial | refine And.intro rfl ?_) (And.intro (by first | exact fun _ h => h | exact fun _ => List.mem_cons_of_mem _ | exact fun _ => List.mem_append_right _) ?_) | (refine And.intro (fun h => ?_) (fun h => ?_) <;> (try simp only [n1, n2, n3, n4, n5, n6] at h) <;> first | (exfalso; omega) | (cases h; done) | skip) | refine And.intro (by omega) ?_ | refine Exists.intro _ (And.intro (by first | exact And.intro rfl rfl | exact Pl.den (by repeat constructor) | with_reducible rfl | exact cast_succ _ | assumption | exact (Int.toNat_of_nonneg (by omega)).symm | rfl) ?_) | refine hD _ _ ?_ | refine hL _ _ ?_ | (intro h; (try simp only [n1, n2, n3, n4, n5, n6] at h); first | (exfalso; omega) | (cases h; done) | skip)) <;> (conv => whnf))
    refine Tri.use (tWriteByte _ 61 (by simp at hout ⊢; omega)) [0] rfl (args_ren rfl rfl) ⟨OSub.ren rfl rfl, trivial⟩ (fun f hf => by first | exact hf | cases hf | simp_all) (fun u hu => ?_)
    conv => whnf
    repeat' ((first | refine And.intro (by repeat' first | exact trivial | refine And.intro rfl ?_) (And.intro (by first | exact fun _ h => h | exact fun _ => List.mem_cons_of_mem _ | exact fun _ => List.mem_append_right _) ?_) | (refine And.intro (fun h => ?_) (fun h => ?_) <;> (try simp only [n1, n2, n3, n4, n5, n6] at h) <;> first | (exfalso; omega) | (cases h; done) | skip) | refine And.intro (by omega) ?_ | refine Exists.intro _ (And.intro (by first | exact And.intro rfl rfl | exact Pl.den (by repeat constructor) | with_reducible rfl | exact cast_succ _ | assumption | exact (Int.toNat_of_nonneg (by omega)).symm | rfl) ?_) | refine hD _ _ ?_ | refine hL _ _ ?_ | (intro h; (try simp only [n1, n2, n3, n4, n5, n6] at h); first | (exfalso; omega) | (cases h; done) | skip)) <;> (conv => whnf))
    refine round_next tok ?_
    conv => whnf
    repeat' ((first | (refine Exists.intro _ (And.intro (Int.toNat_of_nonneg (and63_bound _).1).symm (And.intro (and63_lt _) ?_))) | refine And.intro (by repeat' first | exact trivial | refine And.intro rfl ?_) (And.intro (by first | exact fun _ h => h | exact fun _ => List.mem_cons_of_mem _ | exact fun _ => List.mem_append_right _) ?_) | (refine And.intro (fun h => ?_) (fun h => ?_) <;> (try simp only [n1, n2, n3, n4, n5, n6] at h) <;> first | (exfalso; omega) | (cases h; done) | skip) | refine And.intro (by omega) ?_ | refine Exists.intro _ (And.intro (by first | exact And.intro rfl rfl | exact Pl.den (by repeat constructor) | with_reducible rfl | exact cast_succ _ | assumption | exact (Int.toNat_of_nonneg (by omega)).symm | rfl) ?_) | refine hD _ _ ?_ | refine hL _ _ ?_ | (intro h; (try simp only [n1, n2, n3, n4, n5, n6] at h); first | (exfalso; omega) | (cases h; done) | skip)) <;> (conv => whnf))
    refine Tri.use (tWriteByte _ 61 (by simp at hout ⊢; omega)) [0] rfl (args_ren rfl rfl) ⟨OSub.ren rfl rfl, trivial⟩ (fun f hf => by first | exact hf | cases hf | simp_all) (fun u hu => ?_)
    conv => whnf
    repeat' ((first | refine And.intro (by repeat' first | exact trivial | refine And.intro rfl ?_) (And.intro (by first | exact fun _ h => h | exact fun _ => List.mem_cons_of_mem _ | exact fun _ => List.mem_append_right _) ?_) | (refine And.intro (fun h => ?_) (fun h => ?_) <;> (try simp only [n1, n2, n3, n4, n5, n6] at h) <;> first | (exfalso; omega) | (cases h; done) | skip) | refine And.intro (by omega) ?_ | refine Exists.intro _ (And.intro (by first | exact And.intro rfl rfl | exact Pl.den (by repeat constructor) | with_reducible rfl | exact cast_succ _ | assumption | exact (Int.toNat_of_nonneg (by omega)).symm | rfl) ?_) | refine hD _ _ ?_ | refine hL _ _ ?_ | (intro h; (try simp only [n1, n2, n3, n4, n5, n6] at h); first | (exfalso; omega) | (cases h; done) | skip)) <;> (conv => whnf))
    refine round_next tok ?_
    conv => whnf
    repeat' ((first | refine And.intro (by repeat' first | exact trivial | refine And.intro rfl ?_) (And.intro (by first | exact fun _ h => h | exact fun _ => List.mem_cons_of_mem _ | exact fun _ => List.mem_append_right _) ?_) | (refine And.intro (fun h => ?_) (fun h => ?_) <;> (try simp only [n1, n2, n3, n4, n5, n6] at h) <;> first | (exfalso; omega) | (cases h; done) | skip) | refine And.intro (by omega) ?_ | refine Exists.intro _ (And.intro (by first | exact And.intro rfl rfl | exact Pl.den (by repeat constructor) | with_reducible rfl | exact cast_succ _ | assumption | exact (Int.toNat_of_nonneg (by omega)).symm | rfl) ?_) | refine hD _ _ ?_ | refine hL _ _ ?_ | (intro h; (try simp only [n1, n2, n3, n4, n5, n6] at h); first | (exfalso; omega) | (cases h; done) | skip)) <;> (conv => whnf))
    have := bv_lt a
    refine ⟨⟨some (if cap = 1 then ad else ad.add (1 * 1)), 0, cap - 1, [], _⟩, [0], _, ⟨⟨?_, rfl, Nat.zero_le _, ⟨(fun h => nomatch h), fun _ _ j y hj => (by simp at hj)⟩⟩, by simp⟩, Fold.refl _, rfl, ⟨SEq.eq (by rfl), SEq.eq rfl, SEq.ren rfl rfl, trivial⟩, ⟨OSub.ren rfl rfl, trivial⟩, fun f hf => hf⟩
    dsimp only
    rw [acc0, shl1 _ (by omega), shl1 _ (by omega), sgn_at _ _ (by omega), sgn_at _ _ (by omega), ← h1]
    have k1 : a.toNat * 256 * 256 / 262144 % 64 = a.toNat / 4 := by omega
    have k2 : a.toNat * 256 * 256 / 4096 % 64 = a.toNat % 4 * 16 := by omega
    rw [k1, k2]
    simp [enc]
  have e1 := h4.2 ad rfl 1 b rfl
  rcases rest with _ | ⟨c, rest⟩
  · obtain rfl : n = 2 := h2
    conv => whnf
    repeat' ((first | refine And.intro (by repeat' first | exact trivial | refine And.intro rfl ?_) (And.intro (by first | exact fun _ h => h | exact fun _ => List.mem_cons_of_mem _ | exact fun _ => List.mem_append_right _) ?_) | (refine And.intro (fun h => ?_) (fun h => ?_) <;> (try simp only [n1, n2, n3, n4, n5, n6] at h) <;> first | (exfalso; omega) | (cases h; done) | skip) | refine And.intro (by omega) ?_ | refine Exists.intro _ (And.intro (by first | exact And.intro rfl rfl | exact Pl.den (by repeat constructor) | with_reducible rfl | exact cast_succ _ | assumption | exact (Int.toNat_of_nonneg (by omega)).symm | rfl) ?_) | refine hD _ _ ?_ | refine hL _ _ ?_ | (intro h; (try simp only [n1, n2, n3, n4, n5, n6] at h); first | (exfalso; omega) | (cases h; done) | skip)) <;> (conv => whnf))
    refine loop_rounds 4 (round_next tok ?_)
    conv => whnf
    repeat' ((first | refine And.intro (by repeat' first | exact trivial | refine And.intro rfl ?_) (And.intro (by first | exact fun _ h => h | exact fun _ => List.mem_cons_of_mem _ | exact fun _ => List.mem_append_right _) ?_) | (refine And.intro (fun h => ?_) (fun h => ?_) <;> (try simp only [n1, n2, n3, n4, n5, n6] at h) <;> first | (exfalso; omega) | (cases h; done) | skip) | refine And.intro (by omega) ?_ | refine Exists.intro _ (And.intro (by first | exact And.intro rfl rfl | exact Pl.den (by repeat constructor) | with_reducible rfl | exact cast_succ _ | assumption | exact (Int.toNat_of_nonneg (by omega)).symm | rfl) ?_) | refine hD _ _ ?_ | refine hL _ _ ?_ | (intro h; (try simp only [n1, n2, n3, n4, n5, n6] at h); first | (exfalso; omega) | (cases h; done) | skip)) <;> (conv => whnf))
    refine round_next tok ?_
    conv => whnf
    repeat' ((first | refine And.intro (by repeat' first | exact trivial | refine And.intro rfl ?_) (And.intro (by first | exact fun _ h => h | exact fun _ => List.mem_cons_of_mem _ | exact fun _ => List.mem_append_right _) ?_) | (refine And.intro (fun h => ?_) (fun h => ?_) <;> (try simp only [n1, n2, n3, n4, n5, n6] at h) <;> first | (exfalso; omega) | (cases h; done) | skip) | refine And.intro (by omega) ?_ | refine Exists.intro _ (And.intro (by first | exact And.intro rfl rfl | exact Pl.den (by repeat constructor) | with_reducible rfl | exact cast_succ _ | assumption | exact (Int.toNat_of_nonneg (by omega)).symm | rfl) ?_) | refine hD _ _ ?_ | refine hL _ _ ?_ | (intro h; (try simp only [n1, n2, n3, n4, n5, n6] at h); first | (exfalso; omega) | (cases h; done) | skip)) <;> (conv => whnf))
    refine round_next tok ?_
    conv => whnf
    repeat' ((first | refine And.intro (by repeat' first | exact trivial | refine And.intro rfl ?_) (And.intro (by first | exact fun _ h => h | exact fun _ => List.mem_cons_of_mem _ | exact fun _ => List.mem_append_right _) ?_) | (refine And.intro (fun h => ?_) (fun h => ?_) <;> (try simp only [n1, n2, n3, n4, n5, n6] at h) <;> first | (exfalso; omega) | (cases h; done) | skip) | refine And.intro (by omega) ?_ | refine Exists.intro _ (And.intro (by first | exact And.intro rfl rfl | exact Pl.den (by repeat constructor) | with_reducible rfl | exact cast_succ _ | assumption | exact (Int.toNat_of_nonneg (by omega)).symm | rfl) ?_) | refine hD _ _ ?_ | refine hL _ _ ?_ | (intro h; (try simp only [n1, n2, n3, n4, n5, n6] at h); first | (exfalso; omega) | (cases h; done) | skip)) <;> (conv => whnf))
    refine round_next tok ?_
    conv => whnf
    repeat' ((first | refine And.intro (by repeat' first | exact trivial | refine And.intro rfl ?_) (And.intro (by first | exact fun _ h => h | exact fun _ => List.mem_cons_of_mem _ | exact fun _ => List.mem_append_right _) ?_) | (refine And.intro (fun h => ?_) (fun h => ?_) <;> (try simp only [n1, n2, n3, n4, n5, n6] at h) <;> first | (exfalso; omega) | (cases h; done) | skip) | refine And.intro (by omega) ?_ | refine Exists.intro _ (And.intro (by first | exact And.intro rfl rfl | exact Pl.den (by repeat constructor) | with_reducible rfl | exact cast_succ _ | assumption | exact (Int.toNat_of_nonneg (by omega)).symm | rfl) ?_) | refine hD _ _ ?_ | refine hL _ _ ?_ | (intro h; (try simp only [n1, n2, n3, n4, n5, n6] at h); first | (exfalso; omega) | (cases h; done) | skip)) <;> (conv => whnf))
    refine loop_rounds 5 (round_next tok ?_)
    conv => whnf
    repeat' ((first | (refine Exists.intro _ (And.intro (Int.toNat_of_nonneg (and63_bound _).1).symm (And.intro (and63_lt _) ?_))) | refine And.intro (by repeat' first | exact trivial | refine And.intro rfl ?_) (And.intro (by first | exact fun _ h => h | exact fun _ => List.mem_cons_of_mem _ | exact fun _ => List.mem_append_right _) ?_) | (refine And.intro (fun h => ?_) (fun h => ?_) <;> (try simp only [n1, n2, n3, n4, n5, n6] at h) <;> first | (exfalso; omega) | (cases h; done) | skip) | refine And.intro (by omega) ?_ | refine Exists.intro _ (And.intro (by first | exact And.intro rfl rfl | exact Pl.den (by repeat constructor) | with_reducible rfl | exact cast_succ _ | assumption | exact (Int.toNat_of_nonneg (by omega)).symm | rfl) ?_) | refine hD _ _ ?_ | refine hL _ _ ?_ | (intro h; (try simp only [n1, n2, n3, n4, n5, n6] at h); first | (exfalso; omega) | (cases h; done) | skip)) <;> (conv => whnf))
    refine Tri.use (tWriteByte _ _ (by simp at hout ⊢; omega)) [0] rfl (args_ren rfl rfl) ⟨OSub.ren rfl rfl, trivial⟩ (fun f hf => by first | exact hf | cases hf | simp_all) (fun u hu => ?_)
    conv => whnf
    repeat' ((first | refine And.intro (by repeat' first | exact trivial | refine And.intro rfl ?_) (And.intro (by first | exact fun _ h => h | exact fun _ => List.mem_cons_of_mem _ | exact fun _ => List.mem_append_right _) ?_) | (refine And.intro (fun h => ?_) (fun h => ?_) <;> (try simp only [n1, n2, n3, n4, n5, n6] at h) <;> first | (exfalso; omega) | (cases h; done) | skip) | refine And.intro (by omega) ?_ | refine Exists.intro _ (And.intro (by first | exact And.intro rfl rfl | exact Pl.den (by repeat constructor) | with_reducible rfl | exact cast_succ _ | assumption | exact (Int.toNat_of_nonneg (by omega)).symm | rfl) ?_) | refine hD _ _ ?_ | refine hL _ _ ?_ | (intro h; (try simp only [n1, n2, n3, n4, n5, n6] at h); first | (exfalso; omega) | (cases h; done) | skip)) <;> (conv => whnf))
    refine round_next tok ?_
    conv => whnf
    repeat' ((first | (refine Exists.intro _ (And.intro (Int.toNat_of_nonneg (and63_bound _).1).symm (And.intro (and63_lt _) ?_))) | refine And.intro (by repeat' first | exact trivial | refine And.intro rfl ?_) (And.intro (by first | exact fun _ h => h | exact fun _ => List.mem_cons_of_mem _ | exact fun _ => List.mem_append_right _) ?_) | (refine And.intro (fun h => ?_) (fun h => ?_) <;> (try simp only [n1, n2, n3, n4, n5, n6] at h) <;> first | (exfalso; omega) | (cases h; done) | skip) | refine And.intro (by omega) ?_ | refine Exists.intro _ (And.intro (by first | exact And.intro rfl rfl | exact Pl.den (by repeat constructor) | with_reducible rfl | exact cast_succ _ | assumption | exact (Int.toNat_of_nonneg (by omega)).symm | rfl) ?_) | refine hD _ _ ?_ | refine hL _ _ ?_ | (intro h; (try simp only [n1, n2, n3, n4, n5, n6] at h); first | (exfalso; omega) | (cases h; done) | skip)) <;> (conv => whnf))
    refine Tri.use (tWriteByte _ _ (by simp at hout ⊢; omega)) [0] rfl (args_ren rfl rfl) ⟨OSub.ren rfl rfl, trivial⟩ (fun f hf => by first | exact hf | cases hf | simp_all) (fun u hu => ?_)
    conv => whnf
    repeat' ((first | refine And.intro (by repeat' first | exact trivial | refine And.intro rfl ?_) (And.intro (by first | exact fun _ h => h | exact fun _ => List.mem_cons_of_mem _ | exact fun _ => List.mem_append_right _) ?_) | (refine And.intro (fun h => ?_) (fun h => ?_) <;> (try simp only [n1, n2, n3, n4, n5, n6] at h) <;> first | (exfalso; omega) | (cases h; done) | skip) | refine And.intro (by omega) ?_ | refine Exists.intro _ (And.intro (by first | exact And.intro rfl rfl | exact Pl.den (by repeat constructor) | with_reducible rfl | exact cast_succ _ | assumption | exact (Int.toNat_of_nonneg (by omega)).symm | rfl) ?_) | refine hD _ _ ?_ | refine hL _ _ ?_ | (intro h; (try simp only [n1, n2, n3, n4, n5, n6] at h); first | (exfalso; omega) | (cases h; done) | skip)) <;> (conv => whnf))
    refine round_next tok ?_
    conv => whnf
    repeat' ((first | (refine Exists.intro _ (And.intro (Int.toNat_of_nonneg (and63_bound _).1).symm (And.intro (and63_lt _) ?_))) | refine And.intro (by repeat' first | exact trivial | refine And.intro rfl ?_) (And.intro (by first | exact fun _ h => h | exact fun _ => List.mem_cons_of_mem _ | exact fun _ => List.mem_append_right _) ?_) | (refine And.intro (fun h => ?_) (fun h => ?_) <;> (try simp only [n1, n2, n3, n4, n5, n6] at h) <;> first | (exfalso; omega) | (cases h; done) | skip) | refine And.intro (by omega) ?_ | refine Exists.intro _ (And.intro (by first | exact And.intro rfl rfl | exact Pl.den (by repeat constructor) | with_reducible rfl | exact cast_succ _ | assumption | exact (Int.toNat_of_nonneg (by omega)).symm | rfl) ?_) | refine hD _ _ ?_ | refine hL _ _ ?_ | (intro h; (try simp only [n1, n2, n3, n4, n5, n6] at h); first | (exfalso; omega) | (cases h; done) | skip)) <;> (conv => whnf))
    refine Tri.use (tWriteByte _ _ (by simp at hout ⊢; omega)) [0] rfl (args_ren rfl rfl) ⟨OSub.ren rfl rfl, trivial⟩ (fun f hf => by first | exact hf | cases hf | simp_all) (fun u hu => ?_)
    conv => whnf
    repeat' ((first | refine And.intro (by repeat' first | exact trivial | refine And.intro rfl ?_) (And.intro (by first | exact fun _ h => h | exact fun _ => List.mem_cons_of_mem _ | exact fun _ => List.mem_append_right _) ?_) | (refine And.intro (fun h => ?_) (fun h => ?_) <;> (try simp only [n1, n2, n3, n4, n5, n6] at h) <;> first | (exfalso; omega) | (cases h; done) | skip) | refine And.intro (by omega) ?_ | refine Exists.intro _ (And.intro (by first | exact And.intro rfl rfl | exact Pl.den (by repeat constructor) | with_reducible rfl | exact cast_succ _ | assumption | exact (Int.toNat_of_nonneg (by omega)).symm | rfl) ?_) | refine hD _ _ ?_ | refine hL _ _ ?_ | (intro h; (try simp only [n1, n2, n3, n4, n5, n6] at h); first | (exfalso; omega) | (cases h; done) | skip)) <;> (conv => whnf))
    refine round_next tok ?_
    conv => whnf
    repeat' ((first | (refine Exists.intro _ (And.intro (Int.toNat_of_nonneg (and63_bound _).1).symm (And.intro (and63_lt _) ?_))) | refine And.intro (by repeat' first | exact trivial | refine And.intro rfl ?_) (And.intro (by first | exact fun _ h => h | exact fun _ => List.mem_cons_of_mem _ | exact fun _ => List.mem_append_right _) ?_) | (refine And.intro (fun h => ?_) (fun h => ?_) <;> (try simp only [n1, n2, n3, n4, n5, n6] at h) <;> first | (exfalso; omega) | (cases h; done) | skip) | refine And.intro (by omega) ?_ | refine Exists.intro _ (And.intro (by first | exact And.intro rfl rfl | exact Pl.den (by repeat constructor) | with_reducible rfl | exact cast_succ _ | assumption | exact (Int.toNat_of_nonneg (by omega)).symm | rfl) ?_) | refine hD _ _ ?_ | refine hL _ _ ?_ | (intro h; (try simp only [n1, n2, n3, n4, n5, n6] at h); first | (exfalso; omega) | (cases h; done) | skip)) <;> (conv => whnf))
    refine Tri.use (tWriteByte _ 61 (by simp at hout ⊢; omega)) [0] rfl (args_ren rfl rfl) ⟨OSub.ren rfl rfl, trivial⟩ (fun f hf => by first | exact hf | cases hf | simp_all) (fun u hu => ?_)
    conv => whnf
    repeat' ((first | refine And.intro (by repeat' first | exact trivial | refine And.intro rfl ?_) (And.intro (by first | exact fun _ h => h | exact fun _ => List.mem_cons_of_mem _ | exact fun _ => List.mem_append_right _) ?_) | (refine And.intro (fun h => ?_) (fun h => ?_) <;> (try simp only [n1, n2, n3, n4, n5, n6] at h) <;> first | (exfalso; omega) | (cases h; done) | skip) | refine And.intro (by omega) ?_ | refine Exists.intro _ (And.intro (by first | exact And.intro rfl rfl | exact Pl.den (by repeat constructor) | with_reducible rfl | exact cast_succ _ | assumption | exact (Int.toNat_of_nonneg (by omega)).symm | rfl) ?_) | refine hD _ _ ?_ | refine hL _ _ ?_ | (intro h; (try simp only [n1, n2, n3, n4, n5, n6] at h); first | (exfalso; omega) | (cases h; done) | skip)) <;> (conv => whnf))
    refine round_next tok ?_
    conv => whnf
    repeat' ((first | refine And.intro (by repeat' first | exact trivial | refine And.intro rfl ?_) (And.intro (by first | exact fun _ h => h | exact fun _ => List.mem_cons_of_mem _ | exact fun _ => List.mem_append_right _) ?_) | (refine And.intro (fun h => ?_) (fun h => ?_) <;> (try simp only [n1, n2, n3, n4, n5, n6] at h) <;> first | (exfalso; omega) | (cases h; done) | skip) | refine And.intro (by omega) ?_ | refine Exists.intro _ (And.intro (by first | exact And.intro rfl rfl | exact Pl.den (by repeat constructor) | with_reducible rfl | exact cast_succ _ | assumption | exact (Int.toNat_of_nonneg (by omega)).symm | rfl) ?_) | refine hD _ _ ?_ | refine hL _ _ ?_ | (intro h; (try simp only [n1, n2, n3, n4, n5, n6] at h); first | (exfalso; omega) | (cases h; done) | skip)) <;> (conv => whnf))
    have := bv_lt a
    have := bv_lt b
    refine ⟨⟨some (if cap = 2 then ad else ad.add (2 * 1)), 0, cap - 2, [], _⟩, [0], _, ⟨⟨?_, rfl, Nat.zero_le _, ⟨(fun h => nomatch h), fun _ _ j y hj => (by simp at hj)⟩⟩, by simp⟩, Fold.refl _, rfl, ⟨SEq.eq (by rfl), SEq.eq rfl, SEq.ren rfl rfl, trivial⟩, ⟨OSub.ren rfl rfl, trivial⟩, fun f hf => hf⟩
    dsimp only
    rw [acc0, acc1 _ _ (by omega), shl1 _ (by omega), sgn_at _ _ (by omega), sgn_at _ _ (by omega), sgn_at _ _ (by omega), ← h1]
    have k1 : (a.toNat * 256 + b.toNat) * 256 / 262144 % 64 = a.toNat / 4 := by omega
    have k2 : (a.toNat * 256 + b.toNat) * 256 / 4096 % 64 = a.toNat % 4 * 16 + b.toNat / 16 := by omega
    have k3 : (a.toNat * 256 + b.toNat) * 256 / 64 % 64 = b.toNat % 16 * 4 := by omega
    rw [k1, k2, k3]
    simp [enc]
  have e2 := h4.2 ad rfl 2 c rfl
  obtain rfl : n = rest.length + 3 := h2
  conv => whnf
  repeat' ((first | refine And.intro (by repeat' first | exact trivial | refine And.intro rfl ?_) (And.intro (by first | exact fun _ h => h | exact fun _ => List.mem_cons_of_mem _ | exact fun _ => List.mem_append_right _) ?_) | (refine And.intro (fun h => ?_) (fun h => ?_) <;> (try simp only [n1, n2, n3, n4, n5, n6] at h) <;> first | (exfalso; omega) | (cases h; done) | skip) | refine And.intro (by omega) ?_ | refine Exists.intro _ (And.intro (by first | exact And.intro rfl rfl | exact Pl.den (by repeat constructor) | with_reducible rfl | exact cast_succ _ | assumption | exact (Int.toNat_of_nonneg (by omega)).symm | rfl) ?_) | refine hD _ _ ?_ | refine hL _ _ ?_ | (intro h; (try simp only [n1, n2, n3, n4, n5, n6] at h); first | (exfalso; omega) | (cases h; done) | skip)) <;> (conv => whnf))
  refine loop_rounds 4 (round_next tok ?_)
  conv => whnf
  repeat' ((first | refine And.intro (by repeat' first | exact trivial | refine And.intro rfl ?_) (And.intro (by first | exact fun _ h => h | exact fun _ => List.mem_cons_of_mem _ | exact fun _ => List.mem_append_right _) ?_) | (refine And.intro (fun h => ?_) (fun h => ?_) <;> (try simp only [n1, n2, n3, n4, n5, n6] at h) <;> first | (exfalso; omega) | (cases h; done) | skip) | refine And.intro (by omega) ?_ | refine Exists.intro _ (And.intro (by first | exact And.intro rfl rfl | exact Pl.den (by repeat constructor) | with_reducible rfl | exact cast_succ _ | assumption | exact (Int.toNat_of_nonneg (by omega)).symm | rfl) ?_) | refine hD _ _ ?_ | refine hL _ _ ?_ | (intro h; (try simp only [n1, n2, n3, n4, n5, n6] at h); first | (exfalso; omega) | (cases h; done) | skip)) <;> (conv => whnf))
  refine round_next tok ?_
  conv => whnf
  repeat' ((first | refine And.intro (by repeat' first | exact trivial | refine And.intro rfl ?_) (And.intro (by first | exact fun _ h => h | exact fun _ => List.mem_cons_of_mem _ | exact fun _ => List.mem_append_right _) ?_) | (refine And.intro (fun h => ?_) (fun h => ?_) <;> (try simp only [n1, n2, n3, n4, n5, n6] at h) <;> first | (exfalso; omega) | (cases h; done) | skip) | refine And.intro (by omega) ?_ | refine Exists.intro _ (And.intro (by first | exact And.intro rfl rfl | exact Pl.den (by repeat constructor) | with_reducible rfl | exact cast_succ _ | assumption | exact (Int.toNat_of_nonneg (by omega)).symm | rfl) ?_) | refine hD _ _ ?_ | refine hL _ _ ?_ | (intro h; (try simp only [n1, n2, n3, n4, n5, n6] at h); first | (exfalso; omega) | (cases h; done) | skip)) <;> (conv => whnf))
  refine round_next tok ?_
  conv => whnf
  repeat' ((first | refine And.intro (by repeat' first | exact trivial | refine And.intro rfl ?_) (And.intro (by first | exact fun _ h => h | exact fun _ => List.mem_cons_of_mem _ | exact fun _ => List.mem_append_right _) ?_) | (refine And.intro (fun h => ?_) (fun h => ?_) <;> (try simp only [n1, n2, n3, n4, n5, n6] at h) <;> first | (exfalso; omega) | (cases h; done) | skip) | refine And.intro (by omega) ?_ | refine Exists.intro _ (And.intro (by first | exact And.intro rfl rfl | exact Pl.den (by repeat constructor) | with_reducible rfl | exact cast_succ _ | assumption | exact (Int.toNat_of_nonneg (by omega)).symm | rfl) ?_) | refine hD _ _ ?_ | refine hL _ _ ?_ | (intro h; (try simp only [n1, n2, n3, n4, n5, n6] at h); first | (exfalso; omega) | (cases h; done) | skip)) <;> (conv => whnf))
  refine round_next tok ?_
  conv => whnf
  repeat' ((first | refine And.intro (by repeat' first | exact trivial | refine And.intro rfl ?_) (And.intro (by first | exact fun _ h => h | exact fun _ => List.mem_cons_of_mem _ | exact fun _ => List.mem_append_right _) ?_) | (refine And.intro (fun h => ?_) (fun h => ?_) <;> (try simp only [n1, n2, n3, n4, n5, n6] at h) <;> first | (exfalso; omega) | (cases h; done) | skip) | refine And.intro (by omega) ?_ | refine Exists.intro _ (And.intro (by first | exact And.intro rfl rfl | exact Pl.den (by repeat constructor) | with_reducible rfl | exact cast_succ _ | assumption | exact (Int.toNat_of_nonneg (by omega)).symm | rfl) ?_) | refine hD _ _ ?_ | refine hL _ _ ?_ | (intro h; (try simp only [n1, n2, n3, n4, n5, n6] at h); first | (exfalso; omega) | (cases h; done) | skip)) <;> (conv => whnf))
  refine loop_rounds 5 (round_next tok ?_)
  conv => whnf
  repeat' ((first | (refine Exists.intro _ (And.intro (Int.toNat_of_nonneg (and63_bound _).1).symm (And.intro (and63_lt _) ?_))) | refine And.intro (by repeat' first | exact trivial | refine And.intro rfl ?_) (And.intro (by first | exact fun _ h => h | exact fun _ => List.mem_cons_of_mem _ | exact fun _ => List.mem_append_right _) ?_) | (refine And.intro (fun h => ?_) (fun h => ?_) <;> (try simp only [n1, n2, n3, n4, n5, n6] at h) <;> first | (exfalso; omega) | (cases h; done) | skip) | refine And.intro (by omega) ?_ | refine Exists.intro _ (And.intro (by first | exact And.intro rfl rfl | exact Pl.den (by repeat constructor) | with_reducible rfl | exact cast_succ _ | assumption | exact (Int.toNat_of_nonneg (by omega)).symm | rfl) ?_) | refine hD _ _ ?_ | refine hL _ _ ?_ | (intro h; (try simp only [n1, n2, n3, n4, n5, n6] at h); first | (exfalso; omega) | (cases h; done) | skip)) <;> (conv => whnf))
  refine Tri.use (tWriteByte _ _ (by simp at hout ⊢; omega)) [0] rfl (args_ren rfl rfl) ⟨OSub.ren rfl rfl, trivial⟩ (fun f hf => by first | exact hf | cases hf | simp_all) (fun u hu => ?_)
  conv => whnf
  repeat' ((first | refine And.intro (by repeat' first | exact trivial | refine And.intro rfl ?_) (And.intro (by first | exact fun _ h => h | exact fun _ => List.mem_cons_of_mem _ | exact fun _ => List.mem_append_right _) ?_) | (refine And.intro (fun h => ?_) (fun h => ?_) <;> (try simp only [n1, n2, n3, n4, n5, n6] at h) <;> first | (exfalso; omega) | (cases h; done) | skip) | refine And.intro (by omega) ?_ | refine Exists.intro _ (And.intro (by first | exact And.intro rfl rfl | exact Pl.den (by repeat constructor) | with_reducible rfl | exact cast_succ _ | assumption | exact (Int.toNat_of_nonneg (by omega)).symm | rfl) ?_) | refine hD _ _ ?_ | refine hL _ _ ?_ | (intro h; (try simp only [n1, n2, n3, n4, n5, n6] at h); first | (exfalso; omega) | (cases h; done) | skip)) <;> (conv => whnf))
  refine round_next tok ?_
  conv => whnf
  repeat' ((first | (refine Exists.intro _ (And.intro (Int.toNat_of_nonneg (and63_bound _).1).symm (And.intro (and63_lt _) ?_))) | refine And.intro (by repeat' first | exact trivial | refine And.intro rfl ?_) (And.intro (by first | exact fun _ h => h | exact fun _ => List.mem_cons_of_mem _ | exact fun _ => List.mem_append_right _) ?_) | (refine And.intro (fun h => ?_) (fun h => ?_) <;> (try simp only [n1, n2, n3, n4, n5, n6] at h) <;> first | (exfalso; omega) | (cases h; done) | skip) | refine And.intro (by omega) ?_ | refine Exists.intro _ (And.intro (by first | exact And.intro rfl rfl | exact Pl.den (by repeat constructor) | with_reducible rfl | exact cast_succ _ | assumption | exact (Int.toNat_of_nonneg (by omega)).symm | rfl) ?_) | refine hD _ _ ?_ | refine hL _ _ ?_ | (intro h; (try simp only [n1, n2, n3, n4, n5, n6] at h); first | (exfalso; omega) | (cases h; done) | skip)) <;> (conv => whnf))
  refine Tri.use (tWriteByte _ _ (by simp at hout ⊢; omega)) [0] rfl (args_ren rfl rfl) ⟨OSub.ren rfl rfl, trivial⟩ (fun f hf => by first | exact hf | cases hf | simp_all) (fun u hu => ?_)
  conv => whnf
  repeat' ((first | refine And.intro (by repeat' first | exact trivial | refine And.intro rfl ?_) (And.intro (by first | exact fun _ h => h | exact fun _ => List.mem_cons_of_mem _ | exact fun _ => List.mem_append_right _) ?_) | (refine And.intro (fun h => ?_) (fun h => ?_) <;> (try simp only [n1, n2, n3, n4, n5, n6] at h) <;> first | (exfalso; omega) | (cases h; done) | skip) | refine And.intro (by omega) ?_ | refine Exists.intro _ (And.intro (by first | exact And.intro rfl rfl | exact Pl.den (by repeat constructor) | with_reducible rfl | exact cast_succ _ | assumption | exact (Int.toNat_of_nonneg (by omega)).symm | rfl) ?_) | refine hD _ _ ?_ | refine hL _ _ ?_ | (intro h; (try simp only [n1, n2, n3, n4, n5, n6] at h); first | (exfalso; omega) | (cases h; done) | skip)) <;> (conv => whnf))
  refine round_next tok ?_
  conv => whnf
  repeat' ((first | (refine Exists.intro _ (And.intro (Int.toNat_of_nonneg (and63_bound _).1).symm (And.intro (and63_lt _) ?_))) | refine And.intro (by repeat' first | exact trivial | refine And.intro rfl ?_) (And.intro (by first | exact fun _ h => h | exact fun _ => List.mem_cons_of_mem _ | exact fun _ => List.mem_append_right _) ?_) | (refine And.intro (fun h => ?_) (fun h => ?_) <;> (try simp only [n1, n2, n3, n4, n5, n6] at h) <;> first | (exfalso; omega) | (cases h; done) | skip) | refine And.intro (by omega) ?_ | refine Exists.intro _ (And.intro (by first | exact And.intro rfl rfl | exact Pl.den (by repeat constructor) | with_reducible rfl | exact cast_succ _ | assumption | exact (Int.toNat_of_nonneg (by omega)).symm | rfl) ?_) | refine hD _ _ ?_ | refine hL _ _ ?_ | (intro h; (try simp only [n1, n2, n3, n4, n5, n6] at h); first | (exfalso; omega) | (cases h; done) | skip)) <;> (conv => whnf))
  refine Tri.use (tWriteByte _ _ (by simp at hout ⊢; omega)) [0] rfl (args_ren rfl rfl) ⟨OSub.ren rfl rfl, trivial⟩ (fun f hf => by first | exact hf | cases hf | simp_all) (fun u hu => ?_)
  conv => whnf
  repeat' ((first | refine And.intro (by repeat' first | exact trivial | refine And.intro rfl ?_) (And.intro (by first | exact fun _ h => h | exact fun _ => List.mem_cons_of_mem _ | exact fun _ => List.mem_append_right _) ?_) | (refine And.intro (fun h => ?_) (fun h => ?_) <;> (try simp only [n1, n2, n3, n4, n5, n6] at h) <;> first | (exfalso; omega) | (cases h; done) | skip) | refine And.intro (by omega) ?_ | refine Exists.intro _ (And.intro (by first | exact And.intro rfl rfl | exact Pl.den (by repeat constructor) | with_reducible rfl | exact cast_succ _ | assumption | exact (Int.toNat_of_nonneg (by omega)).symm | rfl) ?_) | refine hD _ _ ?_ | refine hL _ _ ?_ | (intro h; (try simp only [n1, n2, n3, n4, n5, n6] at h); first | (exfalso; omega) | (cases h; done) | skip)) <;> (conv => whnf))
  refine round_next tok ?_
  conv => whnf
  repeat' ((first | (refine Exists.intro _ (And.intro (Int.toNat_of_nonneg (and63_bound _).1).symm (And.intro (and63_lt _) ?_))) | refine And.intro (by repeat' first | exact trivial | refine And.intro rfl ?_) (And.intro (by first | exact fun _ h => h | exact fun _ => List.mem_cons_of_mem _ | exact fun _ => List.mem_append_right _) ?_) | (refine And.intro (fun h => ?_) (fun h => ?_) <;> (try simp only [n1, n2, n3, n4, n5, n6] at h) <;> first | (exfalso; omega) | (cases h; done) | skip) | refine And.intro (by omega) ?_ | refine Exists.intro _ (And.intro (by first | exact And.intro rfl rfl | exact Pl.den (by repeat constructor) | with_reducible rfl | exact cast_succ _ | assumption | exact (Int.toNat_of_nonneg (by omega)).symm | rfl) ?_) | refine hD _ _ ?_ | refine hL _ _ ?_ | (intro h; (try simp only [n1, n2, n3, n4, n5, n6] at h); first | (exfalso; omega) | (cases h; done) | skip)) <;> (conv => whnf))
  refine Tri.use (tWriteByte _ _ (by simp at hout ⊢; omega)) [0] rfl (args_ren rfl rfl) ⟨OSub.ren rfl rfl, trivial⟩ (fun f hf => by first | exact hf | cases hf | simp_all) (fun u hu => ?_)
  conv => whnf
  repeat' ((first | refine And.intro (by repeat' first | exact trivial | refine And.intro rfl ?_) (And.intro (by first | exact fun _ h => h | exact fun _ => List.mem_cons_of_mem _ | exact fun _ => List.mem_append_right _) ?_) | (refine And.intro (fun h => ?_) (fun h => ?_) <;> (try simp only [n1, n2, n3, n4, n5, n6] at h) <;> first | (exfalso; omega) | (cases h; done) | skip) | refine And.intro (by omega) ?_ | refine Exists.intro _ (And.intro (by first | exact And.intro rfl rfl | exact Pl.den (by repeat constructor) | with_reducible rfl | exact cast_succ _ | assumption | exact (Int.toNat_of_nonneg (by omega)).symm | rfl) ?_) | refine hD _ _ ?_ | refine hL _ _ ?_ | (intro h; (try simp only [n1, n2, n3, n4, n5, n6] at h); first | (exfalso; omega) | (cases h; done) | skip)) <;> (conv => whnf))
  refine round_next tok ?_
  conv => whnf
  repeat' ((first | refine And.intro (by repeat' first | exact trivial | refine And.intro rfl ?_) (And.intro (by first | exact fun _ h => h | exact fun _ => List.mem_cons_of_mem _ | exact fun _ => List.mem_append_right _) ?_) | (refine And.intro (fun h => ?_) (fun h => ?_) <;> (try simp only [n1, n2, n3, n4, n5, n6] at h) <;> first | (exfalso; omega) | (cases h; done) | skip) | refine And.intro (by omega) ?_ | refine Exists.intro _ (And.intro (by first | exact And.intro rfl rfl | exact Pl.den (by repeat constructor) | with_reducible rfl | exact cast_succ _ | assumption | exact (Int.toNat_of_nonneg (by omega)).symm | rfl) ?_) | refine hD _ _ ?_ | refine hL _ _ ?_ | (intro h; (try simp only [n1, n2, n3, n4, n5, n6] at h); first | (exfalso; omega) | (cases h; done) | skip)) <;> (conv => whnf))
  have := bv_lt a
  have := bv_lt b
  have := bv_lt c
  have hm : (if (3 : Int) < ((rest.length + 3 : Nat) : Int) then (3 : Int) else ((rest.length + 3 : Nat) : Int)).toNat = 3 := by
    split <;> omega
  refine ⟨⟨some (if cap = 3 then ad else ad.add (3 * 1)), rest.length, cap - 3, rest, _⟩, [0], _, ⟨⟨?_, rfl, (by simp only; omega), ⟨(fun h => nomatch h), ?_⟩⟩, by simp only [List.length_cons]; omega⟩, Fold.refl _, rfl, ⟨SEq.eq (by rw [hm]; rfl), SEq.eq rfl, SEq.ren rfl rfl, trivial⟩, ⟨OSub.ren rfl rfl, trivial⟩, fun f hf => hf⟩
  · dsimp only
    rw [acc0, acc1 _ _ (by omega), acc1 _ _ (by omega), sgn_at _ _ (by omega), sgn_at _ _ (by omega), sgn_at _ _ (by omega), sgn_at _ _ (by omega), ← h1]
    have k1 : ((a.toNat * 256 + b.toNat) * 256 + c.toNat) / 262144 % 64 = a.toNat / 4 := by omega
    have k2 : ((a.toNat * 256 + b.toNat) * 256 + c.toNat) / 4096 % 64 = a.toNat % 4 * 16 + b.toNat / 16 := by omega
    have k3 : ((a.toNat * 256 + b.toNat) * 256 + c.toNat) / 64 % 64 = b.toNat % 16 * 4 + c.toNat / 64 := by omega
    have k4 : ((a.toNat * 256 + b.toNat) * 256 + c.toNat) / 1 % 64 = c.toNat % 64 := by omega
    rw [k1, k2, k3, k4]
    simp [enc]
  · intro ad' h j y hj
    have h5 := h4.2 ad rfl (j + 3) y hj
    have hj' : j < rest.length := (List.getElem?_eq_some_iff.1 hj).1
    simp only [Option.some.injEq] at h
    rw [if_neg (by omega)] at h
    subst h
    have e : (ad.add (3 * 1)).add j = ad.add (j + 3) := by
      simp only [Addr.add]
      split <;> split <;> simp_all <;> omega
    rw [e]; exact h5
end Go.Proofs.YtekgjjanikicnaaDoor.Sx

namespace Go.Proofs.YtekgjjanikicnaaDoor.Sx
open Go
set_option maxRecDepth 100000
set_option linter.unusedSimpArgs false
set_option linter.unusedVariables false

theorem tAwake (fx : List Fact) : Tri Tryd.prog 48 [] [] 0 fx (Ret 0 (.b true) [] 0 []) := by
  refine Tri.of_code tok Tryd.func48 rfl rfl rfl (by decide) rfl (Nat.le_of_ble_eq_true rfl) ?_
  conv => whnf
  repeat' ((first | refine And.intro (by repeat' first | exact trivial | refine And.intro rfl ?_) (And.intro (by first | exact fun _ h => h | exact fun _ => List.mem_cons_of_mem _ | exact fun _ => List.mem_append_right _) ?_) | (refine And.intro (fun h => ?_) (fun h => ?_) <;> (try simp only [n1, n2, n3, n4, n5, n6] at h) <;> first | (exfalso; omega) | (cases h; done) | skip) | refine And.intro (by omega) ?_ | refine Exists.intro _ (And.intro (by first | exact And.intro rfl rfl | exact Pl.den (by repeat constructor) | with_reducible rfl | exact cast_succ _ | assumption | exact (Int.toNat_of_nonneg (by omega)).symm | rfl) ?_) | refine hD _ _ ?_ | refine hL _ _ ?_ | (intro h; (try simp only [n1, n2, n3, n4, n5, n6] at h); first | (exfalso; omega) | (cases h; done) | skip)) <;> (conv => whnf))
  refine Tri.lend 0 (xs := [bv 97, bv 98]) (T := 5) (fun b => [.v (.slice (some ⟨b, 0, none⟩) 2 2)]) (List.mem_cons_self ..) (rowOf.cells fun _ => rfl) (fun _ => rfl) fun b => ?_
  refine Tri.use (tEncode (rowFact b [bv 97, bv 98] 5 :: fx) _ 2 [97, 98] (by simp) (by simp) (BytesAt.row (List.mem_cons_self ..) rfl)).one [] rfl (fun _ _ _ => rfl) trivial (fun f hf => hf) fun u hu => ?_
  conv => whnf
  refine And.intro rfl ?_
  conv => whnf
  repeat' ((first | refine And.intro (by repeat' first | exact trivial | refine And.intro rfl ?_) (And.intro (by first | exact fun _ h => h | exact fun _ => List.mem_cons_of_mem _ | exact fun _ => List.mem_append_right _) ?_) | (refine And.intro (fun h => ?_) (fun h => ?_) <;> (try simp only [n1, n2, n3, n4, n5, n6] at h) <;> first | (exfalso; omega) | (cases h; done) | skip) | refine And.intro (by omega) ?_ | refine Exists.intro _ (And.intro (by first | exact And.intro rfl rfl | exact Pl.den (by repeat constructor) | with_reducible rfl | exact cast_succ _ | assumption | exact (Int.toNat_of_nonneg (by omega)).symm | rfl) ?_) | refine hD _ _ ?_ | refine hL _ _ ?_ | (intro h; (try simp only [n1, n2, n3, n4, n5, n6] at h); first | (exfalso; omega) | (cases h; done) | skip)) <;> (conv => whnf))
  exact Ret.noneS rfl (fun _ _ => rfl) (fun _ h => nomatch h)
theorem enc_append : ∀ (a b : List UInt8), a.length % 3 = 0 → enc (a ++ b) = enc a ++ enc b
  | [], b, _ => by simp [enc]
  | [_], _, h => by simp at h
  | [_, _], _, h => by simp at h
  | x :: y :: z :: r, b, h => by
    simp only [List.length_cons] at h
    simp only [List.cons_append, enc]
    rw [enc_append r b (by omega)]
end Go.Proofs.YtekgjjanikicnaaDoor.Sx

namespace Go.Proofs.YtekgjjanikicnaaDoor.Sx
open Go Go.RowKit
set_option maxRecDepth 100000
set_option linter.unusedSimpArgs false
set_option linter.unusedVariables false
abbrev tens : ByteArray := ⟨#[48, 49, 50, 51, 52, 53, 54, 55, 56, 57]⟩
theorem ten_cut {d : Nat} (h : d < 10) : tens.extract d (d + 1) = ⟨#[UInt8.ofNat (48 + d)]⟩ := by
  have : d = 0 ∨ d = 1 ∨ d = 2 ∨ d = 3 ∨ d = 4 ∨ d = 5 ∨ d = 6 ∨ d = 7 ∨ d = 8 ∨ d = 9 := by omega
  rcases this with rfl | rfl | rfl | rfl | rfl | rfl | rfl | rfl | rfl | rfl <;> decide
theorem ba_app (l m : List UInt8) : (⟨l.toArray⟩ ++ ⟨m.toArray⟩ : ByteArray) = ⟨(l ++ m).toArray⟩ := by
  apply ByteArray.ext
  apply Array.toList_inj.1
  simp [app_list]
theorem decDigits_size (x : Nat) (h : x < 18446744073709551616) : (⟨(Lib.decDigits x).toArray⟩ : ByteArray).size = Lib.nDigits x := by
  rw [← decDigits_len]; simp [ByteArray.size]
theorem ten_hi (x : Nat) : (x % Int.natAbs 10 + 1) % ((2 : Int) ^ IntKind.u64.bits).natAbs = x % 10 + 1 := by
  have e1 : Int.natAbs 10 = 10 := rfl
  have e2 : ((2 : Int) ^ IntKind.u64.bits).natAbs = 18446744073709551616 := by decide
  rw [e1, e2]
  omega
theorem tRefDigits (fx : List Fact) : ∀ (n x : Nat), x ≤ n → x < 18446744073709551616 → Tri Tryd.prog 50 [.v (.int .u64 (x : Int))] [] 0 fx (Ret 0 (.v (.string ⟨(Lib.decDigits x).toArray⟩)) [] 0 []) := by
  intro n
  induction n with
  | zero =>
    intro x h h2
    obtain rfl : x = 0 := by omega
    refine Tri.of_code tok Tryd.func50 rfl rfl rfl (by decide) rfl (Nat.le_of_ble_eq_true rfl) ?_
    conv => whnf
    repeat' ((first | (refine And.intro (show (0 + 1 : Nat) ≤ 10 by omega) ?_) | (refine And.intro (show (0 : Nat) ≤ 0 + 1 by omega) ?_) | refine And.intro (by repeat' first | exact trivial | refine And.intro rfl ?_) (And.intro (by first | exact fun _ h => h | exact fun _ => List.mem_cons_of_mem _ | exact fun _ => List.mem_append_right _) ?_) | (refine And.intro (fun h => ?_) (fun h => ?_) <;> (try simp only [n1, n2, n3, n4, n5, n6] at h) <;> first | (exfalso; omega) | (cases h; done) | skip) | refine And.intro (by omega) ?_ | refine Exists.intro _ (And.intro (by first | exact And.intro rfl rfl | exact Pl.den (by repeat constructor) | with_reducible rfl | exact cast_succ _ | assumption | exact (Int.toNat_of_nonneg (by omega)).symm | rfl) ?_) | refine hD _ _ ?_ | refine hL _ _ ?_ | (intro h; (try simp only [n1, n2, n3, n4, n5, n6] at h); first | (exfalso; omega) | (cases h; done) | skip)) <;> (conv => whnf))
    refine Ret.noneS rfl (fun _ _ => ?_) (fun g hg => by cases hg)
    simp only [den]
    rw [Lib.decDigits_one (by omega)]
    rfl
  | succ n ih =>
    intro x h h2
    refine Tri.of_code tok Tryd.func50 rfl rfl rfl (by decide) rfl (Nat.le_of_ble_eq_true rfl) ?_
    conv => whnf
    repeat' ((first | refine And.intro (by repeat' first | exact trivial | refine And.intro rfl ?_) (And.intro (by first | exact fun _ h => h | exact fun _ => List.mem_cons_of_mem _ | exact fun _ => List.mem_append_right _) ?_) | (refine And.intro (fun h => ?_) (fun h => ?_) <;> (try simp only [n1, n2, n3, n4, n5, n6] at h) <;> first | (exfalso; omega) | (cases h; done) | skip) | refine And.intro (by omega) ?_ | refine Exists.intro _ (And.intro (by first | exact And.intro rfl rfl | exact Pl.den (by repeat constructor) | with_reducible rfl | exact cast_succ _ | assumption | exact (Int.toNat_of_nonneg (by omega)).symm | rfl) ?_) | refine hD _ _ ?_ | refine hL _ _ ?_ | (intro h; (try simp only [n1, n2, n3, n4, n5, n6] at h); first | (exfalso; omega) | (cases h; done) | skip)) <;> (conv => whnf))
    rw [ten_hi]
    refine And.intro (show x % 10 + 1 ≤ 10 by omega) ?_
    conv => whnf
    repeat' ((first | refine And.intro (by repeat' first | exact trivial | refine And.intro rfl ?_) (And.intro (by first | exact fun _ h => h | exact fun _ => List.mem_cons_of_mem _ | exact fun _ => List.mem_append_right _) ?_) | (refine And.intro (fun h => ?_) (fun h => ?_) <;> (try simp only [n1, n2, n3, n4, n5, n6] at h) <;> first | (exfalso; omega) | (cases h; done) | skip) | refine And.intro (by omega) ?_ | refine Exists.intro _ (And.intro (by first | exact And.intro rfl rfl | exact Pl.den (by repeat constructor) | with_reducible rfl | exact cast_succ _ | assumption | exact (Int.toNat_of_nonneg (by omega)).symm | rfl) ?_) | refine hD _ _ ?_ | refine hL _ _ ?_ | (intro h; (try simp only [n1, n2, n3, n4, n5, n6] at h); first | (exfalso; omega) | (cases h; done) | skip)) <;> (conv => whnf))
    · rename_i h10
      refine Ret.noneS rfl (fun _ _ => ?_) (fun g hg => by cases hg)
      simp only [den]
      rw [Lib.decDigits_one (by omega)]
      refine congrArg Value.string (Eq.trans ?_ (ten_cut (Nat.mod_lt x (show 0 < 10 by omega))).symm)
      rw [Nat.mod_eq_of_lt (by omega)]
    · refine Tri.use ((ih (x / 10) (by omega) (by omega)).one) [] rfl (fun _ _ _ => rfl) trivial (fun f hf => by first | exact hf | cases hf) (fun u hu => ?_)
      conv => whnf
      have e := ten_cut (Nat.mod_lt x (show 0 < 10 by omega))
      have e2 : tens.extract ((some ((x : Int) % 10).toNat).getD 0) (x % 10 + 1) = ⟨#[UInt8.ofNat (48 + x % 10)]⟩ := e
      rw [e2]
      have hsz := decDigits_size (x / 10) (by omega)
      refine And.intro ?_ ?_
      · rw [hsz]
        have h20 := nDigits_le (x / 10) (by omega)
        show ((Lib.nDigits (x / 10) + 1 : Nat) : Int) ≤ _
        omega
      conv => whnf
      repeat' ((first | refine And.intro (by repeat' first | exact trivial | refine And.intro rfl ?_) (And.intro (by first | exact fun _ h => h | exact fun _ => List.mem_cons_of_mem _ | exact fun _ => List.mem_append_right _) ?_) | (refine And.intro (fun h => ?_) (fun h => ?_) <;> (try simp only [n1, n2, n3, n4, n5, n6] at h) <;> first | (exfalso; omega) | (cases h; done) | skip) | refine And.intro (by omega) ?_ | refine Exists.intro _ (And.intro (by first | exact And.intro rfl rfl | exact Pl.den (by repeat constructor) | with_reducible rfl | exact cast_succ _ | assumption | exact (Int.toNat_of_nonneg (by omega)).symm | rfl) ?_) | refine hD _ _ ?_ | refine hL _ _ ?_ | (intro h; (try simp only [n1, n2, n3, n4, n5, n6] at h); first | (exfalso; omega) | (cases h; done) | skip)) <;> (conv => whnf))
      refine Ret.noneS rfl (fun _ _ => ?_) (fun g hg => by cases hg)
      simp only [den]
      have ed : Lib.decDigits x = Lib.decDigits (x / 10) ++ [UInt8.ofNat (48 + x % 10)] := by conv => lhs; rw [Lib.decDigits, dif_neg (by omega)]
      rw [ed]
      exact congrArg Value.string (ba_app _ _).symm
theorem num_step (n : Nat) (c : UInt8) : IntKind.u64.wrap (IntKind.u64.wrap (IntKind.u64.wrap ((n : Int) * 10) + IntKind.u64.wrap (c.toNat : Int)) - 48) = (((n * 10 + c.toNat + (18446744073709551616 - 48)) % 18446744073709551616 : Nat) : Int) := by
  simp only [IntKind.wrap, IntKind.signed, IntKind.bits]
  simp
  omega
theorem tRefNumber (fx : List Fact) (s : ByteArray) (hs : s.size ≤ 281474976710656) : Tri Tryd.prog 49 [.v (.string s)] [] 0 fx (Ret 0 (numS (numOf s.data.toList)) [] 0 []) := by
  obtain ⟨M, hM⟩ : ∃ M : Nat, M = 18446744073709551616 := ⟨_, rfl⟩
  refine Tri.of_code tok Tryd.func49 rfl rfl rfl (by decide) rfl (Nat.le_of_ble_eq_true rfl) ?_
  conv => whnf
  repeat' ((first | refine And.intro (by repeat' first | exact trivial | refine And.intro rfl ?_) (And.intro (by first | exact fun _ h => h | exact fun _ => List.mem_cons_of_mem _ | exact fun _ => List.mem_append_right _) ?_) | (refine And.intro (fun h => ?_) (fun h => ?_) <;> (try simp only [n1, n2, n3, n4, n5, n6] at h) <;> first | (exfalso; omega) | (cases h; done) | skip) | refine And.intro (by omega) ?_ | refine Exists.intro _ (And.intro (by first | exact And.intro rfl rfl | exact Pl.den (by repeat constructor) | with_reducible rfl | exact cast_succ _ | assumption | exact (Int.toNat_of_nonneg (by omega)).symm | rfl) ?_) | refine hD _ _ ?_ | refine hL _ _ ?_ | (intro h; (try simp only [n1, n2, n3, n4, n5, n6] at h); first | (exfalso; omega) | (cases h; done) | skip)) <;> (conv => whnf))
  refine loop_by tok (α := Nat) (fun i => ⟨[(0, .v (.string s)), (4, .v (.int .u64 (foldM M (s.data.toList.take i)))), (5, .v (.int .i64 i))], [], 0, fx⟩) (fun i => i ≤ s.size ∧ i ≤ 20) (fun i => s.size - i) 0 [] ⟨by omega, by omega⟩ ⟨rfl, ?_, trivial, fun f hf => hf⟩ ?_
  · exact ⟨fun _ _ _ => rfl, fun _ _ _ => rfl, fun _ _ _ => rfl, trivial⟩
  · rintro i ⟨hi, ha⟩
    conv => whnf
    repeat' ((first | refine And.intro (by repeat' first | exact trivial | refine And.intro rfl ?_) (And.intro (by first | exact fun _ h => h | exact fun _ => List.mem_cons_of_mem _ | exact fun _ => List.mem_append_right _) ?_) | (refine And.intro (fun h => ?_) (fun h => ?_) <;> (try simp only [n1, n2, n3, n4, n5, n6] at h) <;> first | (exfalso; omega) | (cases h; done) | skip) | refine And.intro (by omega) ?_ | refine Exists.intro _ (And.intro (by first | exact And.intro rfl rfl | exact Pl.den (by repeat constructor) | with_reducible rfl | exact cast_succ _ | assumption | exact (Int.toNat_of_nonneg (by omega)).symm | rfl) ?_) | refine hD _ _ ?_ | refine hL _ _ ?_ | (intro h; (try simp only [n1, n2, n3, n4, n5, n6] at h); first | (exfalso; omega) | (cases h; done) | skip)) <;> (conv => whnf))
    · obtain rfl : M = 18446744073709551616 := hM
      refine ⟨i + 1, [], ⟨⟨by omega, by omega⟩, by omega⟩, rfl, ⟨fun _ _ _ => rfl, fun _ _ _ => ?_, fun _ _ _ => rfl, trivial⟩, trivial, fun f hf => hf⟩
      simp only [den]
      rw [take_succ_of (sbyte_get (show i < s.size by omega)), foldM_app, num_step]
    · have hi20 : i = 20 := by omega
      subst hi20
      refine Tri.use ((tRefDigits fx _ _ (Nat.le_refl _) (by rw [← hM]; exact foldM_lt (by omega) _)).one) [] rfl (fun _ _ _ => rfl) trivial (fun f hf => by first | exact hf | cases hf) (fun u hu => ?_)
      conv => whnf
      repeat' ((first | refine And.intro (by repeat' first | exact trivial | refine And.intro rfl ?_) (And.intro (by first | exact fun _ h => h | exact fun _ => List.mem_cons_of_mem _ | exact fun _ => List.mem_append_right _) ?_) | (refine And.intro (fun h => ?_) (fun h => ?_) <;> (try simp only [n1, n2, n3, n4, n5, n6] at h) <;> first | (exfalso; omega) | (cases h; done) | skip) | refine And.intro (by omega) ?_ | refine Exists.intro _ (And.intro (by first | exact And.intro rfl rfl | exact Pl.den (by repeat constructor) | with_reducible rfl | exact cast_succ _ | assumption | exact (Int.toNat_of_nonneg (by omega)).symm | rfl) ?_) | refine hD _ _ ?_ | refine hL _ _ ?_ | (intro h; (try simp only [n1, n2, n3, n4, n5, n6] at h); first | (exfalso; omega) | (cases h; done) | skip)) <;> (conv => whnf))
      · have hn : numOf s.data.toList = none := by
          rw [numOf_foldM hM]
          exact if_neg (by simpa using h)
        rw [hn]
        exact Ret.noneS rfl (fun _ _ => rfl) (fun g hg => by cases hg)
      · have hn : numOf s.data.toList = some (foldM M (s.data.toList.take 20)) := by
          rw [numOf_foldM hM]
          exact if_pos (by simpa using h)
        rw [hn]
        exact Ret.noneS rfl (fun _ _ => rfl) (fun g hg => by cases hg)
    · have hi20 : s.data.toList.take i = s.data.toList.take 20 := by
        rw [List.take_of_length_le (by rw [list_size]; omega), List.take_of_length_le (by rw [list_size]; omega)]
      rw [hi20]
      refine Tri.use ((tRefDigits fx _ _ (Nat.le_refl _) (by rw [← hM]; exact foldM_lt (by omega) _)).one) [] rfl (fun _ _ _ => rfl) trivial (fun f hf => by first | exact hf | cases hf) (fun u hu => ?_)
      conv => whnf
      repeat' ((first | refine And.intro (by repeat' first | exact trivial | refine And.intro rfl ?_) (And.intro (by first | exact fun _ h => h | exact fun _ => List.mem_cons_of_mem _ | exact fun _ => List.mem_append_right _) ?_) | (refine And.intro (fun h => ?_) (fun h => ?_) <;> (try simp only [n1, n2, n3, n4, n5, n6] at h) <;> first | (exfalso; omega) | (cases h; done) | skip) | refine And.intro (by omega) ?_ | refine Exists.intro _ (And.intro (by first | exact And.intro rfl rfl | exact Pl.den (by repeat constructor) | with_reducible rfl | exact cast_succ _ | assumption | exact (Int.toNat_of_nonneg (by omega)).symm | rfl) ?_) | refine hD _ _ ?_ | refine hL _ _ ?_ | (intro h; (try simp only [n1, n2, n3, n4, n5, n6] at h); first | (exfalso; omega) | (cases h; done) | skip)) <;> (conv => whnf))
      · have hn : numOf s.data.toList = none := by
          rw [numOf_foldM hM]
          exact if_neg (by simpa using h)
        rw [hn]
        exact Ret.noneS rfl (fun _ _ => rfl) (fun g hg => by cases hg)
      · have hn : numOf s.data.toList = some (foldM M (s.data.toList.take 20)) := by
          rw [numOf_foldM hM]
          exact if_pos (by simpa using h)
        rw [hn]
        exact Ret.noneS rfl (fun _ _ => rfl) (fun g hg => by cases hg)
theorem tRefName (fx : List Fact) (s : ByteArray) (hs : s.size < 9223372036854775808) : Tri Tryd.prog 52 [.v (.string s)] [] 0 fx (Ret 0 (.v (.bool (nameOk s.data.toList))) [] 0 []) := by
  refine Tri.of_code tok Tryd.func52 rfl rfl rfl (by decide) rfl (Nat.le_of_ble_eq_true rfl) ?_
  conv => whnf
  repeat' ((first | refine And.intro (by repeat' first | exact trivial | refine And.intro rfl ?_) (And.intro (by first | exact fun _ h => h | exact fun _ => List.mem_cons_of_mem _ | exact fun _ => List.mem_append_right _) ?_) | (refine And.intro (fun h => ?_) (fun h => ?_) <;> (try simp only [n1, n2, n3, n4, n5, n6] at h) <;> first | (exfalso; omega) | (cases h; done) | skip) | refine And.intro (by omega) ?_ | refine Exists.intro _ (And.intro (by first | exact And.intro rfl rfl | exact Pl.den (by repeat constructor) | with_reducible rfl | exact cast_succ _ | assumption | exact (Int.toNat_of_nonneg (by omega)).symm | rfl) ?_) | refine hD _ _ ?_ | refine hL _ _ ?_ | (intro h; (try simp only [n1, n2, n3, n4, n5, n6] at h); first | (exfalso; omega) | (cases h; done) | skip)) <;> (conv => whnf))
  refine loop_by tok (α := Nat) (fun i => ⟨[(0, .v (.string s)), (3, .v (.int .i64 i))], [], 0, fx⟩) (fun i => i ≤ s.size ∧ (s.data.toList.take i).all nameSign = true) (fun i => s.size - i) 0 [] (by simp) ⟨rfl, ?_, trivial, fun f hf => hf⟩ ?_
  · exact ⟨fun _ _ _ => rfl, fun _ _ _ => rfl, trivial⟩
  · rintro i ⟨hi, ha⟩
    conv => whnf
    repeat' ((first | refine And.intro (by repeat' first | exact trivial | refine And.intro rfl ?_) (And.intro (by first | exact fun _ h => h | exact fun _ => List.mem_cons_of_mem _ | exact fun _ => List.mem_append_right _) ?_) | (refine And.intro (fun h => ?_) (fun h => ?_) <;> (try simp only [n1, n2, n3, n4, n5, n6] at h) <;> first | (exfalso; omega) | (cases h; done) | skip) | refine And.intro (by omega) ?_ | refine Exists.intro _ (And.intro (by first | exact And.intro rfl rfl | exact Pl.den (by repeat constructor) | with_reducible rfl | exact cast_succ _ | assumption | exact (Int.toNat_of_nonneg (by omega)).symm | rfl) ?_) | refine hD _ _ ?_ | refine hL _ _ ?_ | (intro h; (try simp only [n1, n2, n3, n4, n5, n6] at h); first | (exfalso; omega) | (cases h; done) | skip)) <;> (conv => whnf))
    all_goals (try simp only [Int.toNat_natCast] at *)
    all_goals first
      | (refine ⟨i + 1, [], ⟨⟨by omega, sbyte_take (by omega) _ ha ?_⟩, by omega⟩, rfl, ⟨fun _ _ _ => rfl, fun _ _ _ => rfl, trivial⟩, trivial, fun f hf => hf⟩
         simp only [nameSign, Bool.or_eq_true, Bool.and_eq_true, decide_eq_true_eq, beq_iff_eq]; omega)
      | (refine Ret.none rfl (fun ρ => ?_) (fun g h => by cases h)
         have hf : nameSign (sbyte s i) = false := by
           rw [← Bool.not_eq_true]
           simp only [nameSign, Bool.or_eq_true, Bool.and_eq_true, decide_eq_true_eq, beq_iff_eq]; omega
         simp only [nameOk, all_false (by omega) _ hf]; rfl)
      | (refine Ret.none rfl (fun ρ => ?_) (fun g h => by cases h)
         obtain rfl : i = s.size := by omega
         rw [List.take_of_length_le (by simp)] at ha
         simp only [den, nameOk, ha, Bool.true_and]
         congr 1
         rw [Bool.eq_iff_iff]
         simp; omega)
end Go.Proofs.YtekgjjanikicnaaDoor.Sx

namespace Go.Proofs.YtekgjjanikicnaaDoor.Sx
open Go
set_option linter.unusedSimpArgs false
set_option linter.unusedVariables false

def plainSign (c : UInt8) : Bool := (65 ≤ c.toNat && c.toNat ≤ 90) || (97 ≤ c.toNat && c.toNat ≤ 122) || (48 ≤ c.toNat && c.toNat ≤ 57) || c.toNat == 43 || c.toNat == 47
/-- What a sign tells. -/
def val6 (c : UInt8) : Nat :=
  if 65 ≤ c.toNat ∧ c.toNat ≤ 90 then c.toNat - 65
  else if 97 ≤ c.toNat ∧ c.toNat ≤ 122 then c.toNat - 71
  else if 48 ≤ c.toNat ∧ c.toNat ≤ 57 then c.toNat + 4
  else if c.toNat = 43 then 62
  else if c.toNat = 47 then 63
  else 64
theorem sgn_all : (List.range 64).all (fun n => plainSign (sgn6 n) && (val6 (sgn6 n) == n)) = true := by decide +kernel
theorem sgn_plain {n : Nat} (h : n < 64) : plainSign (sgn6 n) = true := by
  have := List.all_eq_true.1 sgn_all n (List.mem_range.2 h)
  simp only [Bool.and_eq_true] at this
  exact this.1
theorem val_sgn {n : Nat} (h : n < 64) : val6 (sgn6 n) = n := by
  have := List.all_eq_true.1 sgn_all n (List.mem_range.2 h)
  simp only [Bool.and_eq_true, beq_iff_eq] at this
  exact this.2
theorem plain_ne {c : UInt8} (h : plainSign c = true) : c ≠ 61 := by
  rintro rfl
  revert h
  decide
theorem enc_form : ∀ bs, ∃ p k, enc bs = p ++ List.replicate k 61 ∧ k ≤ 2 ∧ ∀ c ∈ p, plainSign c = true
  | a :: b :: c :: r => by
    obtain ⟨p, k, h1, h2, h3⟩ := enc_form r
    have := bv_lt a
    have := bv_lt b
    have := bv_lt c
    refine ⟨sgn6 (a.toNat / 4) :: sgn6 (a.toNat % 4 * 16 + b.toNat / 16) :: sgn6 (b.toNat % 16 * 4 + c.toNat / 64) :: sgn6 (c.toNat % 64) :: p, k, by simp [enc, h1], h2, ?_⟩
    intro x hx
    simp only [List.mem_cons] at hx
    rcases hx with rfl | rfl | rfl | rfl | hx
    · exact sgn_plain (by omega)
    · exact sgn_plain (by omega)
    · exact sgn_plain (by omega)
    · exact sgn_plain (by omega)
    · exact h3 x hx
  | [a, b] => by
    have := bv_lt a
    have := bv_lt b
    refine ⟨[sgn6 (a.toNat / 4), sgn6 (a.toNat % 4 * 16 + b.toNat / 16), sgn6 (b.toNat % 16 * 4)], 1, by simp [enc], by decide, ?_⟩
    intro x hx
    simp only [List.mem_cons, List.not_mem_nil, or_false] at hx
    rcases hx with rfl | rfl | rfl
    · exact sgn_plain (by omega)
    · exact sgn_plain (by omega)
    · exact sgn_plain (by omega)
  | [a] => by
    have := bv_lt a
    refine ⟨[sgn6 (a.toNat / 4), sgn6 (a.toNat % 4 * 16)], 2, by simp [enc], by decide, ?_⟩
    intro x hx
    simp only [List.mem_cons, List.not_mem_nil, or_false] at hx
    rcases hx with rfl | rfl
    · exact sgn_plain (by omega)
    · exact sgn_plain (by omega)
  | [] => ⟨[], 0, by simp [enc], by decide, by simp⟩
/-- The bytes of a text, where it is one. -/
def unenc : List UInt8 → List UInt8
  | x :: y :: z :: w :: r =>
    if z = 61 then [UInt8.ofNat (val6 x * 4 + val6 y / 16)]
    else if w = 61 then [UInt8.ofNat (val6 x * 4 + val6 y / 16), UInt8.ofNat (val6 y % 16 * 16 + val6 z / 4)]
    else UInt8.ofNat (val6 x * 4 + val6 y / 16) :: UInt8.ofNat (val6 y % 16 * 16 + val6 z / 4) :: UInt8.ofNat (val6 z % 4 * 64 + val6 w) :: unenc r
  | _ => []
theorem ofNat_eq {n : Nat} {a : UInt8} (h : n = a.toNat) : UInt8.ofNat n = a := by rw [h]; simp
theorem unenc_enc : ∀ bs, unenc (enc bs) = bs
  | a :: b :: c :: r => by
    have := bv_lt a
    have := bv_lt b
    have := bv_lt c
    simp only [enc, unenc]
    rw [if_neg (plain_ne (sgn_plain (by omega))), if_neg (plain_ne (sgn_plain (by omega))), val_sgn (by omega), val_sgn (by omega), val_sgn (by omega), val_sgn (by omega), unenc_enc r,
      ofNat_eq (a := a) (by omega), ofNat_eq (a := b) (by omega), ofNat_eq (a := c) (by omega)]
  | [a, b] => by
    have := bv_lt a
    have := bv_lt b
    simp only [enc, unenc]
    rw [if_neg (plain_ne (sgn_plain (by omega))), if_pos trivial, val_sgn (by omega), val_sgn (by omega), val_sgn (by omega), ofNat_eq (a := a) (by omega), ofNat_eq (a := b) (by omega)]
  | [a] => by
    have := bv_lt a
    simp only [enc, unenc]
    rw [if_pos trivial, val_sgn (by omega), val_sgn (by omega), ofNat_eq (a := a) (by omega)]
  | [] => rfl
theorem enc_inj {a b : List UInt8} (h : enc a = enc b) : a = b := by rw [← unenc_enc a, h, unenc_enc]
end Go.Proofs.YtekgjjanikicnaaDoor.Sx

namespace Go.Proofs.YtekgjjanikicnaaDoor.Sx
open Go
set_option linter.unusedSimpArgs false
set_option linter.unusedVariables false

/-- n bits p are at hand, and the signs that follow: the bytes, or none. -/
def decGo : List UInt8 → Nat → Nat → Option (List UInt8)
  | [], _, _ => some []
  | c :: r, p, n =>
    if val6 c = 64 then none
    else if 2 ≤ n then (decGo r ((p * 64 + val6 c) % 2 ^ (n - 2)) (n - 2)).map (UInt8.ofNat ((p * 64 + val6 c) / 2 ^ (n - 2)) :: ·)
    else decGo r (p * 64 + val6 c) (n + 6)
theorem val6_le (c : UInt8) : val6 c ≤ 64 := by
  unfold val6
  have := bv_lt c
  repeat' split
  all_goals omega
theorem dec_no {c : UInt8} {r : List UInt8} {p n : Nat} (h : val6 c = 64) : decGo (c :: r) p n = none := by
  rw [decGo, if_pos h]
theorem dec_lo {c : UInt8} {r : List UInt8} {p n : Nat} (h : val6 c < 64) (hn : n < 2) : decGo (c :: r) p n = decGo r (p * 64 + val6 c) (n + 6) := by
  rw [decGo, if_neg (by omega), if_neg (by omega)]
theorem dec_hi {c : UInt8} {r : List UInt8} {p n : Nat} (h : val6 c < 64) (hn : 2 ≤ n) :
    decGo (c :: r) p n = (decGo r ((p * 64 + val6 c) % 2 ^ (n - 2)) (n - 2)).map (UInt8.ofNat ((p * 64 + val6 c) / 2 ^ (n - 2)) :: ·) := by
  rw [decGo, if_neg (by omega), if_pos hn]
theorem dec_four {x y z w : Nat} (hx : x < 64) (hy : y < 64) (hz : z < 64) (hw : w < 64) (r : List UInt8) : decGo (sgn6 x :: sgn6 y :: sgn6 z :: sgn6 w :: r) 0 0 =
    (decGo r 0 0).map fun l => UInt8.ofNat (x * 4 + y / 16) :: UInt8.ofNat (y % 16 * 16 + z / 4) :: UInt8.ofNat (z % 4 * 64 + w) :: l := by
  have vx := val_sgn hx
  have vy := val_sgn hy
  have vz := val_sgn hz
  have vw := val_sgn hw
  rw [dec_lo (by omega) (by omega), dec_hi (by omega) (by omega), dec_hi (by omega) (by omega), dec_hi (by omega) (by omega), vx, vy, vz, vw]
  simp only [Nat.reduceAdd, Nat.reduceSub, Nat.reducePow, Nat.mod_one, Nat.div_one, Nat.zero_mul, Nat.zero_add, Option.map_map]
  have e1 : (x * 64 + y) / 16 = x * 4 + y / 16 := by omega
  have e2 : ((x * 64 + y) % 16 * 64 + z) / 4 = y % 16 * 16 + z / 4 := by omega
  have e3 : ((x * 64 + y) % 16 * 64 + z) % 4 * 64 + w = z % 4 * 64 + w := by omega
  rw [e1, e2, e3]
  rfl
theorem dec_three {x y z : Nat} (hx : x < 64) (hy : y < 64) (hz : z < 64) : decGo [sgn6 x, sgn6 y, sgn6 z] 0 0 = some [UInt8.ofNat (x * 4 + y / 16), UInt8.ofNat (y % 16 * 16 + z / 4)] := by
  have vx := val_sgn hx
  have vy := val_sgn hy
  have vz := val_sgn hz
  rw [dec_lo (by omega) (by omega), dec_hi (by omega) (by omega), dec_hi (by omega) (by omega), vx, vy, vz]
  simp only [decGo, Nat.reduceAdd, Nat.reduceSub, Nat.reducePow, Nat.zero_mul, Nat.zero_add, Option.map_some]
  have e1 : (x * 64 + y) / 16 = x * 4 + y / 16 := by omega
  have e2 : ((x * 64 + y) % 16 * 64 + z) / 4 = y % 16 * 16 + z / 4 := by omega
  rw [e1, e2]
theorem dec_two {x y : Nat} (hx : x < 64) (hy : y < 64) : decGo [sgn6 x, sgn6 y] 0 0 = some [UInt8.ofNat (x * 4 + y / 16)] := by
  have vx := val_sgn hx
  have vy := val_sgn hy
  rw [dec_lo (by omega) (by omega), dec_hi (by omega) (by omega), vx, vy]
  simp only [decGo, Nat.reduceAdd, Nat.reduceSub, Nat.reducePow, Nat.zero_mul, Nat.zero_add, Option.map_some]
  have e1 : (x * 64 + y) / 16 = x * 4 + y / 16 := by omega
  rw [e1]
/-- What a sign tells, or nought. -/
def val0 (c : UInt8) : Nat := if val6 c = 64 then 0 else val6 c
theorem val0_lt (c : UInt8) : val0 c < 64 := by
  unfold val0
  have := val6_le c
  split <;> omega
theorem val0_sgn {n : Nat} (h : n < 64) : val0 (sgn6 n) = n := by
  unfold val0
  rw [val_sgn h, if_neg (by omega)]
theorem val0_eq : val0 61 = 0 := by decide
/-- Three bytes for four signs each. -/
def rdec : List UInt8 → List UInt8
  | x :: y :: z :: w :: r =>
    UInt8.ofNat ((((val0 x * 64 + val0 y) * 64 + val0 z) * 64 + val0 w) / 65536) :: UInt8.ofNat ((((val0 x * 64 + val0 y) * 64 + val0 z) * 64 + val0 w) / 256 % 256) ::
      UInt8.ofNat ((((val0 x * 64 + val0 y) * 64 + val0 z) * 64 + val0 w) % 256) :: rdec r
  | _ => []
theorem rdec_length : ∀ (s : List UInt8), (rdec s).length = s.length / 4 * 3
  | x :: y :: z :: w :: r => by simp only [rdec, List.length_cons, rdec_length r]; omega
  | [] => rfl
  | [_] => by simp [rdec]
  | [_, _] => by simp [rdec]
  | [_, _, _] => by simp [rdec]
/-- A text of bytes: its signs, its ends, and what the decoders make of it. -/
theorem enc_dec : ∀ bs, ∃ p k e, enc bs = p ++ List.replicate k 61 ∧ k ≤ 2 ∧ (∀ c ∈ p, plainSign c = true) ∧ decGo p 0 0 = some bs ∧ rdec (enc bs) = bs ++ e ∧ e.length = k ∧ (bs ≠ [] → p ≠ []) ∧ (bs = [] → k = 0)
  | a :: b :: c :: r => by
    obtain ⟨p, k, e, h1, h2, h3, h4, h5, h6, h7, h8⟩ := enc_dec r
    have := bv_lt a
    have := bv_lt b
    have := bv_lt c
    refine ⟨sgn6 (a.toNat / 4) :: sgn6 (a.toNat % 4 * 16 + b.toNat / 16) :: sgn6 (b.toNat % 16 * 4 + c.toNat / 64) :: sgn6 (c.toNat % 64) :: p, k, e, by simp [enc, h1], h2, ?_, ?_, ?_, h6, by simp, by simp⟩
    · intro x hx
      simp only [List.mem_cons] at hx
      rcases hx with rfl | rfl | rfl | rfl | hx
      · exact sgn_plain (by omega)
      · exact sgn_plain (by omega)
      · exact sgn_plain (by omega)
      · exact sgn_plain (by omega)
      · exact h3 x hx
    · rw [dec_four (by omega) (by omega) (by omega) (by omega), h4, Option.map_some, ofNat_eq (a := a) (by omega), ofNat_eq (a := b) (by omega), ofNat_eq (a := c) (by omega)]
    · simp only [enc, rdec, h5]
      rw [val0_sgn (by omega), val0_sgn (by omega), val0_sgn (by omega), val0_sgn (by omega), ofNat_eq (a := a) (by omega), ofNat_eq (a := b) (by omega), ofNat_eq (a := c) (by omega)]
      rfl
  | [a, b] => by
    have := bv_lt a
    have := bv_lt b
    refine ⟨[sgn6 (a.toNat / 4), sgn6 (a.toNat % 4 * 16 + b.toNat / 16), sgn6 (b.toNat % 16 * 4)], 1, [UInt8.ofNat ((((a.toNat / 4 * 64 + (a.toNat % 4 * 16 + b.toNat / 16)) * 64 + b.toNat % 16 * 4) * 64 + 0) % 256)], by simp [enc], by decide, ?_, ?_, ?_, rfl, by simp, by simp⟩
    · intro x hx
      simp only [List.mem_cons, List.not_mem_nil, or_false] at hx
      rcases hx with rfl | rfl | rfl
      · exact sgn_plain (by omega)
      · exact sgn_plain (by omega)
      · exact sgn_plain (by omega)
    · rw [dec_three (by omega) (by omega) (by omega), ofNat_eq (a := a) (by omega), ofNat_eq (a := b) (by omega)]
    · simp only [enc, rdec]
      rw [val0_sgn (by omega), val0_sgn (by omega), val0_sgn (by omega), val0_eq, ofNat_eq (a := a) (by omega), ofNat_eq (a := b) (by omega)]
      rfl
  | [a] => by
    have := bv_lt a
    refine ⟨[sgn6 (a.toNat / 4), sgn6 (a.toNat % 4 * 16)], 2, [UInt8.ofNat ((((a.toNat / 4 * 64 + a.toNat % 4 * 16) * 64 + 0) * 64 + 0) / 256 % 256), UInt8.ofNat ((((a.toNat / 4 * 64 + a.toNat % 4 * 16) * 64 + 0) * 64 + 0) % 256)], by simp [enc], by decide, ?_, ?_, ?_, rfl, by simp, by simp⟩
    · intro x hx
      simp only [List.mem_cons, List.not_mem_nil, or_false] at hx
      rcases hx with rfl | rfl
      · exact sgn_plain (by omega)
      · exact sgn_plain (by omega)
    · rw [dec_two (by omega) (by omega), ofNat_eq (a := a) (by omega)]
    · simp only [enc, rdec]
      rw [val0_sgn (by omega), val0_sgn (by omega), val0_eq, ofNat_eq (a := a) (by omega)]
      rfl
  | [] => ⟨[], 0, [], by simp [enc], by decide, by simp, rfl, rfl, rfl, by simp, fun _ => rfl⟩
/-- One = at the end is let go. -/
def strip1 (l : List UInt8) : List UInt8 := Lib.trimSuffix l [61]
theorem strip_one (l : List UInt8) : strip1 (l ++ [61]) = l := by
  unfold strip1 Lib.trimSuffix Lib.hasSuffix
  rw [if_pos (by simp [List.isSuffixOf_iff_suffix])]
  simp
theorem strip_no {l : List UInt8} (h : ∀ c ∈ l, plainSign c = true) : strip1 l = l := by
  unfold strip1 Lib.trimSuffix Lib.hasSuffix
  rw [if_neg]
  rw [List.isSuffixOf_iff_suffix]
  rintro ⟨t, rfl⟩
  exact plain_ne (h 61 (by simp)) rfl
theorem strip_enc {p : List UInt8} {k : Nat} (h : ∀ c ∈ p, plainSign c = true) (hk : k ≤ 2) : strip1 (strip1 (p ++ List.replicate k 61)) = p := by
  have : k = 0 ∨ k = 1 ∨ k = 2 := by omega
  rcases this with rfl | rfl | rfl
  · simp only [List.replicate_zero, List.append_nil, strip_no h]
  · rw [show List.replicate 1 (61 : UInt8) = [61] from rfl, strip_one, strip_no h]
  · rw [show p ++ List.replicate 2 (61 : UInt8) = (p ++ [61]) ++ [61] by simp [List.replicate]]
    rw [strip_one, strip_one]
theorem dec_enc (bs : List UInt8) : decGo (strip1 (strip1 (enc bs))) 0 0 = some bs := by
  obtain ⟨p, k, e, h1, h2, h3, h4, _⟩ := enc_dec bs
  rw [h1, strip_enc h3 h2, h4]
/-- How many bytes are let go at the end. -/
def rcut (s o : List UInt8) : Nat :=
  if 0 < o.length ∧ s[s.length - 1]? = some 61 then (if 1 < o.length ∧ s[s.length - 2]? = some 61 then 2 else 1) else 0
theorem rcut_enc (bs : List UInt8) : (rdec (enc bs)).take ((rdec (enc bs)).length - rcut (enc bs) (rdec (enc bs))) = bs := by
  obtain ⟨p, k, e, h1, h2, h3, h4, h5, h6, h7, h8⟩ := enc_dec bs
  have hr : rcut (enc bs) (rdec (enc bs)) = k := by
    by_cases hb : bs = []
    · obtain rfl := h8 hb
      subst hb
      have : e = [] := List.length_eq_zero_iff.1 h6
      subst this
      rw [h5]; rfl
    · have hl : 0 < bs.length := List.length_pos_iff.2 hb
      have hpl : 0 < p.length := List.length_pos_iff.2 (h7 hb)
      have last : ∀ j, j < k → (enc bs)[(enc bs).length - 1 - j]? = some 61 := by
        intro j hj
        rw [h1, List.length_append, List.length_replicate, List.getElem?_append_right (by omega), List.getElem?_replicate]
        rw [if_pos (by omega)]
      have lastp : (enc bs)[(enc bs).length - 1 - k]? ≠ some 61 := by
        rw [h1, List.length_append, List.length_replicate, List.getElem?_append_left (by omega)]
        intro h
        exact plain_ne (h3 _ (List.mem_of_getElem? h)) rfl
      have hlen : (rdec (enc bs)).length = bs.length + k := by rw [h5, List.length_append, h6]
      unfold rcut
      rw [hlen]
      have : k = 0 ∨ k = 1 ∨ k = 2 := by omega
      rcases this with rfl | rfl | rfl
      · rw [if_neg (fun h => lastp h.2)]
      · rw [if_pos ⟨by omega, last 0 (by omega)⟩, if_neg (fun h => lastp h.2)]
      · rw [if_pos ⟨by omega, last 0 (by omega)⟩, if_pos ⟨by omega, last 1 (by omega)⟩]
  rw [hr, h5, List.length_append, h6, Nat.add_sub_cancel, List.take_left]
/-- What IndexByte tells of a sign. -/
def sgnL : List UInt8 := (List.range 64).map sgn6
theorem index_all : (List.range 256).all (fun n => Lib.indexByte sgnL (UInt8.ofNat n) == (if val6 (UInt8.ofNat n) = 64 then -1 else (val6 (UInt8.ofNat n) : Int))) = true := by decide +kernel
theorem index_sgn (c : UInt8) : Lib.indexByte sgnL c = if val6 c = 64 then -1 else (val6 c : Int) := by
  have := List.all_eq_true.1 index_all c.toNat (List.mem_range.2 (bv_lt c))
  simpa using this
end Go.Proofs.YtekgjjanikicnaaDoor.Sx

namespace Go.Proofs.YtekgjjanikicnaaDoor.Sx
open Go
set_option maxRecDepth 100000
set_option linter.unusedSimpArgs false
set_option linter.unusedVariables false

/-- A call that computes a plain value, and leaves the world as it was. -/
theorem Tri.ofCalls {P : Program} {n : Nat} {args : List SV} {vs : List Value} {v : Value} {fx : List Fact} (hen : ∀ xs w, (callFunc n xs).run P w = .ok (.enter n xs) w) (hargs : ∀ ρ, denL ρ args = vs)
    (h : ∀ w, Calls P n vs.toArray w fun e w' => e = .returned v ∧ w' = w) : Tri P n args [] 0 fx (Ret 0 (.v v) [] 0 []) :=
  Tri.gone hen fun ρ F w hh => by
    rw [hargs ρ]
    exact (h w).mono fun e w' ⟨he, hw⟩ => ⟨he, by subst hw; exact Keeps.refl _ _⟩
set_option maxHeartbeats 1000000 in
theorem cTrim (s p : ByteArray) (w : World) (hs : s.size ≤ 9223372036854775807) :
    Calls Tryd.prog 129 #[.string s, .string p] w fun e w' => e = .returned (.string ⟨(Lib.trimSuffix s.data.toList p.data.toList).toArray⟩) ∧ w' = w := by
  have hlo : p.size ≤ s.size → ((s.size : Int) - (p.size : Int) + 9223372036854775808) % 18446744073709551616 - 9223372036854775808 = ((s.size - p.size : Nat) : Int) := fun _ => by omega
  go_enter Tryd.func129, Tryd.ntmps129
  go_wp2
  · have h1 : p.size ≤ s.size := by assumption
    have h2 : ((s.extract (s.size - p.size) s.size).toList == p.toList) = true := by assumption
    go_ret
    refine ⟨?_, rfl⟩
    rw [Lib.trimSuffix_hit s p h1 h2]
    rfl
  · have h2 : ((s.extract (s.size - p.size) s.size).toList == p.toList) = false := by assumption
    go_ret
    refine ⟨?_, rfl⟩
    rw [Lib.trimSuffix_miss s p (by rw [h2]; simp)]
    rfl
  · have h1 : ¬ p.size ≤ s.size := by assumption
    go_ret
    refine ⟨?_, rfl⟩
    rw [Lib.trimSuffix_miss s p (by simp [h1])]
    rfl
set_option maxHeartbeats 1000000 in
theorem cIndexIn (s : ByteArray) (c : Int) (w : World) :
    Calls Tryd.prog 161 #[.string s, .int .u8 c] w fun e w' => e = .returned (.int .i64 (Lib.indexByte s.data.toList c.toNat.toUInt8)) ∧ w' = w := by
  go_enter Tryd.func161, Tryd.ntmps161
  go_wp2
  rw [run_callFunc_extern Tryd.func183 (by kernel_rfl) (by kernel_rfl) (by kernel_rfl) (e := Extern.BytealgIndexByte.indexByte) (by kernel_rfl), Lib.run_indexByteString]
  simp only [Result.andThen]
  rw [Oper.upon_value]
  go_wp2
  go_ret
  exact ⟨rfl, rfl⟩
set_option maxHeartbeats 1000000 in
theorem cIndex (s : ByteArray) (c : Int) (w : World) :
    Calls Tryd.prog 130 #[.string s, .int .u8 c] w fun e w' => e = .returned (.int .i64 (Lib.indexByte s.data.toList c.toNat.toUInt8)) ∧ w' = w := by
  go_enter Tryd.func130, Tryd.ntmps130
  go_wp2_with (go_at_call 161; refine (cIndexIn _ _ _).mono ?_; rintro e w' ⟨rfl, rfl⟩)
  go_ret
  exact ⟨rfl, rfl⟩
theorem tTrim (fx : List Fact) (s : ByteArray) (hs : s.size ≤ 9223372036854775807) :
    Tri Tryd.prog 129 [.v (.string s), .v (.string ⟨#[61]⟩)] [] 0 fx (Ret 0 (.v (.string ⟨(strip1 s.data.toList).toArray⟩)) [] 0 []) :=
  Tri.ofCalls (fun xs w => by simp [callFunc, Tryd.func129, Tryd.f129]) (fun ρ => rfl) (fun w => cTrim s ⟨#[61]⟩ w hs)
theorem signs_list : signsB.data.toList = sgnL := by decide +kernel
theorem tIndex (fx : List Fact) (c : UInt8) :
    Tri Tryd.prog 130 [.v (.string signsB), .v (bv c)] [] 0 fx (Ret 0 (.v (.int .i64 (if val6 c = 64 then -1 else (val6 c : Int)))) [] 0 []) :=
  Tri.ofCalls (fun xs w => by simp [callFunc, Tryd.func130, Tryd.f130]) (fun ρ => rfl) (fun w => by
    have h := cIndex signsB (c.toNat : Int) w
    have e : ((c.toNat : Int)).toNat.toUInt8 = c := by simp
    rw [e, signs_list] at h
    rw [← index_sgn]
    exact h)
end Go.Proofs.YtekgjjanikicnaaDoor.Sx

namespace Go.Proofs.YtekgjjanikicnaaDoor.Sx
open Go
set_option maxRecDepth 100000
set_option linter.unusedSimpArgs false
set_option linter.unusedVariables false

theorem BytesAt.get {fx : List Fact} {A : Option Addr} {bs : List UInt8} (h : BytesAt fx A bs) {i : Nat} (hi : i < bs.length) : ∃ ad, A = some ad ∧ FC fx (ad.add (i * 1)) (bv bs[i]) := by
  cases A with
  | none => rw [h.1 rfl] at hi; simp at hi
  | some ad => exact ⟨ad, rfl, by rw [Nat.mul_one]; exact h.2 ad rfl i _ (List.getElem?_eq_getElem hi)⟩
theorem tSame (fx : List Fact) (A B : Option Addr) (ca cb : Nat) (a b : List UInt8) (hA : BytesAt fx A a) (hB : BytesAt fx B b) (hl : a.length < 9223372036854775808) :
    Tri Tryd.prog 42 [.v (.slice A a.length ca), .v (.slice B b.length cb)] [] 0 fx (Ret 0 (.v (.bool (decide (a = b)))) [] 0 []) := by
  refine Tri.of_code tok Tryd.func42 rfl rfl rfl (by decide) rfl (Nat.le_of_ble_eq_true rfl) ?_
  conv => whnf
  repeat' ((first | refine And.intro (by repeat' first | exact trivial | refine And.intro rfl ?_) (And.intro (by first | exact fun _ h => h | exact fun _ => List.mem_cons_of_mem _ | exact fun _ => List.mem_append_right _) ?_) | (refine And.intro (fun h => ?_) (fun h => ?_) <;> (try simp only [n1, n2, n3, n4, n5, n6] at h) <;> first | (exfalso; omega) | (cases h; done) | skip) | refine And.intro (by omega) ?_ | refine Exists.intro _ (And.intro (by first | exact And.intro rfl rfl | exact Pl.den (by repeat constructor) | with_reducible rfl | exact cast_succ _ | assumption | exact (Int.toNat_of_nonneg (by omega)).symm | rfl) ?_) | refine hD _ _ ?_ | refine hL _ _ ?_ | (intro h; (try simp only [n1, n2, n3, n4, n5, n6] at h); first | (exfalso; omega) | (cases h; done) | skip)) <;> (conv => whnf))
  · refine Ret.none rfl (fun ρ => ?_) (fun _ h => nomatch h)
    have hne : a ≠ b := fun e => by subst e; exact h rfl
    simp [den, hne]
  have hlen : a.length = b.length := by omega
  refine loop_by tok (α := Nat) (fun i => ⟨[(0, .v (.slice A a.length ca)), (1, .v (.slice B b.length cb)), (4, .b false), (5, .v (.int .i64 i))], [], 0, fx⟩) (fun i => i ≤ a.length ∧ a.take i = b.take i) (fun i => a.length - i) 0 [] (by simp) ⟨rfl, ?_, trivial, fun f hf => hf⟩ ?_
  · exact ⟨fun _ _ _ => rfl, fun _ _ _ => rfl, fun _ _ _ => rfl, fun _ _ _ => rfl, trivial⟩
  rintro i ⟨hi, he⟩
  conv => whnf
  repeat' ((first | refine And.intro (by repeat' first | exact trivial | refine And.intro rfl ?_) (And.intro (by first | exact fun _ h => h | exact fun _ => List.mem_cons_of_mem _ | exact fun _ => List.mem_append_right _) ?_) | (refine And.intro (fun h => ?_) (fun h => ?_) <;> (try simp only [n1, n2, n3, n4, n5, n6] at h) <;> first | (exfalso; omega) | (cases h; done) | skip) | refine And.intro (by omega) ?_ | refine Exists.intro _ (And.intro (by first | exact And.intro rfl rfl | exact Pl.den (by repeat constructor) | with_reducible rfl | exact cast_succ _ | assumption | exact (Int.toNat_of_nonneg (by omega)).symm | rfl) ?_) | refine hD _ _ ?_ | refine hL _ _ ?_ | (intro h; (try simp only [n1, n2, n3, n4, n5, n6] at h); first | (exfalso; omega) | (cases h; done) | skip)) <;> (conv => whnf))
  · refine draw_rule tok (by kernel_rfl) [.any 0, .any 1, .any 2, .any 4, .any 5, .any 6, .load 3, .load 7, .any 8] [] [] (by kernel_rfl) rfl rfl trivial ?_
    have hi1 : i < a.length := by omega
    have hi2 : i < b.length := by omega
    obtain ⟨ad, rfl, h1⟩ := hA.get hi1
    obtain ⟨bd, rfl, h2⟩ := hB.get hi2
    conv => whnf
    repeat' ((first | refine And.intro (by repeat' first | exact trivial | refine And.intro rfl ?_) (And.intro (by first | exact fun _ h => h | exact fun _ => List.mem_cons_of_mem _ | exact fun _ => List.mem_append_right _) ?_) | (refine And.intro (fun h => ?_) (fun h => ?_) <;> (try simp only [n1, n2, n3, n4, n5, n6] at h) <;> first | (exfalso; omega) | (cases h; done) | skip) | refine And.intro (by omega) ?_ | refine Exists.intro _ (And.intro (by first | exact And.intro rfl rfl | exact Pl.den (by repeat constructor) | with_reducible rfl | exact cast_succ _ | assumption | exact (Int.toNat_of_nonneg (by omega)).symm | rfl) ?_) | refine hD _ _ ?_ | refine hL _ _ ?_ | (intro h; (try simp only [n1, n2, n3, n4, n5, n6] at h); first | (exfalso; omega) | (cases h; done) | skip)) <;> (conv => whnf))
    · refine Ret.none rfl (fun ρ => ?_) (fun _ h => nomatch h)
      have hne : a ≠ b := fun e => by
        subst e
        exact h rfl
      simp [den, hne]
    · refine ⟨i + 1, [], ⟨⟨by omega, ?_⟩, by omega⟩, rfl, ⟨(fun _ _ _ => rfl), (fun _ _ _ => rfl), (fun _ _ _ => rfl), (fun _ _ _ => rfl), trivial⟩, trivial, fun f hf => hf⟩
      have hab : a[i] = b[i] := UInt8.toNat_inj.1 (by omega)
      rw [take_succ_of (List.getElem?_eq_getElem hi1), take_succ_of (List.getElem?_eq_getElem hi2), he, hab]
  · refine Ret.none rfl (fun ρ => ?_) (fun _ h => nomatch h)
    obtain rfl : i = a.length := by omega
    have hab : a = b := by
      rw [List.take_length, hlen, List.take_length] at he
      exact he
    simp [den, hab]
end Go.Proofs.YtekgjjanikicnaaDoor.Sx

namespace Go.Proofs.YtekgjjanikicnaaDoor.Sx
open Go
set_option maxRecDepth 100000
set_option linter.unusedSimpArgs false
set_option linter.unusedVariables false

theorem sgn_cut_all : (List.range 64).all (fun n => (signsB.data.toList.take (n + 1)).drop n == [sgn6 n]) = true := by decide +kernel
theorem sgn_cut {n : Nat} (h : n < 64) : signsB.extract n (n + 1) = ⟨#[sgn6 n]⟩ := by
  have := List.all_eq_true.1 sgn_cut_all n (List.mem_range.2 h)
  simp only [beq_iff_eq] at this
  apply ByteArray.ext
  apply Array.ext'
  rw [ext_list, this]
theorem sgn_val_all : (List.range 256).all (fun n => decide (val6 (UInt8.ofNat n) = 64) || sgn6 (val6 (UInt8.ofNat n)) == UInt8.ofNat n) = true := by decide +kernel
theorem sgn_val {c : UInt8} (h : val6 c < 64) : sgn6 (val6 c) = c := by
  have := List.all_eq_true.1 sgn_val_all c.toNat (List.mem_range.2 (bv_lt c))
  simp only [UInt8.ofNat_toNat, Bool.or_eq_true, decide_eq_true_eq, beq_iff_eq] at this
  rcases this with h1 | h1
  · omega
  · exact h1
theorem tSgn (fx : List Fact) (n : Int) (h0 : 0 ≤ n) (h1 : n < 64) : Tri Tryd.prog 111 [.v (.int .i64 n)] [] 0 fx (Ret 0 (.v (.string ⟨#[sgn6 n.toNat]⟩)) [] 0 []) := by
  obtain ⟨k, rfl⟩ := Int.eq_ofNat_of_zero_le h0
  refine Tri.of_code tok Tryd.func111 rfl rfl rfl (by decide) rfl (Nat.le_of_ble_eq_true rfl) ?_
  conv => whnf
  repeat' ((first | refine And.intro (by repeat' first | exact trivial | refine And.intro rfl ?_) (And.intro (by first | exact fun _ h => h | exact fun _ => List.mem_cons_of_mem _ | exact fun _ => List.mem_append_right _) ?_) | (refine And.intro (fun h => ?_) (fun h => ?_) <;> (try simp only [n1, n2, n3, n4, n5, n6] at h) <;> first | (exfalso; omega) | (cases h; done) | skip) | refine And.intro (by omega) ?_ | refine Exists.intro _ (And.intro (by first | exact And.intro rfl rfl | exact Pl.den (by repeat constructor) | with_reducible rfl | exact cast_succ _ | assumption | exact (Int.toNat_of_nonneg (by omega)).symm | rfl) ?_) | refine hD _ _ ?_ | refine hL _ _ ?_ | (intro h; (try simp only [n1, n2, n3, n4, n5, n6] at h); first | (exfalso; omega) | (cases h; done) | skip)) <;> (conv => whnf))
  refine And.intro (show k + 1 ≤ 64 by omega) ?_
  conv => whnf
  repeat' ((first | refine And.intro (by repeat' first | exact trivial | refine And.intro rfl ?_) (And.intro (by first | exact fun _ h => h | exact fun _ => List.mem_cons_of_mem _ | exact fun _ => List.mem_append_right _) ?_) | (refine And.intro (fun h => ?_) (fun h => ?_) <;> (try simp only [n1, n2, n3, n4, n5, n6] at h) <;> first | (exfalso; omega) | (cases h; done) | skip) | refine And.intro (by omega) ?_ | refine Exists.intro _ (And.intro (by first | exact And.intro rfl rfl | exact Pl.den (by repeat constructor) | with_reducible rfl | exact cast_succ _ | assumption | exact (Int.toNat_of_nonneg (by omega)).symm | rfl) ?_) | refine hD _ _ ?_ | refine hL _ _ ?_ | (intro h; (try simp only [n1, n2, n3, n4, n5, n6] at h); first | (exfalso; omega) | (cases h; done) | skip)) <;> (conv => whnf))
  refine Ret.noneS rfl (fun _ _ => ?_) (fun _ h => nomatch h)
  show Value.string _ = Value.string _
  rw [Int.toNat_natCast]
  exact congrArg Value.string (sgn_cut (by omega)).symm
theorem tValue (fx : List Fact) (c : UInt8) : Tri Tryd.prog 131 [.v (bv c)] [] 0 fx (Ret 0 (.v (.int .i64 (if val6 c = 64 then -1 else (val6 c : Int)))) [] 0 []) := by
  refine Tri.of_code tok Tryd.func131 rfl rfl rfl (by decide) rfl (Nat.le_of_ble_eq_true rfl) ?_
  conv => whnf
  refine loop_by tok (α := Nat) (fun i => ⟨[(0, .v (bv c)), (3, .v (.int .i64 i))], [], 0, fx⟩) (fun i => i ≤ 64 ∧ ∀ j, j < i → sgn6 j ≠ c) (fun i => 64 - i) 0 [] ⟨by omega, fun j hj => by omega⟩ ⟨rfl, ?_, trivial, fun f hf => hf⟩ ?_
  · exact ⟨fun _ _ _ => rfl, fun _ _ _ => rfl, trivial⟩
  rintro i ⟨hi, ha⟩
  conv => whnf
  repeat' ((first | refine And.intro (by repeat' first | exact trivial | refine And.intro rfl ?_) (And.intro (by first | exact fun _ h => h | exact fun _ => List.mem_cons_of_mem _ | exact fun _ => List.mem_append_right _) ?_) | (refine And.intro (fun h => ?_) (fun h => ?_) <;> (try simp only [n1, n2, n3, n4, n5, n6] at h) <;> first | (exfalso; omega) | (cases h; done) | skip) | refine And.intro (by omega) ?_ | refine Exists.intro _ (And.intro (by first | exact And.intro rfl rfl | exact Pl.den (by repeat constructor) | with_reducible rfl | exact cast_succ _ | assumption | exact (Int.toNat_of_nonneg (by omega)).symm | rfl) ?_) | refine hD _ _ ?_ | refine hL _ _ ?_ | (intro h; (try simp only [n1, n2, n3, n4, n5, n6] at h); first | (exfalso; omega) | (cases h; done) | skip)) <;> (conv => whnf))
  · refine draw_tree tok (by kernel_rfl) (.step (.any 0) (.step (.any 2) (.two 1 (.step (.one 3) (.step (.one 4) (.step (.any 5) .done))) 3 (.two 1 (.step (.one 4) (.step (.any 5) .done)) 4 (.step (.one 1) (.step (.any 5) .done)))))) [] [] (by kernel_rfl) rfl rfl trivial ?_
    conv => whnf
    repeat' ((first | refine And.intro (by repeat' first | exact trivial | refine And.intro rfl ?_) (And.intro (by first | exact fun _ h => h | exact fun _ => List.mem_cons_of_mem _ | exact fun _ => List.mem_append_right _) ?_) | (refine And.intro (fun h => ?_) (fun h => ?_) <;> (try simp only [n1, n2, n3, n4, n5, n6] at h) <;> first | (exfalso; omega) | (cases h; done) | skip) | refine And.intro (by omega) ?_ | refine Exists.intro _ (And.intro (by first | exact And.intro rfl rfl | exact Pl.den (by repeat constructor) | with_reducible rfl | exact cast_succ _ | assumption | exact (Int.toNat_of_nonneg (by omega)).symm | rfl) ?_) | refine hD _ _ ?_ | refine hL _ _ ?_ | (intro h; (try simp only [n1, n2, n3, n4, n5, n6] at h); first | (exfalso; omega) | (cases h; done) | skip)) <;> (conv => whnf))
    refine And.intro ?_ ?_
    · conv => whnf
      repeat' ((first | refine And.intro (by repeat' first | exact trivial | refine And.intro rfl ?_) (And.intro (by first | exact fun _ h => h | exact fun _ => List.mem_cons_of_mem _ | exact fun _ => List.mem_append_right _) ?_) | (refine And.intro (fun h => ?_) (fun h => ?_) <;> (try simp only [n1, n2, n3, n4, n5, n6] at h) <;> first | (exfalso; omega) | (cases h; done) | skip) | refine And.intro (by omega) ?_ | refine Exists.intro _ (And.intro (by first | exact And.intro rfl rfl | exact Pl.den (by repeat constructor) | with_reducible rfl | exact cast_succ _ | assumption | exact (Int.toNat_of_nonneg (by omega)).symm | rfl) ?_) | refine hD _ _ ?_ | refine hL _ _ ?_ | (intro h; (try simp only [n1, n2, n3, n4, n5, n6] at h); first | (exfalso; omega) | (cases h; done) | skip)) <;> (conv => whnf))
      refine Tri.use (tSgn fx i (by omega) (by omega)).one [] rfl (args_ren rfl rfl) trivial (fun f hf => by first | exact hf | cases hf | simp_all) (fun u hu => ?_)
      conv => whnf
      repeat' ((first | refine And.intro (by repeat' first | exact trivial | refine And.intro rfl ?_) (And.intro (by first | exact fun _ h => h | exact fun _ => List.mem_cons_of_mem _ | exact fun _ => List.mem_append_right _) ?_) | (refine And.intro (fun h => ?_) (fun h => ?_) <;> (try simp only [n1, n2, n3, n4, n5, n6] at h) <;> first | (exfalso; omega) | (cases h; done) | skip) | refine And.intro (by omega) ?_ | refine Exists.intro _ (And.intro (by first | exact And.intro rfl rfl | exact Pl.den (by repeat constructor) | with_reducible rfl | exact cast_succ _ | assumption | exact (Int.toNat_of_nonneg (by omega)).symm | rfl) ?_) | refine hD _ _ ?_ | refine hL _ _ ?_ | (intro h; (try simp only [n1, n2, n3, n4, n5, n6] at h); first | (exfalso; omega) | (cases h; done) | skip)) <;> (conv => whnf))
      refine ⟨[c], rfl, ?_⟩
      conv => whnf
      repeat' ((first | refine And.intro (by repeat' first | exact trivial | refine And.intro rfl ?_) (And.intro (by first | exact fun _ h => h | exact fun _ => List.mem_cons_of_mem _ | exact fun _ => List.mem_append_right _) ?_) | (refine And.intro (fun h => ?_) (fun h => ?_) <;> (try simp only [n1, n2, n3, n4, n5, n6] at h) <;> first | (exfalso; omega) | (cases h; done) | skip) | refine And.intro (by omega) ?_ | refine Exists.intro _ (And.intro (by first | exact And.intro rfl rfl | exact Pl.den (by repeat constructor) | with_reducible rfl | exact cast_succ _ | assumption | exact (Int.toNat_of_nonneg (by omega)).symm | rfl) ?_) | refine hD _ _ ?_ | refine hL _ _ ?_ | (intro h; (try simp only [n1, n2, n3, n4, n5, n6] at h); first | (exfalso; omega) | (cases h; done) | skip)) <;> (conv => whnf))
      all_goals first
        | (refine Ret.noneS rfl (fun _ _ => ?_) (fun _ h => nomatch h)
           have hc : sgn6 i = c := by simpa [Int.toNat_natCast] using h
           have hv : val6 c = i := by rw [← hc]; exact val_sgn (by omega)
           simp only [den, hv]
           rw [if_neg (by omega)])
        | (refine ⟨i + 1, [], ⟨⟨by omega, fun j hj => ?_⟩, by omega⟩, rfl, ⟨fun _ _ _ => rfl, fun _ _ _ => rfl, trivial⟩, trivial, fun f hf => hf⟩
           have hc : sgn6 i ≠ c := by simpa [Int.toNat_natCast] using h
           rcases Nat.lt_succ_iff_lt_or_eq.1 hj with h2 | h2
           · exact ha j h2
           · rw [h2]; exact hc)
    · conv => whnf
      repeat' ((first | refine And.intro (by repeat' first | exact trivial | refine And.intro rfl ?_) (And.intro (by first | exact fun _ h => h | exact fun _ => List.mem_cons_of_mem _ | exact fun _ => List.mem_append_right _) ?_) | (refine And.intro (fun h => ?_) (fun h => ?_) <;> (try simp only [n1, n2, n3, n4, n5, n6] at h) <;> first | (exfalso; omega) | (cases h; done) | skip) | refine And.intro (by omega) ?_ | refine Exists.intro _ (And.intro (by first | exact And.intro rfl rfl | exact Pl.den (by repeat constructor) | with_reducible rfl | exact cast_succ _ | assumption | exact (Int.toNat_of_nonneg (by omega)).symm | rfl) ?_) | refine hD _ _ ?_ | refine hL _ _ ?_ | (intro h; (try simp only [n1, n2, n3, n4, n5, n6] at h); first | (exfalso; omega) | (cases h; done) | skip)) <;> (conv => whnf))
      refine And.intro ?_ ?_
      · conv => whnf
        repeat' ((first | refine And.intro (by repeat' first | exact trivial | refine And.intro rfl ?_) (And.intro (by first | exact fun _ h => h | exact fun _ => List.mem_cons_of_mem _ | exact fun _ => List.mem_append_right _) ?_) | (refine And.intro (fun h => ?_) (fun h => ?_) <;> (try simp only [n1, n2, n3, n4, n5, n6] at h) <;> first | (exfalso; omega) | (cases h; done) | skip) | refine And.intro (by omega) ?_ | refine Exists.intro _ (And.intro (by first | exact And.intro rfl rfl | exact Pl.den (by repeat constructor) | with_reducible rfl | exact cast_succ _ | assumption | exact (Int.toNat_of_nonneg (by omega)).symm | rfl) ?_) | refine hD _ _ ?_ | refine hL _ _ ?_ | (intro h; (try simp only [n1, n2, n3, n4, n5, n6] at h); first | (exfalso; omega) | (cases h; done) | skip)) <;> (conv => whnf))
        refine Tri.use (tSgn fx i (by omega) (by omega)).one [] rfl (args_ren rfl rfl) trivial (fun f hf => by first | exact hf | cases hf | simp_all) (fun u hu => ?_)
        conv => whnf
        repeat' ((first | refine And.intro (by repeat' first | exact trivial | refine And.intro rfl ?_) (And.intro (by first | exact fun _ h => h | exact fun _ => List.mem_cons_of_mem _ | exact fun _ => List.mem_append_right _) ?_) | (refine And.intro (fun h => ?_) (fun h => ?_) <;> (try simp only [n1, n2, n3, n4, n5, n6] at h) <;> first | (exfalso; omega) | (cases h; done) | skip) | refine And.intro (by omega) ?_ | refine Exists.intro _ (And.intro (by first | exact And.intro rfl rfl | exact Pl.den (by repeat constructor) | with_reducible rfl | exact cast_succ _ | assumption | exact (Int.toNat_of_nonneg (by omega)).symm | rfl) ?_) | refine hD _ _ ?_ | refine hL _ _ ?_ | (intro h; (try simp only [n1, n2, n3, n4, n5, n6] at h); first | (exfalso; omega) | (cases h; done) | skip)) <;> (conv => whnf))
        refine ⟨[c], rfl, ?_⟩
        conv => whnf
        repeat' ((first | refine And.intro (by repeat' first | exact trivial | refine And.intro rfl ?_) (And.intro (by first | exact fun _ h => h | exact fun _ => List.mem_cons_of_mem _ | exact fun _ => List.mem_append_right _) ?_) | (refine And.intro (fun h => ?_) (fun h => ?_) <;> (try simp only [n1, n2, n3, n4, n5, n6] at h) <;> first | (exfalso; omega) | (cases h; done) | skip) | refine And.intro (by omega) ?_ | refine Exists.intro _ (And.intro (by first | exact And.intro rfl rfl | exact Pl.den (by repeat constructor) | with_reducible rfl | exact cast_succ _ | assumption | exact (Int.toNat_of_nonneg (by omega)).symm | rfl) ?_) | refine hD _ _ ?_ | refine hL _ _ ?_ | (intro h; (try simp only [n1, n2, n3, n4, n5, n6] at h); first | (exfalso; omega) | (cases h; done) | skip)) <;> (conv => whnf))
        all_goals first
          | (refine Ret.noneS rfl (fun _ _ => ?_) (fun _ h => nomatch h)
             have hc : sgn6 i = c := by simpa [Int.toNat_natCast] using h
             have hv : val6 c = i := by rw [← hc]; exact val_sgn (by omega)
             simp only [den, hv]
             rw [if_neg (by omega)])
          | (refine ⟨i + 1, [], ⟨⟨by omega, fun j hj => ?_⟩, by omega⟩, rfl, ⟨fun _ _ _ => rfl, fun _ _ _ => rfl, trivial⟩, trivial, fun f hf => hf⟩
             have hc : sgn6 i ≠ c := by simpa [Int.toNat_natCast] using h
             rcases Nat.lt_succ_iff_lt_or_eq.1 hj with h2 | h2
             · exact ha j h2
             · rw [h2]; exact hc)
      · conv => whnf
        repeat' ((first | refine And.intro (by repeat' first | exact trivial | refine And.intro rfl ?_) (And.intro (by first | exact fun _ h => h | exact fun _ => List.mem_cons_of_mem _ | exact fun _ => List.mem_append_right _) ?_) | (refine And.intro (fun h => ?_) (fun h => ?_) <;> (try simp only [n1, n2, n3, n4, n5, n6] at h) <;> first | (exfalso; omega) | (cases h; done) | skip) | refine And.intro (by omega) ?_ | refine Exists.intro _ (And.intro (by first | exact And.intro rfl rfl | exact Pl.den (by repeat constructor) | with_reducible rfl | exact cast_succ _ | assumption | exact (Int.toNat_of_nonneg (by omega)).symm | rfl) ?_) | refine hD _ _ ?_ | refine hL _ _ ?_ | (intro h; (try simp only [n1, n2, n3, n4, n5, n6] at h); first | (exfalso; omega) | (cases h; done) | skip)) <;> (conv => whnf))
        refine ⟨[c], rfl, ?_⟩
        conv => whnf
        repeat' ((first | refine And.intro (by repeat' first | exact trivial | refine And.intro rfl ?_) (And.intro (by first | exact fun _ h => h | exact fun _ => List.mem_cons_of_mem _ | exact fun _ => List.mem_append_right _) ?_) | (refine And.intro (fun h => ?_) (fun h => ?_) <;> (try simp only [n1, n2, n3, n4, n5, n6] at h) <;> first | (exfalso; omega) | (cases h; done) | skip) | refine And.intro (by omega) ?_ | refine Exists.intro _ (And.intro (by first | exact And.intro rfl rfl | exact Pl.den (by repeat constructor) | with_reducible rfl | exact cast_succ _ | assumption | exact (Int.toNat_of_nonneg (by omega)).symm | rfl) ?_) | refine hD _ _ ?_ | refine hL _ _ ?_ | (intro h; (try simp only [n1, n2, n3, n4, n5, n6] at h); first | (exfalso; omega) | (cases h; done) | skip)) <;> (conv => whnf))
        refine Tri.use (tSgn fx i (by omega) (by omega)).one [] rfl (args_ren rfl rfl) trivial (fun f hf => by first | exact hf | cases hf | simp_all) (fun u hu => ?_)
        conv => whnf
        repeat' ((first | refine And.intro (by repeat' first | exact trivial | refine And.intro rfl ?_) (And.intro (by first | exact fun _ h => h | exact fun _ => List.mem_cons_of_mem _ | exact fun _ => List.mem_append_right _) ?_) | (refine And.intro (fun h => ?_) (fun h => ?_) <;> (try simp only [n1, n2, n3, n4, n5, n6] at h) <;> first | (exfalso; omega) | (cases h; done) | skip) | refine And.intro (by omega) ?_ | refine Exists.intro _ (And.intro (by first | exact And.intro rfl rfl | exact Pl.den (by repeat constructor) | with_reducible rfl | exact cast_succ _ | assumption | exact (Int.toNat_of_nonneg (by omega)).symm | rfl) ?_) | refine hD _ _ ?_ | refine hL _ _ ?_ | (intro h; (try simp only [n1, n2, n3, n4, n5, n6] at h); first | (exfalso; omega) | (cases h; done) | skip)) <;> (conv => whnf))
        all_goals first
          | (refine Ret.noneS rfl (fun _ _ => ?_) (fun _ h => nomatch h)
             have hc : sgn6 i = c := by simpa [Int.toNat_natCast] using h
             have hv : val6 c = i := by rw [← hc]; exact val_sgn (by omega)
             simp only [den, hv]
             rw [if_neg (by omega)])
          | (refine ⟨i + 1, [], ⟨⟨by omega, fun j hj => ?_⟩, by omega⟩, rfl, ⟨fun _ _ _ => rfl, fun _ _ _ => rfl, trivial⟩, trivial, fun f hf => hf⟩
             have hc : sgn6 i ≠ c := by simpa [Int.toNat_natCast] using h
             rcases Nat.lt_succ_iff_lt_or_eq.1 hj with h2 | h2
             · exact ha j h2
             · rw [h2]; exact hc)
  · refine Ret.noneS rfl (fun _ _ => ?_) (fun _ h => nomatch h)
    have h6 : val6 c = 64 := by
      have h1 := val6_le c
      have h2 : ¬ val6 c < 64 := fun h => ha _ (by omega) (sgn_val h)
      omega
    simp [den, h6]
theorem bb (l m : List UInt8) : (⟨l.toArray⟩ ++ ⟨m.toArray⟩ : ByteArray) = ⟨(l ++ m).toArray⟩ := by
  apply ByteArray.ext
  apply Array.ext'
  rw [app_list]
theorem arr_size (l : List UInt8) : (⟨l.toArray⟩ : ByteArray).size = l.length := by simp [ByteArray.size]
theorem take1 {bs : List UInt8} {i : Nat} {x : UInt8} (hx : bs[i]? = some x) : bs.take (i + 1) = bs.take i ++ [x] := take_succ_of hx
theorem take2 {bs : List UInt8} {i : Nat} {x y : UInt8} (hx : bs[i]? = some x) (hy : bs[i + 1]? = some y) : bs.take (i + 2) = bs.take i ++ [x, y] := by
  rw [take1 hy, take1 hx, List.append_assoc]; rfl
theorem take3 {bs : List UInt8} {i : Nat} {x y z : UInt8} (hx : bs[i]? = some x) (hy : bs[i + 1]? = some y) (hz : bs[i + 2]? = some z) : bs.take (i + 3) = bs.take i ++ [x, y, z] := by
  rw [take1 hz, take2 hx hy, List.append_assoc]; rfl
theorem tRefEncode (fx : List Fact) (A : Option Addr) (cap : Nat) (bs : List UInt8) (hb : bs.length ≤ 1000000000) (hB : BytesAt fx A bs) :
    Tri Tryd.prog 81 [.v (.slice A bs.length cap)] [] 0 fx (Ret 0 (.v (.string ⟨(enc bs).toArray⟩)) [] 0 []) := by
  refine Tri.of_code tok Tryd.func81 rfl rfl rfl (by decide) rfl (Nat.le_of_ble_eq_true rfl) ?_
  conv => whnf
  refine loop_by tok (α := Nat) (fun i => ⟨[(0, .v (.slice A bs.length cap)), (3, .v (.string ⟨(enc (bs.take i)).toArray⟩)), (4, .v (.int .i64 i))], [], 0, fx⟩) (fun i => i ≤ bs.length ∧ i % 3 = 0) (fun i => bs.length - i) 0 [] ⟨by omega, rfl⟩ ⟨rfl, ?_, trivial, fun f hf => hf⟩ ?_
  · exact ⟨fun _ _ _ => rfl, fun _ _ _ => rfl, fun _ _ _ => rfl, trivial⟩
  rintro i ⟨hi, h3⟩
  have hlen := enc_length (bs.take i)
  rw [List.length_take, Nat.min_eq_left hi] at hlen
  conv => whnf
  repeat' ((first | refine And.intro (by repeat' first | exact trivial | refine And.intro rfl ?_) (And.intro (by first | exact fun _ h => h | exact fun _ => List.mem_cons_of_mem _ | exact fun _ => List.mem_append_right _) ?_) | (refine And.intro (fun h => ?_) (fun h => ?_) <;> (try simp only [n1, n2, n3, n4, n5, n6] at h) <;> first | (exfalso; omega) | (cases h; done) | skip) | refine And.intro (by omega) ?_ | refine Exists.intro _ (And.intro (by first | exact And.intro rfl rfl | exact Pl.den (by repeat constructor) | with_reducible rfl | exact cast_succ _ | assumption | exact (Int.toNat_of_nonneg (by omega)).symm | rfl) ?_) | refine hD _ _ ?_ | refine hL _ _ ?_ | (intro h; (try simp only [n1, n2, n3, n4, n5, n6] at h); first | (exfalso; omega) | (cases h; done) | skip)) <;> (conv => whnf))
  · refine draw_rule tok (by kernel_rfl) [.any 0, .any 1, .any 2, .any 5, .any 6, .any 7, .any 8, .any 11, .any 12, .any 13, .any 14, .load 3, .any 4, .any 17, .load 9, .any 10, .any 18, .one 15, .any 16, .any 19] [] [] (by kernel_rfl) rfl rfl trivial ?_
    obtain ⟨ad, rfl, g0⟩ := hB.get (i := i) (by omega)
    have k0 := List.getElem?_eq_getElem (l := bs) (i := i) (by omega)
    generalize bs[i] = x0 at g0 k0
    have l0 := bv_lt x0
    obtain ⟨ad1, e1, g1⟩ := hB.get (i := i + 1) (by omega)
    have k1 := List.getElem?_eq_getElem (l := bs) (i := i + 1) (by omega)
    generalize bs[i + 1] = x1 at g1 k1
    have l1 := bv_lt x1
    obtain ⟨ad2, e2, g2⟩ := hB.get (i := i + 2) (by omega)
    have k2 := List.getElem?_eq_getElem (l := bs) (i := i + 2) (by omega)
    generalize bs[i + 2] = x2 at g2 k2
    have l2 := bv_lt x2
    obtain rfl := Option.some.inj e1
    obtain rfl := Option.some.inj e2
    conv => whnf
    repeat' ((first | (refine Exists.intro (i + 2) (And.intro (show (i : Int) + 2 = ((i + 2 : Nat) : Int) by omega) ?_)) | refine And.intro (by repeat' first | exact trivial | refine And.intro rfl ?_) (And.intro (by first | exact fun _ h => h | exact fun _ => List.mem_cons_of_mem _ | exact fun _ => List.mem_append_right _) ?_) | (refine And.intro (fun h => ?_) (fun h => ?_) <;> (try simp only [n1, n2, n3, n4, n5, n6] at h) <;> first | (exfalso; omega) | (cases h; done) | skip) | refine And.intro (by omega) ?_ | refine Exists.intro _ (And.intro (by first | exact And.intro rfl rfl | exact Pl.den (by repeat constructor) | with_reducible rfl | exact cast_succ _ | assumption | exact (Int.toNat_of_nonneg (by omega)).symm | rfl) ?_) | refine hD _ _ ?_ | refine hL _ _ ?_ | (intro h; (try simp only [n1, n2, n3, n4, n5, n6] at h); first | (exfalso; omega) | (cases h; done) | skip)) <;> (conv => whnf))
    refine Tri.use (tSgn fx ((x0.toNat : Int) / 4) (by omega) (by omega)).one [] rfl (args_ren rfl rfl) trivial (fun f hf => by first | exact hf | cases hf | simp_all) (fun u hu => ?_)
    conv => whnf
    repeat' ((first | (refine And.intro (by simp only [app_size, one_size, arr_size, List.length_cons, List.length_nil]; omega) ?_) | refine And.intro (by repeat' first | exact trivial | refine And.intro rfl ?_) (And.intro (by first | exact fun _ h => h | exact fun _ => List.mem_cons_of_mem _ | exact fun _ => List.mem_append_right _) ?_) | (refine And.intro (fun h => ?_) (fun h => ?_) <;> (try simp only [n1, n2, n3, n4, n5, n6] at h) <;> first | (exfalso; omega) | (cases h; done) | skip) | refine And.intro (by omega) ?_ | refine Exists.intro _ (And.intro (by first | exact And.intro rfl rfl | exact Pl.den (by repeat constructor) | with_reducible rfl | exact cast_succ _ | assumption | exact (Int.toNat_of_nonneg (by omega)).symm | rfl) ?_) | refine hD _ _ ?_ | refine hL _ _ ?_ | (intro h; (try simp only [n1, n2, n3, n4, n5, n6] at h); first | (exfalso; omega) | (cases h; done) | skip)) <;> (conv => whnf))
    refine Tri.use (tSgn fx ((x0.toNat : Int) % 4 * 16 + (x1.toNat : Int) / 16) (by omega) (by omega)).one [] rfl (args_ren rfl rfl) trivial (fun f hf => by first | exact hf | cases hf | simp_all) (fun u hu => ?_)
    conv => whnf
    repeat' ((first | (refine And.intro (by simp only [app_size, one_size, arr_size, List.length_cons, List.length_nil]; omega) ?_) | refine And.intro (by repeat' first | exact trivial | refine And.intro rfl ?_) (And.intro (by first | exact fun _ h => h | exact fun _ => List.mem_cons_of_mem _ | exact fun _ => List.mem_append_right _) ?_) | (refine And.intro (fun h => ?_) (fun h => ?_) <;> (try simp only [n1, n2, n3, n4, n5, n6] at h) <;> first | (exfalso; omega) | (cases h; done) | skip) | refine And.intro (by omega) ?_ | refine Exists.intro _ (And.intro (by first | exact And.intro rfl rfl | exact Pl.den (by repeat constructor) | with_reducible rfl | exact cast_succ _ | assumption | exact (Int.toNat_of_nonneg (by omega)).symm | rfl) ?_) | refine hD _ _ ?_ | refine hL _ _ ?_ | (intro h; (try simp only [n1, n2, n3, n4, n5, n6] at h); first | (exfalso; omega) | (cases h; done) | skip)) <;> (conv => whnf))
    refine Tri.use (tSgn fx ((x1.toNat : Int) % 16 * 4 + (x2.toNat : Int) / 64) (by omega) (by omega)).one [] rfl (args_ren rfl rfl) trivial (fun f hf => by first | exact hf | cases hf | simp_all) (fun u hu => ?_)
    conv => whnf
    repeat' ((first | (refine And.intro (by simp only [app_size, one_size, arr_size, List.length_cons, List.length_nil]; omega) ?_) | refine And.intro (by repeat' first | exact trivial | refine And.intro rfl ?_) (And.intro (by first | exact fun _ h => h | exact fun _ => List.mem_cons_of_mem _ | exact fun _ => List.mem_append_right _) ?_) | (refine And.intro (fun h => ?_) (fun h => ?_) <;> (try simp only [n1, n2, n3, n4, n5, n6] at h) <;> first | (exfalso; omega) | (cases h; done) | skip) | refine And.intro (by omega) ?_ | refine Exists.intro _ (And.intro (by first | exact And.intro rfl rfl | exact Pl.den (by repeat constructor) | with_reducible rfl | exact cast_succ _ | assumption | exact (Int.toNat_of_nonneg (by omega)).symm | rfl) ?_) | refine hD _ _ ?_ | refine hL _ _ ?_ | (intro h; (try simp only [n1, n2, n3, n4, n5, n6] at h); first | (exfalso; omega) | (cases h; done) | skip)) <;> (conv => whnf))
    refine Tri.use (tSgn fx ((x2.toNat : Int) % 64) (by omega) (by omega)).one [] rfl (args_ren rfl rfl) trivial (fun f hf => by first | exact hf | cases hf | simp_all) (fun u hu => ?_)
    conv => whnf
    repeat' ((first | (refine And.intro (by simp only [app_size, one_size, arr_size, List.length_cons, List.length_nil]; omega) ?_) | refine And.intro (by repeat' first | exact trivial | refine And.intro rfl ?_) (And.intro (by first | exact fun _ h => h | exact fun _ => List.mem_cons_of_mem _ | exact fun _ => List.mem_append_right _) ?_) | (refine And.intro (fun h => ?_) (fun h => ?_) <;> (try simp only [n1, n2, n3, n4, n5, n6] at h) <;> first | (exfalso; omega) | (cases h; done) | skip) | refine And.intro (by omega) ?_ | refine Exists.intro _ (And.intro (by first | exact And.intro rfl rfl | exact Pl.den (by repeat constructor) | with_reducible rfl | exact cast_succ _ | assumption | exact (Int.toNat_of_nonneg (by omega)).symm | rfl) ?_) | refine hD _ _ ?_ | refine hL _ _ ?_ | (intro h; (try simp only [n1, n2, n3, n4, n5, n6] at h); first | (exfalso; omega) | (cases h; done) | skip)) <;> (conv => whnf))
    have hti : (bs.take i).length % 3 = 0 := by rw [List.length_take]; omega
    have e1 : ((x0.toNat : Int) / 4).toNat = x0.toNat / 4 := by omega
    have e2 : ((x0.toNat : Int) % 4 * 16 + (x1.toNat : Int) / 16).toNat = x0.toNat % 4 * 16 + x1.toNat / 16 := by omega
    have e3 : ((x1.toNat : Int) % 16 * 4 + (x2.toNat : Int) / 64).toNat = x1.toNat % 16 * 4 + x2.toNat / 64 := by omega
    have e4 : ((x2.toNat : Int) % 64).toNat = x2.toNat % 64 := by omega
    refine ⟨i + 3, [], ⟨⟨by omega, by omega⟩, by omega⟩, rfl, ⟨fun _ _ _ => rfl, SEq.eq ?_, fun _ _ _ => rfl, trivial⟩, trivial, fun f hf => hf⟩
    rw [bb, bb, bb, bb, take3 k0 k1 k2, enc_append _ _ hti, e1, e2, e3, e4]
    rfl
  · obtain ⟨ad, rfl, g0⟩ := hB.get (i := i) (by omega)
    have k0 := List.getElem?_eq_getElem (l := bs) (i := i) (by omega)
    generalize bs[i] = x0 at g0 k0
    have l0 := bv_lt x0
    conv => whnf
    repeat' ((first | refine And.intro (by repeat' first | exact trivial | refine And.intro rfl ?_) (And.intro (by first | exact fun _ h => h | exact fun _ => List.mem_cons_of_mem _ | exact fun _ => List.mem_append_right _) ?_) | (refine And.intro (fun h => ?_) (fun h => ?_) <;> (try simp only [n1, n2, n3, n4, n5, n6] at h) <;> first | (exfalso; omega) | (cases h; done) | skip) | refine And.intro (by omega) ?_ | refine Exists.intro _ (And.intro (by first | exact And.intro rfl rfl | exact Pl.den (by repeat constructor) | with_reducible rfl | exact cast_succ _ | assumption | exact (Int.toNat_of_nonneg (by omega)).symm | rfl) ?_) | refine hD _ _ ?_ | refine hL _ _ ?_ | (intro h; (try simp only [n1, n2, n3, n4, n5, n6] at h); first | (exfalso; omega) | (cases h; done) | skip)) <;> (conv => whnf))
    refine Tri.use (tSgn fx ((x0.toNat : Int) / 4) (by omega) (by omega)).one [] rfl (args_ren rfl rfl) trivial (fun f hf => by first | exact hf | cases hf | simp_all) (fun u hu => ?_)
    conv => whnf
    repeat' ((first | (refine And.intro (by simp only [app_size, one_size, arr_size, List.length_cons, List.length_nil]; omega) ?_) | refine And.intro (by repeat' first | exact trivial | refine And.intro rfl ?_) (And.intro (by first | exact fun _ h => h | exact fun _ => List.mem_cons_of_mem _ | exact fun _ => List.mem_append_right _) ?_) | (refine And.intro (fun h => ?_) (fun h => ?_) <;> (try simp only [n1, n2, n3, n4, n5, n6] at h) <;> first | (exfalso; omega) | (cases h; done) | skip) | refine And.intro (by omega) ?_ | refine Exists.intro _ (And.intro (by first | exact And.intro rfl rfl | exact Pl.den (by repeat constructor) | with_reducible rfl | exact cast_succ _ | assumption | exact (Int.toNat_of_nonneg (by omega)).symm | rfl) ?_) | refine hD _ _ ?_ | refine hL _ _ ?_ | (intro h; (try simp only [n1, n2, n3, n4, n5, n6] at h); first | (exfalso; omega) | (cases h; done) | skip)) <;> (conv => whnf))
    refine Tri.use (tSgn fx ((x0.toNat : Int) % 4 * 16) (by omega) (by omega)).one [] rfl (args_ren rfl rfl) trivial (fun f hf => by first | exact hf | cases hf | simp_all) (fun u hu => ?_)
    conv => whnf
    repeat' ((first | (refine And.intro (by simp only [app_size, one_size, arr_size, List.length_cons, List.length_nil]; omega) ?_) | refine And.intro (by repeat' first | exact trivial | refine And.intro rfl ?_) (And.intro (by first | exact fun _ h => h | exact fun _ => List.mem_cons_of_mem _ | exact fun _ => List.mem_append_right _) ?_) | (refine And.intro (fun h => ?_) (fun h => ?_) <;> (try simp only [n1, n2, n3, n4, n5, n6] at h) <;> first | (exfalso; omega) | (cases h; done) | skip) | refine And.intro (by omega) ?_ | refine Exists.intro _ (And.intro (by first | exact And.intro rfl rfl | exact Pl.den (by repeat constructor) | with_reducible rfl | exact cast_succ _ | assumption | exact (Int.toNat_of_nonneg (by omega)).symm | rfl) ?_) | refine hD _ _ ?_ | refine hL _ _ ?_ | (intro h; (try simp only [n1, n2, n3, n4, n5, n6] at h); first | (exfalso; omega) | (cases h; done) | skip)) <;> (conv => whnf))
    have hti : (bs.take i).length % 3 = 0 := by rw [List.length_take]; omega
    have e1 : ((x0.toNat : Int) / 4).toNat = x0.toNat / 4 := by omega
    have e2 : ((x0.toNat : Int) % 4 * 16).toNat = x0.toNat % 4 * 16 := by omega
    refine Ret.noneS rfl (fun _ _ => ?_) (fun _ h => nomatch h)
    have ht : bs = bs.take i ++ [x0] := by rw [← take1 k0, List.take_of_length_le (by omega)]
    show Value.string _ = Value.string _
    rw [bb, bb, bb, e1, e2]
    conv => lhs; rw [ht, enc_append _ _ hti]
    rfl
  · refine draw_rule tok (by kernel_rfl) [.any 0, .any 1, .any 2, .any 5, .any 6, .any 7, .any 8, .load 3, .any 4, .any 11, .one 9, .any 10, .any 12] [] [] (by kernel_rfl) rfl rfl trivial ?_
    obtain ⟨ad, rfl, g0⟩ := hB.get (i := i) (by omega)
    have k0 := List.getElem?_eq_getElem (l := bs) (i := i) (by omega)
    generalize bs[i] = x0 at g0 k0
    have l0 := bv_lt x0
    obtain ⟨ad1, e1, g1⟩ := hB.get (i := i + 1) (by omega)
    have k1 := List.getElem?_eq_getElem (l := bs) (i := i + 1) (by omega)
    generalize bs[i + 1] = x1 at g1 k1
    have l1 := bv_lt x1
    obtain rfl := Option.some.inj e1
    conv => whnf
    repeat' ((first | refine And.intro (by repeat' first | exact trivial | refine And.intro rfl ?_) (And.intro (by first | exact fun _ h => h | exact fun _ => List.mem_cons_of_mem _ | exact fun _ => List.mem_append_right _) ?_) | (refine And.intro (fun h => ?_) (fun h => ?_) <;> (try simp only [n1, n2, n3, n4, n5, n6] at h) <;> first | (exfalso; omega) | (cases h; done) | skip) | refine And.intro (by omega) ?_ | refine Exists.intro _ (And.intro (by first | exact And.intro rfl rfl | exact Pl.den (by repeat constructor) | with_reducible rfl | exact cast_succ _ | assumption | exact (Int.toNat_of_nonneg (by omega)).symm | rfl) ?_) | refine hD _ _ ?_ | refine hL _ _ ?_ | (intro h; (try simp only [n1, n2, n3, n4, n5, n6] at h); first | (exfalso; omega) | (cases h; done) | skip)) <;> (conv => whnf))
    refine Tri.use (tSgn fx ((x0.toNat : Int) / 4) (by omega) (by omega)).one [] rfl (args_ren rfl rfl) trivial (fun f hf => by first | exact hf | cases hf | simp_all) (fun u hu => ?_)
    conv => whnf
    repeat' ((first | (refine And.intro (by simp only [app_size, one_size, arr_size, List.length_cons, List.length_nil]; omega) ?_) | refine And.intro (by repeat' first | exact trivial | refine And.intro rfl ?_) (And.intro (by first | exact fun _ h => h | exact fun _ => List.mem_cons_of_mem _ | exact fun _ => List.mem_append_right _) ?_) | (refine And.intro (fun h => ?_) (fun h => ?_) <;> (try simp only [n1, n2, n3, n4, n5, n6] at h) <;> first | (exfalso; omega) | (cases h; done) | skip) | refine And.intro (by omega) ?_ | refine Exists.intro _ (And.intro (by first | exact And.intro rfl rfl | exact Pl.den (by repeat constructor) | with_reducible rfl | exact cast_succ _ | assumption | exact (Int.toNat_of_nonneg (by omega)).symm | rfl) ?_) | refine hD _ _ ?_ | refine hL _ _ ?_ | (intro h; (try simp only [n1, n2, n3, n4, n5, n6] at h); first | (exfalso; omega) | (cases h; done) | skip)) <;> (conv => whnf))
    refine Tri.use (tSgn fx ((x0.toNat : Int) % 4 * 16 + (x1.toNat : Int) / 16) (by omega) (by omega)).one [] rfl (args_ren rfl rfl) trivial (fun f hf => by first | exact hf | cases hf | simp_all) (fun u hu => ?_)
    conv => whnf
    repeat' ((first | (refine And.intro (by simp only [app_size, one_size, arr_size, List.length_cons, List.length_nil]; omega) ?_) | refine And.intro (by repeat' first | exact trivial | refine And.intro rfl ?_) (And.intro (by first | exact fun _ h => h | exact fun _ => List.mem_cons_of_mem _ | exact fun _ => List.mem_append_right _) ?_) | (refine And.intro (fun h => ?_) (fun h => ?_) <;> (try simp only [n1, n2, n3, n4, n5, n6] at h) <;> first | (exfalso; omega) | (cases h; done) | skip) | refine And.intro (by omega) ?_ | refine Exists.intro _ (And.intro (by first | exact And.intro rfl rfl | exact Pl.den (by repeat constructor) | with_reducible rfl | exact cast_succ _ | assumption | exact (Int.toNat_of_nonneg (by omega)).symm | rfl) ?_) | refine hD _ _ ?_ | refine hL _ _ ?_ | (intro h; (try simp only [n1, n2, n3, n4, n5, n6] at h); first | (exfalso; omega) | (cases h; done) | skip)) <;> (conv => whnf))
    refine Tri.use (tSgn fx ((x1.toNat : Int) % 16 * 4) (by omega) (by omega)).one [] rfl (args_ren rfl rfl) trivial (fun f hf => by first | exact hf | cases hf | simp_all) (fun u hu => ?_)
    conv => whnf
    repeat' ((first | (refine And.intro (by simp only [app_size, one_size, arr_size, List.length_cons, List.length_nil]; omega) ?_) | refine And.intro (by repeat' first | exact trivial | refine And.intro rfl ?_) (And.intro (by first | exact fun _ h => h | exact fun _ => List.mem_cons_of_mem _ | exact fun _ => List.mem_append_right _) ?_) | (refine And.intro (fun h => ?_) (fun h => ?_) <;> (try simp only [n1, n2, n3, n4, n5, n6] at h) <;> first | (exfalso; omega) | (cases h; done) | skip) | refine And.intro (by omega) ?_ | refine Exists.intro _ (And.intro (by first | exact And.intro rfl rfl | exact Pl.den (by repeat constructor) | with_reducible rfl | exact cast_succ _ | assumption | exact (Int.toNat_of_nonneg (by omega)).symm | rfl) ?_) | refine hD _ _ ?_ | refine hL _ _ ?_ | (intro h; (try simp only [n1, n2, n3, n4, n5, n6] at h); first | (exfalso; omega) | (cases h; done) | skip)) <;> (conv => whnf))
    have hti : (bs.take i).length % 3 = 0 := by rw [List.length_take]; omega
    have e1 : ((x0.toNat : Int) / 4).toNat = x0.toNat / 4 := by omega
    have e2 : ((x0.toNat : Int) % 4 * 16 + (x1.toNat : Int) / 16).toNat = x0.toNat % 4 * 16 + x1.toNat / 16 := by omega
    have e3 : ((x1.toNat : Int) % 16 * 4).toNat = x1.toNat % 16 * 4 := by omega
    refine Ret.noneS rfl (fun _ _ => ?_) (fun _ h => nomatch h)
    have ht : bs = bs.take i ++ [x0, x1] := by rw [← take2 k0 k1, List.take_of_length_le (by omega)]
    show Value.string _ = Value.string _
    rw [bb, bb, bb, bb, e1, e2, e3]
    conv => lhs; rw [ht, enc_append _ _ hti]
    rfl
  · obtain rfl : i = bs.length := by omega
    refine Ret.noneS rfl (fun _ _ => ?_) (fun _ h => nomatch h)
    simp [den]
end Go.Proofs.YtekgjjanikicnaaDoor.Sx

namespace Go.Proofs.YtekgjjanikicnaaDoor.Sx
open Go Go.RowKit
set_option maxRecDepth 100000
set_option linter.unusedSimpArgs false
set_option linter.unusedVariables false
/-- A head. -/
structure Hd where
  org : ByteArray
  size : Int
  root : List UInt8
structure Hd.Fit (h : Hd) : Prop where
  root : h.root.length = 32
  size : -9223372036854775808 ≤ h.size ∧ h.size < 9223372036854775808
  org : h.org.size < 9223372036854775808
def Hd.cells (h : Hd) : List Value := [.string h.org, .int .i64 h.size] ++ h.root.map bv
def Hd.v (h : Hd) : Value := .agg ⟨h.cells⟩
def Hd.ok (h : Hd) : Bool := nameOk h.org.data.toList && decide (0 ≤ h.size ∧ h.size < 2147483648)
def Hd.text (h : Hd) : List UInt8 := h.org.data.toList ++ [10] ++ Lib.decDigits h.size.toNat ++ [10] ++ enc h.root ++ [10]
def strS (l : List UInt8) : Value := .string ⟨l.toArray⟩
def Hd.res (h : Hd) : SV := if h.ok then .tup [.v (strS h.text), .b true] else .tup [.v (.string ⟨#[]⟩), .b false]
theorem Hd.one {h : Hd} : ∀ u ∈ h.cells, u.oneCell' = true := by
  intro u hu
  rcases List.mem_append.1 hu with hu | hu
  · simp only [List.mem_cons, List.mem_nil_iff, or_false] at hu
    rcases hu with rfl | rfl <;> rfl
  · obtain ⟨c, _, rfl⟩ := List.mem_map.1 hu
    rfl
theorem nameOk_len {l : List UInt8} (h : nameOk l = true) : 1 ≤ l.length ∧ l.length ≤ 40 := by
  simp only [nameOk, Bool.and_eq_true, decide_eq_true_eq] at h
  exact h.2
theorem Hd.res_ok {d : Hd} (h : d.ok = true) : d.res = .tup [.v (strS d.text), .b true] := by unfold Hd.res; rw [h]; rfl
theorem Hd.res_no {d : Hd} (h : d.ok = false) : d.res = .tup [.v (.string ⟨#[]⟩), .b false] := by unfold Hd.res; rw [h]; rfl
theorem wrap_nat (n : Nat) (h : n < 18446744073709551616) : IntKind.u64.wrap (n : Int) = (n : Int) := by rw [wrap_u64_nat, Nat.mod_eq_of_lt h]
theorem tText (fx : List Fact) (hg : gTab ∈ fx) (d : Hd) (hf : d.Fit) : Tri Tryd.prog 34 [.v d.v] [] 0 fx (Ret 0 d.res [] 0 []) := by
  refine Tri.of_code tok Tryd.func34 rfl rfl rfl (by decide) rfl (Nat.le_of_ble_eq_true rfl) ?_
  conv => whnf
  repeat' ((first | refine And.intro (by repeat' first | exact trivial | refine And.intro rfl ?_) (And.intro (by first | exact fun _ h => h | exact fun _ => List.mem_cons_of_mem _ | exact fun _ => List.mem_append_right _) ?_) | (refine And.intro (fun h => ?_) (fun h => ?_) <;> (try simp only [n1, n2, n3, n4, n5, n6] at h) <;> first | (exfalso; omega) | (cases h; done) | skip) | refine And.intro (by omega) ?_ | refine Exists.intro _ (And.intro (by first | exact And.intro rfl rfl | exact Pl.den (by repeat constructor) | with_reducible rfl | exact cast_succ _ | assumption | exact (Int.toNat_of_nonneg (by omega)).symm | rfl) ?_) | refine hD _ _ ?_ | refine hL _ _ ?_ | (intro h; (try simp only [n1, n2, n3, n4, n5, n6] at h); first | (exfalso; omega) | (cases h; done) | skip)) <;> (conv => whnf))
  refine And.intro Hd.one ?_
  conv => whnf
  repeat' ((first | refine And.intro (by repeat' first | exact trivial | refine And.intro rfl ?_) (And.intro (by first | exact fun _ h => h | exact fun _ => List.mem_cons_of_mem _ | exact fun _ => List.mem_append_right _) ?_) | (refine And.intro (fun h => ?_) (fun h => ?_) <;> (try simp only [n1, n2, n3, n4, n5, n6] at h) <;> first | (exfalso; omega) | (cases h; done) | skip) | refine And.intro (by omega) ?_ | refine Exists.intro _ (And.intro (by first | exact And.intro rfl rfl | exact Pl.den (by repeat constructor) | with_reducible rfl | exact cast_succ _ | assumption | exact (Int.toNat_of_nonneg (by omega)).symm | rfl) ?_) | refine hD _ _ ?_ | refine hL _ _ ?_ | (intro h; (try simp only [n1, n2, n3, n4, n5, n6] at h); first | (exfalso; omega) | (cases h; done) | skip)) <;> (conv => whnf))
  refine Tri.use (tName d.org (by have := hf.org; omega)) [] rfl (fun _ _ _ => rfl) trivial (fun f hf => by first | exact hf | cases hf) (fun u hu => ?_)
  conv => whnf
  repeat' ((first | refine And.intro (by repeat' first | exact trivial | refine And.intro rfl ?_) (And.intro (by first | exact fun _ h => h | exact fun _ => List.mem_cons_of_mem _ | exact fun _ => List.mem_append_right _) ?_) | (refine And.intro (fun h => ?_) (fun h => ?_) <;> (try simp only [n1, n2, n3, n4, n5, n6] at h) <;> first | (exfalso; omega) | (cases h; done) | skip) | refine And.intro (by omega) ?_ | refine Exists.intro _ (And.intro (by first | exact And.intro rfl rfl | exact Pl.den (by repeat constructor) | with_reducible rfl | exact cast_succ _ | assumption | exact (Int.toNat_of_nonneg (by omega)).symm | rfl) ?_) | refine hD _ _ ?_ | refine hL _ _ ?_ | (intro h; (try simp only [n1, n2, n3, n4, n5, n6] at h); first | (exfalso; omega) | (cases h; done) | skip)) <;> (conv => whnf))
  · rw [Hd.res_no (by unfold Hd.ok; rw [h]; rfl)]
    exact Ret.noneS rfl (fun _ _ => rfl) (fun g hg => by cases hg)
  · rw [Hd.res_no (by unfold Hd.ok; rw [decide_eq_false (by omega)]; simp)]
    exact Ret.noneS rfl (fun _ _ => rfl) (fun g hg => by cases hg)
  · rw [Hd.res_no (by unfold Hd.ok; rw [decide_eq_false (by omega)]; simp)]
    exact Ret.noneS rfl (fun _ _ => rfl) (fun g hg => by cases hg)
  rename_i hn h0
  obtain ⟨org, size, root⟩ := d
  obtain ⟨n, rfl⟩ : ∃ n : Nat, size = (n : Int) := ⟨size.toNat, by simp only at *; omega⟩
  have hn1 := nameOk_len hn
  have horg := list_size org
  simp only at hn h0 h hn1 horg
  rw [horg] at hn1
  have h64 : n < 18446744073709551616 := by omega
  rw [Hd.res_ok (by unfold Hd.ok; rw [decide_eq_true (by simp only; omega), hn]; rfl)]
  refine draw_opaque fun KD hD => ?_
  refine draw_all tok (by kernel_rfl) [.any 0, .any 3, .any 9, .any 10, .load 1, .any 2, .one 4, .any 5, .one 6, .any 7, .any 8, .one 11, .any 12, .any 13, .any 14, .any 15] [] (by kernel_rfl) rfl rfl (by repeat' (first | exact trivial | refine And.intro rfl ?_)) ?_
  have ew := wrap_nat n h64
  have hdl := nDigits_le n h64
  have hds := decDigits_size n h64
  have hrl : root.length = 32 := hf.root
  have h10 : (⟨#[10]⟩ : ByteArray).size = 1 := rfl
  conv => whnf
  repeat' ((first | (refine And.intro (by simp only [app_size, h10]; omega) ?_) | refine And.intro (by repeat' first | exact trivial | refine And.intro rfl ?_) (And.intro (by first | exact fun _ h => h | exact fun _ => List.mem_cons_of_mem _ | exact fun _ => List.mem_append_right _) ?_) | (refine And.intro (fun h => ?_) (fun h => ?_) <;> (try simp only [n1, n2, n3, n4, n5, n6] at h) <;> first | (exfalso; omega) | (cases h; done) | skip) | refine And.intro (by omega) ?_ | refine Exists.intro _ (And.intro (by first | exact And.intro rfl rfl | exact Pl.den (by repeat constructor) | with_reducible rfl | exact cast_succ _ | assumption | exact (Int.toNat_of_nonneg (by omega)).symm | rfl) ?_) | refine hD _ _ ?_ | refine hL _ _ ?_ | (intro h; (try simp only [n1, n2, n3, n4, n5, n6] at h); first | (exfalso; omega) | (cases h; done) | skip)) <;> (conv => whnf))
  refine Tri.use ((tDigits fx hg n h64).one) [] rfl (fun _ _ _ => by simp only [denL_cons, denL_nil, den, ew]; try rfl) trivial (fun f hf => by first | exact hf | cases hf) (fun v hv => ?_)
  conv => whnf
  repeat' ((first | (refine And.intro (by simp only [app_size, h10, hds]; omega) ?_) | refine And.intro (by repeat' first | exact trivial | refine And.intro rfl ?_) (And.intro (by first | exact fun _ h => h | exact fun _ => List.mem_cons_of_mem _ | exact fun _ => List.mem_append_right _) ?_) | (refine And.intro (fun h => ?_) (fun h => ?_) <;> (try simp only [n1, n2, n3, n4, n5, n6] at h) <;> first | (exfalso; omega) | (cases h; done) | skip) | refine And.intro (by omega) ?_ | refine Exists.intro _ (And.intro (by first | exact And.intro rfl rfl | exact Pl.den (by repeat constructor) | with_reducible rfl | exact cast_succ _ | assumption | exact (Int.toNat_of_nonneg (by omega)).symm | rfl) ?_) | refine hD _ _ ?_ | refine hL _ _ ?_ | (intro h; (try simp only [n1, n2, n3, n4, n5, n6] at h); first | (exfalso; omega) | (cases h; done) | skip)) <;> (conv => whnf))
  refine Tri.lend 0 (xs := Hd.cells ⟨org, (n : Int), root⟩) (T := 52) (fun b => [.v (.slice (some ⟨b, 2, none⟩) 32 32)]) (List.mem_cons_self ..) rowOf.row (fun _ => rfl) fun b => ?_
  refine Tri.use (tEncode (rowFact b (Hd.cells ⟨org, (n : Int), root⟩) 52 :: fx) (some ⟨b, 2, none⟩) 32 root (by omega) (by omega) (BytesAt.row (List.mem_cons_self ..) (by show (root.map bv).take root.length = _; rw [List.take_of_length_le (by simp)]))).one [] rfl (fun _ _ _ => by rw [hrl]; rfl) trivial (fun f hf => hf) fun u hu => ?_
  conv => whnf
  refine And.intro rfl ?_
  have hel := enc_length root
  have hes := arr_size (enc root)
  conv => whnf
  repeat' ((first | (refine And.intro (by simp only [app_size, h10, hds, hes]; omega) ?_) | refine And.intro (by repeat' first | exact trivial | refine And.intro rfl ?_) (And.intro (by first | exact fun _ h => h | exact fun _ => List.mem_cons_of_mem _ | exact fun _ => List.mem_append_right _) ?_) | (refine And.intro (fun h => ?_) (fun h => ?_) <;> (try simp only [n1, n2, n3, n4, n5, n6] at h) <;> first | (exfalso; omega) | (cases h; done) | skip) | refine And.intro (by omega) ?_ | refine Exists.intro _ (And.intro (by first | exact And.intro rfl rfl | exact Pl.den (by repeat constructor) | with_reducible rfl | exact cast_succ _ | assumption | exact (Int.toNat_of_nonneg (by omega)).symm | rfl) ?_) | refine hD _ _ ?_ | refine hL _ _ ?_ | (intro h; (try simp only [n1, n2, n3, n4, n5, n6] at h); first | (exfalso; omega) | (cases h; done) | skip)) <;> (conv => whnf))
  refine Ret.noneS rfl (fun _ _ => ?_) (fun g hg => by cases hg)
  simp only [den, denL_cons, denL_nil, strS, Hd.text]
  have e10 : (⟨#[10]⟩ : ByteArray) = ⟨([10] : List UInt8).toArray⟩ := rfl
  have eo : org = ⟨org.data.toList.toArray⟩ := by simp
  rw [e10]
  conv => rhs; rw [eo]
  simp only [ba_app, Int.toNat_natCast]
end Go.Proofs.YtekgjjanikicnaaDoor.Sx

namespace Go.Proofs.YtekgjjanikicnaaDoor.Sx
open Go Go.RowKit
set_option maxRecDepth 100000
set_option linter.unusedSimpArgs false
set_option linter.unusedVariables false
theorem tRefText (fx : List Fact) (d : Hd) (hf : d.Fit) : Tri Tryd.prog 35 [.v d.v] [] 0 fx (Ret 0 d.res [] 0 []) := by
  refine Tri.of_code tok Tryd.func35 rfl rfl rfl (by decide) rfl (Nat.le_of_ble_eq_true rfl) ?_
  conv => whnf
  repeat' ((first | refine And.intro (by repeat' first | exact trivial | refine And.intro rfl ?_) (And.intro (by first | exact fun _ h => h | exact fun _ => List.mem_cons_of_mem _ | exact fun _ => List.mem_append_right _) ?_) | (refine And.intro (fun h => ?_) (fun h => ?_) <;> (try simp only [n1, n2, n3, n4, n5, n6] at h) <;> first | (exfalso; omega) | (cases h; done) | skip) | refine And.intro (by omega) ?_ | refine Exists.intro _ (And.intro (by first | exact And.intro rfl rfl | exact Pl.den (by repeat constructor) | with_reducible rfl | exact cast_succ _ | assumption | exact (Int.toNat_of_nonneg (by omega)).symm | rfl) ?_) | refine hD _ _ ?_ | refine hL _ _ ?_ | (intro h; (try simp only [n1, n2, n3, n4, n5, n6] at h); first | (exfalso; omega) | (cases h; done) | skip)) <;> (conv => whnf))
  refine And.intro Hd.one ?_
  conv => whnf
  repeat' ((first | refine And.intro (by repeat' first | exact trivial | refine And.intro rfl ?_) (And.intro (by first | exact fun _ h => h | exact fun _ => List.mem_cons_of_mem _ | exact fun _ => List.mem_append_right _) ?_) | (refine And.intro (fun h => ?_) (fun h => ?_) <;> (try simp only [n1, n2, n3, n4, n5, n6] at h) <;> first | (exfalso; omega) | (cases h; done) | skip) | refine And.intro (by omega) ?_ | refine Exists.intro _ (And.intro (by first | exact And.intro rfl rfl | exact Pl.den (by repeat constructor) | with_reducible rfl | exact cast_succ _ | assumption | exact (Int.toNat_of_nonneg (by omega)).symm | rfl) ?_) | refine hD _ _ ?_ | refine hL _ _ ?_ | (intro h; (try simp only [n1, n2, n3, n4, n5, n6] at h); first | (exfalso; omega) | (cases h; done) | skip)) <;> (conv => whnf))
  refine Tri.use ((tRefName fx d.org (by have := hf.org; omega)).one) [] rfl (fun _ _ _ => rfl) trivial (fun f hf => by first | exact hf | cases hf) (fun u hu => ?_)
  conv => whnf
  repeat' ((first | refine And.intro (by repeat' first | exact trivial | refine And.intro rfl ?_) (And.intro (by first | exact fun _ h => h | exact fun _ => List.mem_cons_of_mem _ | exact fun _ => List.mem_append_right _) ?_) | (refine And.intro (fun h => ?_) (fun h => ?_) <;> (try simp only [n1, n2, n3, n4, n5, n6] at h) <;> first | (exfalso; omega) | (cases h; done) | skip) | refine And.intro (by omega) ?_ | refine Exists.intro _ (And.intro (by first | exact And.intro rfl rfl | exact Pl.den (by repeat constructor) | with_reducible rfl | exact cast_succ _ | assumption | exact (Int.toNat_of_nonneg (by omega)).symm | rfl) ?_) | refine hD _ _ ?_ | refine hL _ _ ?_ | (intro h; (try simp only [n1, n2, n3, n4, n5, n6] at h); first | (exfalso; omega) | (cases h; done) | skip)) <;> (conv => whnf))
  · rw [Hd.res_no (by unfold Hd.ok; rw [h]; rfl)]
    exact Ret.noneS rfl (fun _ _ => rfl) (fun g hg => by cases hg)
  · rw [Hd.res_no (by unfold Hd.ok; rw [decide_eq_false (by omega)]; simp)]
    exact Ret.noneS rfl (fun _ _ => rfl) (fun g hg => by cases hg)
  · rw [Hd.res_no (by unfold Hd.ok; rw [decide_eq_false (by omega)]; simp)]
    exact Ret.noneS rfl (fun _ _ => rfl) (fun g hg => by cases hg)
  rename_i hn h0
  obtain ⟨org, size, root⟩ := d
  obtain ⟨n, rfl⟩ : ∃ n : Nat, size = (n : Int) := ⟨size.toNat, by simp only at *; omega⟩
  have hn1 := nameOk_len hn
  have horg := list_size org
  simp only at hn h0 h hn1 horg
  rw [horg] at hn1
  have h64 : n < 18446744073709551616 := by omega
  rw [Hd.res_ok (by unfold Hd.ok; rw [decide_eq_true (by simp only; omega), hn]; rfl)]
  refine draw_opaque fun KD hD => ?_
  refine draw_all tok (by kernel_rfl) [.any 0, .any 3, .any 9, .any 10, .load 1, .any 2, .one 4, .any 5, .one 6, .any 7, .any 8, .one 11, .any 12, .any 13, .any 14, .any 15] [] (by kernel_rfl) rfl rfl (by repeat' (first | exact trivial | refine And.intro rfl ?_)) ?_
  have ew := wrap_nat n h64
  have hdl := nDigits_le n h64
  have hds := decDigits_size n h64
  have hrl : root.length = 32 := hf.root
  have h10 : (⟨#[10]⟩ : ByteArray).size = 1 := rfl
  conv => whnf
  repeat' ((first | (refine And.intro (by simp only [app_size, h10]; omega) ?_) | refine And.intro (by repeat' first | exact trivial | refine And.intro rfl ?_) (And.intro (by first | exact fun _ h => h | exact fun _ => List.mem_cons_of_mem _ | exact fun _ => List.mem_append_right _) ?_) | (refine And.intro (fun h => ?_) (fun h => ?_) <;> (try simp only [n1, n2, n3, n4, n5, n6] at h) <;> first | (exfalso; omega) | (cases h; done) | skip) | refine And.intro (by omega) ?_ | refine Exists.intro _ (And.intro (by first | exact And.intro rfl rfl | exact Pl.den (by repeat constructor) | with_reducible rfl | exact cast_succ _ | assumption | exact (Int.toNat_of_nonneg (by omega)).symm | rfl) ?_) | refine hD _ _ ?_ | refine hL _ _ ?_ | (intro h; (try simp only [n1, n2, n3, n4, n5, n6] at h); first | (exfalso; omega) | (cases h; done) | skip)) <;> (conv => whnf))
  refine Tri.use ((tRefDigits fx n n (Nat.le_refl _) h64).one) [] rfl (fun _ _ _ => by simp only [denL_cons, denL_nil, den, ew]; try rfl) trivial (fun f hf => by first | exact hf | cases hf) (fun v hv => ?_)
  conv => whnf
  repeat' ((first | (refine And.intro (by simp only [app_size, h10, hds]; omega) ?_) | refine And.intro (by repeat' first | exact trivial | refine And.intro rfl ?_) (And.intro (by first | exact fun _ h => h | exact fun _ => List.mem_cons_of_mem _ | exact fun _ => List.mem_append_right _) ?_) | (refine And.intro (fun h => ?_) (fun h => ?_) <;> (try simp only [n1, n2, n3, n4, n5, n6] at h) <;> first | (exfalso; omega) | (cases h; done) | skip) | refine And.intro (by omega) ?_ | refine Exists.intro _ (And.intro (by first | exact And.intro rfl rfl | exact Pl.den (by repeat constructor) | with_reducible rfl | exact cast_succ _ | assumption | exact (Int.toNat_of_nonneg (by omega)).symm | rfl) ?_) | refine hD _ _ ?_ | refine hL _ _ ?_ | (intro h; (try simp only [n1, n2, n3, n4, n5, n6] at h); first | (exfalso; omega) | (cases h; done) | skip)) <;> (conv => whnf))
  refine Tri.lend 0 (xs := Hd.cells ⟨org, (n : Int), root⟩) (T := 47) (fun b => [.v (.slice (some ⟨b, 2, none⟩) 32 32)]) (List.mem_cons_self ..) rowOf.row (fun _ => rfl) fun b => ?_
  refine Tri.use (tRefEncode (rowFact b (Hd.cells ⟨org, (n : Int), root⟩) 47 :: fx) (some ⟨b, 2, none⟩) 32 root (by omega) (BytesAt.row (List.mem_cons_self ..) (by show (root.map bv).take root.length = _; rw [List.take_of_length_le (by simp)]))).one [] rfl (fun _ _ _ => by rw [hrl]; rfl) trivial (fun f hf => hf) fun u hu => ?_
  conv => whnf
  refine And.intro rfl ?_
  have hel := enc_length root
  have hes := arr_size (enc root)
  conv => whnf
  repeat' ((first | (refine And.intro (by simp only [app_size, h10, hds, hes]; omega) ?_) | refine And.intro (by repeat' first | exact trivial | refine And.intro rfl ?_) (And.intro (by first | exact fun _ h => h | exact fun _ => List.mem_cons_of_mem _ | exact fun _ => List.mem_append_right _) ?_) | (refine And.intro (fun h => ?_) (fun h => ?_) <;> (try simp only [n1, n2, n3, n4, n5, n6] at h) <;> first | (exfalso; omega) | (cases h; done) | skip) | refine And.intro (by omega) ?_ | refine Exists.intro _ (And.intro (by first | exact And.intro rfl rfl | exact Pl.den (by repeat constructor) | with_reducible rfl | exact cast_succ _ | assumption | exact (Int.toNat_of_nonneg (by omega)).symm | rfl) ?_) | refine hD _ _ ?_ | refine hL _ _ ?_ | (intro h; (try simp only [n1, n2, n3, n4, n5, n6] at h); first | (exfalso; omega) | (cases h; done) | skip)) <;> (conv => whnf))
  refine Ret.noneS rfl (fun _ _ => ?_) (fun g hg => by cases hg)
  simp only [den, denL_cons, denL_nil, strS, Hd.text]
  have e10 : (⟨#[10]⟩ : ByteArray) = ⟨([10] : List UInt8).toArray⟩ := rfl
  have eo : org = ⟨org.data.toList.toArray⟩ := by simp
  rw [e10]
  conv => rhs; rw [eo]
  simp only [ba_app, Int.toNat_natCast]
/-- A signature. -/
structure Sg where
  name : ByteArray
  kind : UInt8
  num : Nat
  A : Option Addr
  cap : Nat
  bs : List UInt8
structure Sg.Fit (fx : List Fact) (s : Sg) : Prop where
  name : s.name.size < 9223372036854775808
  num : s.num < 4294967296
  bs : BytesAt fx s.A s.bs
  cap : s.bs.length ≤ s.cap
  len : s.bs.length < 9223372036854775808
def Sg.cells (s : Sg) : List Value := [.string s.name, bv s.kind, .int .u32 s.num, .slice s.A s.bs.length s.cap]
def Sg.v (s : Sg) : Value := .agg ⟨s.cells⟩
def Sg.ok (s : Sg) : Bool := nameOk s.name.data.toList && decide (s.kind.toNat = 101 ∨ s.kind.toNat = 112) && decide (1 ≤ s.bs.length ∧ s.bs.length ≤ 80)
def Sg.line (s : Sg) : List UInt8 := [115, 105, 103, 32] ++ s.name.data.toList ++ [32] ++ [s.kind] ++ [32] ++ Lib.decDigits s.num ++ [32] ++ enc s.bs ++ [10]
theorem Sg.one {s : Sg} : ∀ u ∈ s.cells, u.oneCell' = true := by
  intro u hu
  simp only [Sg.cells, List.mem_cons, List.mem_nil_iff, or_false] at hu
  rcases hu with rfl | rfl | rfl | rfl <;> rfl
theorem Sg.ok_iff {s : Sg} : s.ok = true ↔ nameOk s.name.data.toList = true ∧ (s.kind.toNat = 101 ∨ s.kind.toNat = 112) ∧ 1 ≤ s.bs.length ∧ s.bs.length ≤ 80 := by
  simp only [Sg.ok, Bool.and_eq_true, decide_eq_true_eq, and_assoc]
theorem Sg.no_iff {s : Sg} : s.ok = false ↔ ¬ (nameOk s.name.data.toList = true ∧ (s.kind.toNat = 101 ∨ s.kind.toNat = 112) ∧ 1 ≤ s.bs.length ∧ s.bs.length ≤ 80) := by
  rw [← Sg.ok_iff, Bool.not_eq_true]
theorem tFormed (fx : List Fact) (s : Sg) (hf : s.Fit fx) : Tri Tryd.prog 82 [.v s.v] [] 0 fx (Ret 0 (.v (.bool s.ok)) [] 0 []) := by
  refine Tri.of_code tok Tryd.func82 rfl rfl rfl (by decide) rfl (Nat.le_of_ble_eq_true rfl) ?_
  conv => whnf
  repeat' ((first | refine And.intro (by repeat' first | exact trivial | refine And.intro rfl ?_) (And.intro (by first | exact fun _ h => h | exact fun _ => List.mem_cons_of_mem _ | exact fun _ => List.mem_append_right _) ?_) | (refine And.intro (fun h => ?_) (fun h => ?_) <;> (try simp only [n1, n2, n3, n4, n5, n6] at h) <;> first | (exfalso; omega) | (cases h; done) | skip) | refine And.intro (by omega) ?_ | refine Exists.intro _ (And.intro (by first | exact And.intro rfl rfl | exact Pl.den (by repeat constructor) | with_reducible rfl | exact cast_succ _ | assumption | exact (Int.toNat_of_nonneg (by omega)).symm | rfl) ?_) | refine hD _ _ ?_ | refine hL _ _ ?_ | (intro h; (try simp only [n1, n2, n3, n4, n5, n6] at h); first | (exfalso; omega) | (cases h; done) | skip)) <;> (conv => whnf))
  refine And.intro Sg.one ?_
  conv => whnf
  repeat' ((first | refine And.intro (by repeat' first | exact trivial | refine And.intro rfl ?_) (And.intro (by first | exact fun _ h => h | exact fun _ => List.mem_cons_of_mem _ | exact fun _ => List.mem_append_right _) ?_) | (refine And.intro (fun h => ?_) (fun h => ?_) <;> (try simp only [n1, n2, n3, n4, n5, n6] at h) <;> first | (exfalso; omega) | (cases h; done) | skip) | refine And.intro (by omega) ?_ | refine Exists.intro _ (And.intro (by first | exact And.intro rfl rfl | exact Pl.den (by repeat constructor) | with_reducible rfl | exact cast_succ _ | assumption | exact (Int.toNat_of_nonneg (by omega)).symm | rfl) ?_) | refine hD _ _ ?_ | refine hL _ _ ?_ | (intro h; (try simp only [n1, n2, n3, n4, n5, n6] at h); first | (exfalso; omega) | (cases h; done) | skip)) <;> (conv => whnf))
  refine Tri.use (tName s.name (by have := hf.name; omega)) [] rfl (fun _ _ _ => rfl) trivial (fun f hf => by first | exact hf | cases hf) (fun u hu => ?_)
  conv => whnf
  repeat' ((first | refine And.intro (by repeat' first | exact trivial | refine And.intro rfl ?_) (And.intro (by first | exact fun _ h => h | exact fun _ => List.mem_cons_of_mem _ | exact fun _ => List.mem_append_right _) ?_) | (refine And.intro (fun h => ?_) (fun h => ?_) <;> (try simp only [n1, n2, n3, n4, n5, n6] at h) <;> first | (exfalso; omega) | (cases h; done) | skip) | refine And.intro (by omega) ?_ | refine Exists.intro _ (And.intro (by first | exact And.intro rfl rfl | exact Pl.den (by repeat constructor) | with_reducible rfl | exact cast_succ _ | assumption | exact (Int.toNat_of_nonneg (by omega)).symm | rfl) ?_) | refine hD _ _ ?_ | refine hL _ _ ?_ | (intro h; (try simp only [n1, n2, n3, n4, n5, n6] at h); first | (exfalso; omega) | (cases h; done) | skip)) <;> (conv => whnf))
  all_goals refine Ret.noneS rfl (fun _ _ => ?_) (fun g hg => by cases hg)
  all_goals simp only [den]
  all_goals congr 1
  all_goals first
    | (refine Sg.no_iff.2 ?_; rintro ⟨a, b, c, d⟩; first | omega | (rw [a] at h; cases h))
    | (rw [Bool.eq_iff_iff, Sg.ok_iff, decide_eq_true_eq]; refine ⟨fun ⟨a, b, c, d⟩ => by omega, fun e => ⟨by assumption, by omega, by omega, by omega⟩⟩)
theorem tLine (fx : List Fact) (hg : gTab ∈ fx) (s : Sg) (hf : s.Fit fx) (hk : s.ok = true) : Tri Tryd.prog 83 [.v s.v] [] 0 fx (Ret 0 (.v (strS s.line)) [] 0 []) := by
  refine Tri.of_code tok Tryd.func83 rfl rfl rfl (by decide) rfl (Nat.le_of_ble_eq_true rfl) ?_
  conv => whnf
  repeat' ((first | refine And.intro (by repeat' first | exact trivial | refine And.intro rfl ?_) (And.intro (by first | exact fun _ h => h | exact fun _ => List.mem_cons_of_mem _ | exact fun _ => List.mem_append_right _) ?_) | (refine And.intro (fun h => ?_) (fun h => ?_) <;> (try simp only [n1, n2, n3, n4, n5, n6] at h) <;> first | (exfalso; omega) | (cases h; done) | skip) | refine And.intro (by omega) ?_ | refine Exists.intro _ (And.intro (by first | exact And.intro rfl rfl | exact Pl.den (by repeat constructor) | with_reducible rfl | exact cast_succ _ | assumption | exact (Int.toNat_of_nonneg (by omega)).symm | rfl) ?_) | refine hD _ _ ?_ | refine hL _ _ ?_ | (intro h; (try simp only [n1, n2, n3, n4, n5, n6] at h); first | (exfalso; omega) | (cases h; done) | skip)) <;> (conv => whnf))
  refine And.intro Sg.one ?_
  conv => whnf
  repeat' ((first | refine And.intro (by repeat' first | exact trivial | refine And.intro rfl ?_) (And.intro (by first | exact fun _ h => h | exact fun _ => List.mem_cons_of_mem _ | exact fun _ => List.mem_append_right _) ?_) | (refine And.intro (fun h => ?_) (fun h => ?_) <;> (try simp only [n1, n2, n3, n4, n5, n6] at h) <;> first | (exfalso; omega) | (cases h; done) | skip) | refine And.intro (by omega) ?_ | refine Exists.intro _ (And.intro (by first | exact And.intro rfl rfl | exact Pl.den (by repeat constructor) | with_reducible rfl | exact cast_succ _ | assumption | exact (Int.toNat_of_nonneg (by omega)).symm | rfl) ?_) | refine hD _ _ ?_ | refine hL _ _ ?_ | (intro h; (try simp only [n1, n2, n3, n4, n5, n6] at h); first | (exfalso; omega) | (cases h; done) | skip)) <;> (conv => whnf))
  obtain ⟨kn, kk, kl, kh⟩ := Sg.ok_iff.1 hk
  obtain ⟨name, kind, num, A, cap, bs⟩ := s
  have hn1 := nameOk_len kn
  have horg := list_size name
  simp only at kn kk kl kh hn1 horg
  rw [horg] at hn1
  have hnum : num < 4294967296 := hf.num
  have hcap : bs.length ≤ cap := hf.cap
  have hB : BytesAt fx A bs := hf.bs
  have h64 : num < 18446744073709551616 := by omega
  have ew := wrap_nat num h64
  have hdl := nDigits_le num h64
  have hds := decDigits_size num h64
  have h4 : (⟨#[115, 105, 103, 32]⟩ : ByteArray).size = 4 := rfl
  have h1 : (⟨#[32]⟩ : ByteArray).size = 1 := rfl
  have h10 : (⟨#[10]⟩ : ByteArray).size = 1 := rfl
  have hel := enc_length bs
  have hes := arr_size (enc bs)
  have hwk : IntKind.i32.wrap (kind.toNat : Int) = (kind.toNat : Int) := by simp [IntKind.wrap, IntKind.signed, IntKind.bits]; omega
  refine draw_opaque fun KD hD => ?_
  refine draw_all tok (by kernel_rfl) [.any 0, .any 4, .any 10, .any 16, .load 1, .any 2, .any 3, .load 5, .any 6, .any 7, .any 8, .any 9, .load 11, .any 12, .load 17, .one 13, .any 14, .any 15, .one 18, .any 19, .any 20, .any 21] [] (by kernel_rfl) rfl rfl (by repeat' (first | exact trivial | refine And.intro rfl ?_)) ?_
  conv => whnf
  repeat' ((first | (refine And.intro (by simp only [app_size, one_size, h4, h1]; omega) ?_) | refine And.intro (by repeat' first | exact trivial | refine And.intro rfl ?_) (And.intro (by first | exact fun _ h => h | exact fun _ => List.mem_cons_of_mem _ | exact fun _ => List.mem_append_right _) ?_) | (refine And.intro (fun h => ?_) (fun h => ?_) <;> (try simp only [n1, n2, n3, n4, n5, n6] at h) <;> first | (exfalso; omega) | (cases h; done) | skip) | refine And.intro (by omega) ?_ | refine Exists.intro _ (And.intro (by first | exact And.intro rfl rfl | exact Pl.den (by repeat constructor) | with_reducible rfl | exact cast_succ _ | assumption | exact (Int.toNat_of_nonneg (by omega)).symm | rfl) ?_) | refine hD _ _ ?_ | refine hL _ _ ?_ | (intro h; (try simp only [n1, n2, n3, n4, n5, n6] at h); first | (exfalso; omega) | (cases h; done) | skip)) <;> (conv => whnf))
  refine Tri.use ((tDigits fx hg num h64).one) [] rfl (fun _ _ _ => by simp only [denL_cons, denL_nil, den, ew]; try rfl) trivial (fun f hf => by first | exact hf | cases hf) (fun v hv => ?_)
  conv => whnf
  repeat' ((first | (refine And.intro (by simp only [app_size, one_size, h4, h1, hds]; omega) ?_) | refine And.intro (by repeat' first | exact trivial | refine And.intro rfl ?_) (And.intro (by first | exact fun _ h => h | exact fun _ => List.mem_cons_of_mem _ | exact fun _ => List.mem_append_right _) ?_) | (refine And.intro (fun h => ?_) (fun h => ?_) <;> (try simp only [n1, n2, n3, n4, n5, n6] at h) <;> first | (exfalso; omega) | (cases h; done) | skip) | refine And.intro (by omega) ?_ | refine Exists.intro _ (And.intro (by first | exact And.intro rfl rfl | exact Pl.den (by repeat constructor) | with_reducible rfl | exact cast_succ _ | assumption | exact (Int.toNat_of_nonneg (by omega)).symm | rfl) ?_) | refine hD _ _ ?_ | refine hL _ _ ?_ | (intro h; (try simp only [n1, n2, n3, n4, n5, n6] at h); first | (exfalso; omega) | (cases h; done) | skip)) <;> (conv => whnf))
  refine Tri.use ((tEncode fx A cap bs (by omega) hcap hB).one) [] rfl (fun _ _ _ => rfl) trivial (fun f hf => by first | exact hf | cases hf) (fun u hu => ?_)
  conv => whnf
  repeat' ((first | (refine And.intro (by simp only [app_size, one_size, h4, h1, h10, hds, hes]; omega) ?_) | refine And.intro (by repeat' first | exact trivial | refine And.intro rfl ?_) (And.intro (by first | exact fun _ h => h | exact fun _ => List.mem_cons_of_mem _ | exact fun _ => List.mem_append_right _) ?_) | (refine And.intro (fun h => ?_) (fun h => ?_) <;> (try simp only [n1, n2, n3, n4, n5, n6] at h) <;> first | (exfalso; omega) | (cases h; done) | skip) | refine And.intro (by omega) ?_ | refine Exists.intro _ (And.intro (by first | exact And.intro rfl rfl | exact Pl.den (by repeat constructor) | with_reducible rfl | exact cast_succ _ | assumption | exact (Int.toNat_of_nonneg (by omega)).symm | rfl) ?_) | refine hD _ _ ?_ | refine hL _ _ ?_ | (intro h; (try simp only [n1, n2, n3, n4, n5, n6] at h); first | (exfalso; omega) | (cases h; done) | skip)) <;> (conv => whnf))
  refine Ret.noneS rfl (fun _ _ => ?_) (fun g hg => by cases hg)
  simp only [den, denL_cons, denL_nil, strS, Sg.line]
  have e10 : (⟨#[10]⟩ : ByteArray) = ⟨([10] : List UInt8).toArray⟩ := rfl
  have e1 : (⟨#[32]⟩ : ByteArray) = ⟨([32] : List UInt8).toArray⟩ := rfl
  have e4 : (⟨#[115, 105, 103, 32]⟩ : ByteArray) = ⟨([115, 105, 103, 32] : List UInt8).toArray⟩ := rfl
  have ek : (⟨#[UInt8.ofNat (IntKind.i32.wrap (kind.toNat : Int)).toNat]⟩ : ByteArray) = ⟨([kind] : List UInt8).toArray⟩ := by rw [hwk]; simp
  have eo : name = ⟨name.data.toList.toArray⟩ := by simp
  rw [e10, e1, e4, ek]
  conv => rhs; rw [eo]
  simp only [ba_app]
theorem tRefLine (fx : List Fact) (s : Sg) (hf : s.Fit fx) : Tri Tryd.prog 84 [.v s.v] [] 0 fx (Ret 0 (.v (strS (if s.ok then s.line else []))) [] 0 []) := by
  refine Tri.of_code tok Tryd.func84 rfl rfl rfl (by decide) rfl (Nat.le_of_ble_eq_true rfl) ?_
  conv => whnf
  repeat' ((first | refine And.intro (by repeat' first | exact trivial | refine And.intro rfl ?_) (And.intro (by first | exact fun _ h => h | exact fun _ => List.mem_cons_of_mem _ | exact fun _ => List.mem_append_right _) ?_) | (refine And.intro (fun h => ?_) (fun h => ?_) <;> (try simp only [n1, n2, n3, n4, n5, n6] at h) <;> first | (exfalso; omega) | (cases h; done) | skip) | refine And.intro (by omega) ?_ | refine Exists.intro _ (And.intro (by first | exact And.intro rfl rfl | exact Pl.den (by repeat constructor) | with_reducible rfl | exact cast_succ _ | assumption | exact (Int.toNat_of_nonneg (by omega)).symm | rfl) ?_) | refine hD _ _ ?_ | refine hL _ _ ?_ | (intro h; (try simp only [n1, n2, n3, n4, n5, n6] at h); first | (exfalso; omega) | (cases h; done) | skip)) <;> (conv => whnf))
  refine And.intro Sg.one ?_
  conv => whnf
  repeat' ((first | refine And.intro (by repeat' first | exact trivial | refine And.intro rfl ?_) (And.intro (by first | exact fun _ h => h | exact fun _ => List.mem_cons_of_mem _ | exact fun _ => List.mem_append_right _) ?_) | (refine And.intro (fun h => ?_) (fun h => ?_) <;> (try simp only [n1, n2, n3, n4, n5, n6] at h) <;> first | (exfalso; omega) | (cases h; done) | skip) | refine And.intro (by omega) ?_ | refine Exists.intro _ (And.intro (by first | exact And.intro rfl rfl | exact Pl.den (by repeat constructor) | with_reducible rfl | exact cast_succ _ | assumption | exact (Int.toNat_of_nonneg (by omega)).symm | rfl) ?_) | refine hD _ _ ?_ | refine hL _ _ ?_ | (intro h; (try simp only [n1, n2, n3, n4, n5, n6] at h); first | (exfalso; omega) | (cases h; done) | skip)) <;> (conv => whnf))
  refine Tri.use ((tRefName fx s.name (by have := hf.name; omega)).one) [] rfl (fun _ _ _ => rfl) trivial (fun f hf => by first | exact hf | cases hf) (fun u hu => ?_)
  conv => whnf
  repeat' ((first | refine And.intro (by repeat' first | exact trivial | refine And.intro rfl ?_) (And.intro (by first | exact fun _ h => h | exact fun _ => List.mem_cons_of_mem _ | exact fun _ => List.mem_append_right _) ?_) | (refine And.intro (fun h => ?_) (fun h => ?_) <;> (try simp only [n1, n2, n3, n4, n5, n6] at h) <;> first | (exfalso; omega) | (cases h; done) | skip) | refine And.intro (by omega) ?_ | refine Exists.intro _ (And.intro (by first | exact And.intro rfl rfl | exact Pl.den (by repeat constructor) | with_reducible rfl | exact cast_succ _ | assumption | exact (Int.toNat_of_nonneg (by omega)).symm | rfl) ?_) | refine hD _ _ ?_ | refine hL _ _ ?_ | (intro h; (try simp only [n1, n2, n3, n4, n5, n6] at h); first | (exfalso; omega) | (cases h; done) | skip)) <;> (conv => whnf))
  · rw [if_neg (by rw [Sg.ok_iff]; rintro ⟨a, b, c, d⟩; first | omega | (rw [a] at h; cases h))]
    exact Ret.noneS rfl (fun _ _ => rfl) (fun g hg => by cases hg)
  · rw [if_neg (by rw [Sg.ok_iff]; rintro ⟨a, b, c, d⟩; first | omega | (rw [a] at h; cases h))]
    exact Ret.noneS rfl (fun _ _ => rfl) (fun g hg => by cases hg)
  · rw [if_neg (by rw [Sg.ok_iff]; rintro ⟨a, b, c, d⟩; first | omega | (rw [a] at h; cases h))]
    exact Ret.noneS rfl (fun _ _ => rfl) (fun g hg => by cases hg)
  · rw [if_neg (by rw [Sg.ok_iff]; rintro ⟨a, b, c, d⟩; first | omega | (rw [a] at h; cases h))]
    exact Ret.noneS rfl (fun _ _ => rfl) (fun g hg => by cases hg)
  · have hok : s.ok = true := Sg.ok_iff.2 ⟨by assumption, by omega, by omega, by omega⟩
    rw [if_pos hok]
    obtain ⟨kn, kk, kl, kh⟩ := Sg.ok_iff.1 hok
    have hk : s.kind.toNat = 112 := by omega
    obtain ⟨name, kind, num, A, cap, bs⟩ := s
    have hn1 := nameOk_len kn
    have horg := list_size name
    simp only at kn kk kl kh hn1 horg hk
    rw [horg] at hn1
    have hnum : num < 4294967296 := hf.num
    have hB : BytesAt fx A bs := hf.bs
    have h64 : num < 18446744073709551616 := by omega
    have ew := wrap_nat num h64
    have hdl := nDigits_le num h64
    have hds := decDigits_size num h64
    have h4 : (⟨#[115, 105, 103, 32]⟩ : ByteArray).size = 4 := rfl
    have h1 : (⟨#[32]⟩ : ByteArray).size = 1 := rfl
    have h10 : (⟨#[10]⟩ : ByteArray).size = 1 := rfl
    have hk1 : (⟨#[112]⟩ : ByteArray).size = 1 := rfl
    have hel := enc_length bs
    have hes := arr_size (enc bs)
    refine draw_opaque fun KD hD => ?_
    refine draw_all tok (by kernel_rfl) [.any 0, .any 4, .any 7, .any 13, .load 1, .any 2, .any 3, .any 5, .any 6, .load 8, .any 9, .load 14, .one 10, .any 11, .any 12, .one 15, .any 16, .any 17, .any 18] [] (by kernel_rfl) rfl rfl (by repeat' (first | exact trivial | refine And.intro rfl ?_)) ?_
    conv => whnf
    repeat' ((first | (refine And.intro (by simp only [app_size, h4, h1, hk1]; omega) ?_) | refine And.intro (by repeat' first | exact trivial | refine And.intro rfl ?_) (And.intro (by first | exact fun _ h => h | exact fun _ => List.mem_cons_of_mem _ | exact fun _ => List.mem_append_right _) ?_) | (refine And.intro (fun h => ?_) (fun h => ?_) <;> (try simp only [n1, n2, n3, n4, n5, n6] at h) <;> first | (exfalso; omega) | (cases h; done) | skip) | refine And.intro (by omega) ?_ | refine Exists.intro _ (And.intro (by first | exact And.intro rfl rfl | exact Pl.den (by repeat constructor) | with_reducible rfl | exact cast_succ _ | assumption | exact (Int.toNat_of_nonneg (by omega)).symm | rfl) ?_) | refine hD _ _ ?_ | refine hL _ _ ?_ | (intro h; (try simp only [n1, n2, n3, n4, n5, n6] at h); first | (exfalso; omega) | (cases h; done) | skip)) <;> (conv => whnf))
    refine Tri.use ((tRefDigits fx num num (Nat.le_refl _) h64).one) [] rfl (fun _ _ _ => by simp only [denL_cons, denL_nil, den, ew]; try rfl) trivial (fun f hf => by first | exact hf | cases hf) (fun v hv => ?_)
    conv => whnf
    repeat' ((first | (refine And.intro (by simp only [app_size, hk1, h4, h1, hds]; omega) ?_) | refine And.intro (by repeat' first | exact trivial | refine And.intro rfl ?_) (And.intro (by first | exact fun _ h => h | exact fun _ => List.mem_cons_of_mem _ | exact fun _ => List.mem_append_right _) ?_) | (refine And.intro (fun h => ?_) (fun h => ?_) <;> (try simp only [n1, n2, n3, n4, n5, n6] at h) <;> first | (exfalso; omega) | (cases h; done) | skip) | refine And.intro (by omega) ?_ | refine Exists.intro _ (And.intro (by first | exact And.intro rfl rfl | exact Pl.den (by repeat constructor) | with_reducible rfl | exact cast_succ _ | assumption | exact (Int.toNat_of_nonneg (by omega)).symm | rfl) ?_) | refine hD _ _ ?_ | refine hL _ _ ?_ | (intro h; (try simp only [n1, n2, n3, n4, n5, n6] at h); first | (exfalso; omega) | (cases h; done) | skip)) <;> (conv => whnf))
    refine Tri.use ((tRefEncode fx A cap bs (by omega) hB).one) [] rfl (fun _ _ _ => rfl) trivial (fun f hf => by first | exact hf | cases hf) (fun u hu => ?_)
    conv => whnf
    repeat' ((first | (refine And.intro (by simp only [app_size, hk1, h4, h1, h10, hds, hes]; omega) ?_) | refine And.intro (by repeat' first | exact trivial | refine And.intro rfl ?_) (And.intro (by first | exact fun _ h => h | exact fun _ => List.mem_cons_of_mem _ | exact fun _ => List.mem_append_right _) ?_) | (refine And.intro (fun h => ?_) (fun h => ?_) <;> (try simp only [n1, n2, n3, n4, n5, n6] at h) <;> first | (exfalso; omega) | (cases h; done) | skip) | refine And.intro (by omega) ?_ | refine Exists.intro _ (And.intro (by first | exact And.intro rfl rfl | exact Pl.den (by repeat constructor) | with_reducible rfl | exact cast_succ _ | assumption | exact (Int.toNat_of_nonneg (by omega)).symm | rfl) ?_) | refine hD _ _ ?_ | refine hL _ _ ?_ | (intro h; (try simp only [n1, n2, n3, n4, n5, n6] at h); first | (exfalso; omega) | (cases h; done) | skip)) <;> (conv => whnf))
    refine Ret.noneS rfl (fun _ _ => ?_) (fun g hg => by cases hg)
    simp only [den, denL_cons, denL_nil, strS, Sg.line]
    have e10 : (⟨#[10]⟩ : ByteArray) = ⟨([10] : List UInt8).toArray⟩ := rfl
    have e1 : (⟨#[32]⟩ : ByteArray) = ⟨([32] : List UInt8).toArray⟩ := rfl
    have e4 : (⟨#[115, 105, 103, 32]⟩ : ByteArray) = ⟨([115, 105, 103, 32] : List UInt8).toArray⟩ := rfl
    have hkk : kind = 112 := UInt8.toNat_inj.1 hk
    have ek : (⟨#[112]⟩ : ByteArray) = ⟨([112] : List UInt8).toArray⟩ := rfl
    have eo : name = ⟨name.data.toList.toArray⟩ := by simp
    rw [hkk, e10, e1, e4, ek]
    conv => rhs; rw [eo]
    simp only [ba_app]
  · rw [if_neg (by rw [Sg.ok_iff]; rintro ⟨a, b, c, d⟩; first | omega | (rw [a] at h; cases h))]
    exact Ret.noneS rfl (fun _ _ => rfl) (fun g hg => by cases hg)
  · rw [if_neg (by rw [Sg.ok_iff]; rintro ⟨a, b, c, d⟩; first | omega | (rw [a] at h; cases h))]
    exact Ret.noneS rfl (fun _ _ => rfl) (fun g hg => by cases hg)
  · have hok : s.ok = true := Sg.ok_iff.2 ⟨by assumption, by omega, by omega, by omega⟩
    rw [if_pos hok]
    obtain ⟨kn, kk, kl, kh⟩ := Sg.ok_iff.1 hok
    have hk : s.kind.toNat = 101 := by omega
    obtain ⟨name, kind, num, A, cap, bs⟩ := s
    have hn1 := nameOk_len kn
    have horg := list_size name
    simp only at kn kk kl kh hn1 horg hk
    rw [horg] at hn1
    have hnum : num < 4294967296 := hf.num
    have hB : BytesAt fx A bs := hf.bs
    have h64 : num < 18446744073709551616 := by omega
    have ew := wrap_nat num h64
    have hdl := nDigits_le num h64
    have hds := decDigits_size num h64
    have h4 : (⟨#[115, 105, 103, 32]⟩ : ByteArray).size = 4 := rfl
    have h1 : (⟨#[32]⟩ : ByteArray).size = 1 := rfl
    have h10 : (⟨#[10]⟩ : ByteArray).size = 1 := rfl
    have hk1 : (⟨#[101]⟩ : ByteArray).size = 1 := rfl
    have hel := enc_length bs
    have hes := arr_size (enc bs)
    refine draw_opaque fun KD hD => ?_
    refine draw_all tok (by kernel_rfl) [.any 0, .any 4, .any 7, .any 13, .load 1, .any 2, .any 3, .any 5, .any 6, .load 8, .any 9, .load 14, .one 10, .any 11, .any 12, .one 15, .any 16, .any 17, .any 18] [] (by kernel_rfl) rfl rfl (by repeat' (first | exact trivial | refine And.intro rfl ?_)) ?_
    conv => whnf
    repeat' ((first | (refine And.intro (by simp only [app_size, h4, h1, hk1]; omega) ?_) | refine And.intro (by repeat' first | exact trivial | refine And.intro rfl ?_) (And.intro (by first | exact fun _ h => h | exact fun _ => List.mem_cons_of_mem _ | exact fun _ => List.mem_append_right _) ?_) | (refine And.intro (fun h => ?_) (fun h => ?_) <;> (try simp only [n1, n2, n3, n4, n5, n6] at h) <;> first | (exfalso; omega) | (cases h; done) | skip) | refine And.intro (by omega) ?_ | refine Exists.intro _ (And.intro (by first | exact And.intro rfl rfl | exact Pl.den (by repeat constructor) | with_reducible rfl | exact cast_succ _ | assumption | exact (Int.toNat_of_nonneg (by omega)).symm | rfl) ?_) | refine hD _ _ ?_ | refine hL _ _ ?_ | (intro h; (try simp only [n1, n2, n3, n4, n5, n6] at h); first | (exfalso; omega) | (cases h; done) | skip)) <;> (conv => whnf))
    refine Tri.use ((tRefDigits fx num num (Nat.le_refl _) h64).one) [] rfl (fun _ _ _ => by simp only [denL_cons, denL_nil, den, ew]; try rfl) trivial (fun f hf => by first | exact hf | cases hf) (fun v hv => ?_)
    conv => whnf
    repeat' ((first | (refine And.intro (by simp only [app_size, hk1, h4, h1, hds]; omega) ?_) | refine And.intro (by repeat' first | exact trivial | refine And.intro rfl ?_) (And.intro (by first | exact fun _ h => h | exact fun _ => List.mem_cons_of_mem _ | exact fun _ => List.mem_append_right _) ?_) | (refine And.intro (fun h => ?_) (fun h => ?_) <;> (try simp only [n1, n2, n3, n4, n5, n6] at h) <;> first | (exfalso; omega) | (cases h; done) | skip) | refine And.intro (by omega) ?_ | refine Exists.intro _ (And.intro (by first | exact And.intro rfl rfl | exact Pl.den (by repeat constructor) | with_reducible rfl | exact cast_succ _ | assumption | exact (Int.toNat_of_nonneg (by omega)).symm | rfl) ?_) | refine hD _ _ ?_ | refine hL _ _ ?_ | (intro h; (try simp only [n1, n2, n3, n4, n5, n6] at h); first | (exfalso; omega) | (cases h; done) | skip)) <;> (conv => whnf))
    refine Tri.use ((tRefEncode fx A cap bs (by omega) hB).one) [] rfl (fun _ _ _ => rfl) trivial (fun f hf => by first | exact hf | cases hf) (fun u hu => ?_)
    conv => whnf
    repeat' ((first | (refine And.intro (by simp only [app_size, hk1, h4, h1, h10, hds, hes]; omega) ?_) | refine And.intro (by repeat' first | exact trivial | refine And.intro rfl ?_) (And.intro (by first | exact fun _ h => h | exact fun _ => List.mem_cons_of_mem _ | exact fun _ => List.mem_append_right _) ?_) | (refine And.intro (fun h => ?_) (fun h => ?_) <;> (try simp only [n1, n2, n3, n4, n5, n6] at h) <;> first | (exfalso; omega) | (cases h; done) | skip) | refine And.intro (by omega) ?_ | refine Exists.intro _ (And.intro (by first | exact And.intro rfl rfl | exact Pl.den (by repeat constructor) | with_reducible rfl | exact cast_succ _ | assumption | exact (Int.toNat_of_nonneg (by omega)).symm | rfl) ?_) | refine hD _ _ ?_ | refine hL _ _ ?_ | (intro h; (try simp only [n1, n2, n3, n4, n5, n6] at h); first | (exfalso; omega) | (cases h; done) | skip)) <;> (conv => whnf))
    refine Ret.noneS rfl (fun _ _ => ?_) (fun g hg => by cases hg)
    simp only [den, denL_cons, denL_nil, strS, Sg.line]
    have e10 : (⟨#[10]⟩ : ByteArray) = ⟨([10] : List UInt8).toArray⟩ := rfl
    have e1 : (⟨#[32]⟩ : ByteArray) = ⟨([32] : List UInt8).toArray⟩ := rfl
    have e4 : (⟨#[115, 105, 103, 32]⟩ : ByteArray) = ⟨([115, 105, 103, 32] : List UInt8).toArray⟩ := rfl
    have hkk : kind = 101 := UInt8.toNat_inj.1 hk
    have ek : (⟨#[101]⟩ : ByteArray) = ⟨([101] : List UInt8).toArray⟩ := rfl
    have eo : name = ⟨name.data.toList.toArray⟩ := by simp
    rw [hkk, e10, e1, e4, ek]
    conv => rhs; rw [eo]
    simp only [ba_app]
end Go.Proofs.YtekgjjanikicnaaDoor.Sx

namespace Go.Proofs.YtekgjjanikicnaaDoor.Sx
open Go Go.RowKit
set_option maxRecDepth 100000
set_option linter.unusedSimpArgs false
set_option linter.unusedVariables false
theorem appFK_in : ∀ {a b : List Fact} {k : List Fact → Prop}, k (a ++ b) → appFK a b k
  | [], _, _, h => h
  | _ :: r, b, k, h => appFK_in (a := r) (b := b) (k := fun l => k (_ :: l)) h
/-- The cells of some signatures, one behind the other. -/
def sgRow (l : List Sg) : List Value := l.flatMap Sg.cells
theorem sgRow_get : ∀ {l : List Sg} {i : Nat} {s : Sg} {j : Nat} {y : Value}, l[i]? = some s → s.cells[j]? = some y → (sgRow l)[i * 4 + j]? = some y
  | x :: r, 0, s, j, y, h, hj => by
    simp only [List.getElem?_cons_zero, Option.some.injEq] at h
    subst h
    have hlt : j < 4 := (List.getElem?_eq_some_iff.1 hj).1
    simp only [sgRow, List.flatMap_cons, Nat.zero_mul, Nat.zero_add]
    rw [List.getElem?_append_left (by simpa [Sg.cells] using hlt)]
    exact hj
  | x :: r, i + 1, s, j, y, h, hj => by
    have h' : r[i]? = some s := by simpa using h
    have ih := sgRow_get h' hj
    simp only [sgRow, List.flatMap_cons] at ih ⊢
    rw [List.getElem?_append_right (by simp [Sg.cells]; omega)]
    have e : (i + 1) * 4 + j - x.cells.length = i * 4 + j := by simp [Sg.cells]; omega
    rw [e]
    exact ih
theorem sgRow_inv : ∀ (l : List Sg) (j : Nat) (y : Value), (sgRow l)[j]? = some y → ∃ i k s, j = i * 4 + k ∧ l[i]? = some s ∧ s.cells[k]? = some y
  | [], j, y, h => by simp [sgRow] at h
  | x :: r, j, y, h => by
    simp only [sgRow, List.flatMap_cons] at h
    by_cases hj : j < 4
    · rw [List.getElem?_append_left (by simpa [Sg.cells] using hj)] at h
      exact ⟨0, j, x, by omega, rfl, h⟩
    · rw [List.getElem?_append_right (by simp [Sg.cells]; omega)] at h
      obtain ⟨i, k, s, h1, h2, h3⟩ := sgRow_inv r _ y h
      have : x.cells.length = 4 := rfl
      exact ⟨i + 1, k, s, by omega, by simpa using h2, h3⟩
/-- Signatures that facts tell. -/
structure SgsAt (fx : List Fact) (A : Option Addr) (l : List Sg) : Prop where
  row : RowAt fx A (sgRow l)
  fit : ∀ s ∈ l, s.Fit fx
theorem SgsAt.cell {fx : List Fact} {A : Option Addr} {l : List Sg} (h : SgsAt fx A l) {i : Nat} {s : Sg} (hi : l[i]? = some s) {ad : Addr} (hA : A = some ad) {j : Nat} {y : Value} (hj : s.cells[j]? = some y) : FC fx (ad.add (i * 4 + j)) y :=
  h.row.2 ad hA _ _ (sgRow_get hi hj)
theorem SgsAt.field {fx : List Fact} {A : Option Addr} {l : List Sg} (h : SgsAt fx A l) {i : Nat} {s : Sg} (hi : l[i]? = some s) {ad : Addr} (hA : A = some ad) (j : Nat) {y : Value} (hj : s.cells[j]? = some y) : FC fx ((ad.add (i * 4)).add j) y := by
  rw [Addr.add_add]; exact h.cell hi hA hj
theorem SgsAt.adr {fx : List Fact} {A : Option Addr} {l : List Sg} (h : SgsAt fx A l) {i : Nat} (hi : i < l.length) : ∃ ad, A = some ad := by
  cases A with
  | none =>
    have := h.row.1 rfl
    have hl : l = [] := by
      cases l with
      | nil => rfl
      | cons x r => simp [sgRow, Sg.cells] at this
    subst hl
    simp at hi
  | some ad => exact ⟨ad, rfl⟩
theorem tFew21 (fx : List Fact) (A : Option Addr) (l : List Sg) (cap : Nat) (hS : SgsAt fx A l) (hl : l.length < 9223372036854775808) :
    Tri Tryd.prog 33 [.v (.slice A l.length cap)] [] 0 fx (RetE (α := Bool) 0 (fun b => b = true → l.length ≤ 15 ∧ ∀ s ∈ l, s.name.size ≤ 100 ∧ s.bs.length ≤ 200) (fun b => .v (.bool b)) (fun _ => []) 0 (fun _ => [])) := by
  refine Tri.of_code tok Tryd.func33 rfl rfl rfl (by decide) rfl (Nat.le_of_ble_eq_true rfl) ?_
  conv => whnf
  repeat' ((first | refine And.intro (by repeat' first | exact trivial | refine And.intro rfl ?_) (And.intro (by first | exact fun _ h => h | exact fun _ => List.mem_cons_of_mem _ | exact fun _ => List.mem_append_right _) ?_) | (refine And.intro (fun h => ?_) (fun h => ?_) <;> (try simp only [n1, n2, n3, n4, n5, n6] at h) <;> first | (exfalso; omega) | (cases h; done) | skip) | refine And.intro (by omega) ?_ | refine Exists.intro _ (And.intro (by first | exact And.intro rfl rfl | exact Pl.den (by repeat constructor) | with_reducible rfl | exact cast_succ _ | assumption | exact (Int.toNat_of_nonneg (by omega)).symm | rfl) ?_) | refine hD _ _ ?_ | refine hL _ _ ?_ | (intro h; (try simp only [n1, n2, n3, n4, n5, n6] at h); first | (exfalso; omega) | (cases h; done) | skip)) <;> (conv => whnf))
  refine loop_by tok (α := Nat) (fun i => ⟨[(0, .v (.slice A l.length cap)), (3, .v (.int .i64 i))], [], 0, fx⟩) (fun i => i ≤ l.length ∧ i ≤ 20 ∧ ∀ j s, j < i → l[j]? = some s → s.name.size ≤ 100 ∧ s.bs.length ≤ 200) (fun i => l.length - i) 0 [] (by simp) ⟨rfl, ?_, trivial, fun f hf => hf⟩ ?_
  · exact ⟨fun _ _ _ => rfl, fun _ _ _ => rfl, trivial⟩
  · rintro i ⟨hi, h20, ha⟩
    conv => whnf
    repeat' ((first | refine And.intro (by repeat' first | exact trivial | refine And.intro rfl ?_) (And.intro (by first | exact fun _ h => h | exact fun _ => List.mem_cons_of_mem _ | exact fun _ => List.mem_append_right _) ?_) | (refine And.intro (fun h => ?_) (fun h => ?_) <;> (try simp only [n1, n2, n3, n4, n5, n6] at h) <;> first | (exfalso; omega) | (cases h; done) | skip) | refine And.intro (by omega) ?_ | refine Exists.intro _ (And.intro (by first | exact And.intro rfl rfl | exact Pl.den (by repeat constructor) | with_reducible rfl | exact cast_succ _ | assumption | exact (Int.toNat_of_nonneg (by omega)).symm | rfl) ?_) | refine hD _ _ ?_ | refine hL _ _ ?_ | (intro h; (try simp only [n1, n2, n3, n4, n5, n6] at h); first | (exfalso; omega) | (cases h; done) | skip)) <;> (conv => whnf))
    · have hlt : i < l.length := by omega
      obtain ⟨ad, hA⟩ := hS.adr hlt
      obtain ⟨s, hs⟩ : ∃ s, l[i]? = some s := ⟨l[i], List.getElem?_eq_getElem hlt⟩
      refine ⟨ad, hA, ?_⟩
      conv => whnf
      repeat' ((first | (refine Exists.intro _ (And.intro (hS.field hs hA 0 rfl) ?_)) | (refine Exists.intro _ (And.intro (hS.field hs hA 3 rfl) ?_)) | (refine Exists.intro ad (And.intro hA ?_)) | refine And.intro (by repeat' first | exact trivial | refine And.intro rfl ?_) (And.intro (by first | exact fun _ h => h | exact fun _ => List.mem_cons_of_mem _ | exact fun _ => List.mem_append_right _) ?_) | (refine And.intro (fun h => ?_) (fun h => ?_) <;> (try simp only [n1, n2, n3, n4, n5, n6] at h) <;> first | (exfalso; omega) | (cases h; done) | skip) | refine And.intro (by omega) ?_ | refine Exists.intro _ (And.intro (by first | exact And.intro rfl rfl | exact Pl.den (by repeat constructor) | with_reducible rfl | exact cast_succ _ | assumption | exact (Int.toNat_of_nonneg (by omega)).symm | rfl) ?_) | refine hD _ _ ?_ | refine hL _ _ ?_ | (intro h; (try simp only [n1, n2, n3, n4, n5, n6] at h); first | (exfalso; omega) | (cases h; done) | skip)) <;> (conv => whnf))
      · exact ⟨false, (fun h => by cases h), Ret.noneS rfl (fun _ _ => rfl) (fun g hg => by cases hg)⟩
      · exact ⟨false, (fun h => by cases h), Ret.noneS rfl (fun _ _ => rfl) (fun g hg => by cases hg)⟩
      · refine ⟨i + 1, [], ⟨⟨by omega, by omega, fun j s' hj hs' => ?_⟩, by omega⟩, rfl, ⟨fun _ _ _ => rfl, fun _ _ _ => rfl, trivial⟩, trivial, fun f hf => hf⟩
        by_cases hji : j < i
        · exact ha j s' hji hs'
        · obtain rfl : j = i := by omega
          obtain rfl := Option.some.inj (hs.symm.trans hs')
          exact ⟨by omega, by omega⟩
    · refine ⟨false, fun h => by simp at h, ?_⟩
      refine Ret.noneS rfl (fun _ _ => ?_) (fun g hg => by cases hg)
      simp only [den]; congr 1; rw [decide_eq_false (by omega)]
    · refine ⟨decide ((l.length : Int) ≤ 15), fun h => ⟨by have := of_decide_eq_true h; omega, fun s hs => ?_⟩, Ret.noneS rfl (fun _ _ => rfl) (fun g hg => by cases hg)⟩
      obtain ⟨j, hj⟩ := List.getElem?_of_mem hs
      exact ha j s (by have := (List.getElem?_eq_some_iff.1 hj).1; omega) hj
structure SgB where
  i : Nat
  row : Option (Nat × List Value)
def SgB.inv (T : TypeId) (A : Option Addr) (l : List Sg) (cap : Nat) (fx : List Fact) (x : SgB) : SS := match x.row with
  | none => ⟨[(0, .v (.slice A l.length cap)), (3, .v (.slice none 0 0)), (4, .v (.int .i64 x.i))], [], 0, fx⟩
  | some (c, xs) => ⟨[(0, .v (.slice A l.length cap)), (3, .s 0 0 x.i c), (4, .v (.int .i64 x.i))], [(0, .row xs T)], 1, fx⟩
structure SgB.Pr (l : List Sg) (x : SgB) : Prop where
  i : x.i ≤ l.length
  row : match x.row with
    | none => x.i = 0
    | some (c, xs) => xs.take (x.i * 4) = sgRow (l.take x.i) ∧ c * 4 = xs.length ∧ x.i ≤ c
theorem tSigs0 (fx : List Fact) (A : Option Addr) (l : List Sg) (cap : Nat) (hS : SgsAt fx A l) (hl : l.length ≤ 1000000) :
    Tri Tryd.prog 37 [.v (.slice A l.length cap)] [] 0 fx (RetE (α := Option (Nat × List Value)) 0 (fun x => match x with | none => l = [] | some (c, xs) => xs.take (l.length * 4) = sgRow l ∧ l.length ≤ c)
      (fun x => match x with | none => .v (.slice none 0 0) | some (c, xs) => .s 0 0 l.length c) (fun x => match x with | none => [] | some (c, xs) => [(0, .row xs 108)]) 1 (fun _ => [])) := by
  refine Tri.of_code tok Tryd.func37 rfl rfl rfl (by decide) rfl (Nat.le_of_ble_eq_true rfl) ?_
  conv => whnf
  repeat' ((first | refine And.intro (by repeat' first | exact trivial | refine And.intro rfl ?_) (And.intro (by first | exact fun _ h => h | exact fun _ => List.mem_cons_of_mem _ | exact fun _ => List.mem_append_right _) ?_) | (refine And.intro (fun h => ?_) (fun h => ?_) <;> (try simp only [n1, n2, n3, n4, n5, n6] at h) <;> first | (exfalso; omega) | (cases h; done) | skip) | refine And.intro (by omega) ?_ | refine Exists.intro _ (And.intro (by first | exact And.intro rfl rfl | exact Pl.den (by repeat constructor) | with_reducible rfl | exact cast_succ _ | assumption | exact (Int.toNat_of_nonneg (by omega)).symm | rfl) ?_) | refine hD _ _ ?_ | refine hL _ _ ?_ | (intro h; (try simp only [n1, n2, n3, n4, n5, n6] at h); first | (exfalso; omega) | (cases h; done) | skip)) <;> (conv => whnf))
  refine loop_by tok (SgB.inv 108 A l cap fx) (SgB.Pr l) (fun x => l.length - x.i) ⟨0, none⟩ [] ⟨Nat.zero_le _, rfl⟩ ⟨rfl, ⟨fun _ _ _ => rfl, fun _ _ _ => rfl, fun _ _ _ => rfl, trivial⟩, trivial, fun f hf => hf⟩ ?_
  rintro ⟨i, row⟩ hx
  have hi := hx.i
  have hr := hx.row
  simp only at hi hr
  cases row with
  | none =>
    obtain rfl : i = 0 := hr
    simp only [SgB.inv]
    conv => whnf
    repeat' ((first | refine And.intro (by repeat' first | exact trivial | refine And.intro rfl ?_) (And.intro (by first | exact fun _ h => h | exact fun _ => List.mem_cons_of_mem _ | exact fun _ => List.mem_append_right _) ?_) | (refine And.intro (fun h => ?_) (fun h => ?_) <;> (try simp only [n1, n2, n3, n4, n5, n6] at h) <;> first | (exfalso; omega) | (cases h; done) | skip) | refine And.intro (by omega) ?_ | refine Exists.intro _ (And.intro (by first | exact And.intro rfl rfl | exact Pl.den (by repeat constructor) | with_reducible rfl | exact cast_succ _ | assumption | exact (Int.toNat_of_nonneg (by omega)).symm | rfl) ?_) | refine hD _ _ ?_ | refine hL _ _ ?_ | (intro h; (try simp only [n1, n2, n3, n4, n5, n6] at h); first | (exfalso; omega) | (cases h; done) | skip)) <;> (conv => whnf))
    · have hlt : 0 < l.length := by omega
      obtain ⟨ad, hA⟩ := hS.adr hlt
      obtain ⟨s, hs⟩ : ∃ s, l[0]? = some s := ⟨l[0], List.getElem?_eq_getElem hlt⟩
      refine ⟨ad, hA, ?_⟩
      conv => whnf
      repeat' ((first | (refine Exists.intro s.cells (And.intro ⟨rfl, fun j y hj => hS.field hs hA j hj⟩ ?_)) | refine And.intro (by repeat' first | exact trivial | refine And.intro rfl ?_) (And.intro (by first | exact fun _ h => h | exact fun _ => List.mem_cons_of_mem _ | exact fun _ => List.mem_append_right _) ?_) | (refine And.intro (fun h => ?_) (fun h => ?_) <;> (try simp only [n1, n2, n3, n4, n5, n6] at h) <;> first | (exfalso; omega) | (cases h; done) | skip) | refine And.intro (by omega) ?_ | refine Exists.intro _ (And.intro (by first | exact And.intro rfl rfl | exact Pl.den (by repeat constructor) | with_reducible rfl | exact cast_succ _ | assumption | exact (Int.toNat_of_nonneg (by omega)).symm | rfl) ?_) | refine hD _ _ ?_ | refine hL _ _ ?_ | (intro h; (try simp only [n1, n2, n3, n4, n5, n6] at h); first | (exfalso; omega) | (cases h; done) | skip)) <;> (conv => whnf))
      rename_i m sp
      have hsp := h
      refine ⟨⟨1, some (1 + m, s.cells ++ sp)⟩, [1], ⟨⟨hlt, ?_, ?_, by simp only; omega⟩, by simp only; omega⟩, rfl, ⟨fun _ _ _ => rfl, SEq.ren rfl rfl, fun _ _ _ => rfl, trivial⟩, ⟨OSub.ren rfl rfl, trivial⟩, fun f hf => hf⟩
      · simp only
        rw [List.take_left' (by simp [Sg.cells]), take_succ_of hs]
        simp [sgRow]
      · simp only [List.length_append, hsp]
        simp [Sg.cells]; omega
    · exact ⟨none, List.length_eq_zero_iff.1 (by omega), Ret.mk [] [] (Fold.refl _) rfl (fun _ _ _ => rfl) trivial (fun _ h => by cases h)⟩
  | some r =>
    obtain ⟨c, xs⟩ := r
    simp only at hr
    obtain ⟨hr1, hr2, hr3⟩ := hr
    simp only [SgB.inv]
    conv => whnf
    repeat' ((first | refine And.intro (by repeat' first | exact trivial | refine And.intro rfl ?_) (And.intro (by first | exact fun _ h => h | exact fun _ => List.mem_cons_of_mem _ | exact fun _ => List.mem_append_right _) ?_) | (refine And.intro (fun h => ?_) (fun h => ?_) <;> (try simp only [n1, n2, n3, n4, n5, n6] at h) <;> first | (exfalso; omega) | (cases h; done) | skip) | refine And.intro (by omega) ?_ | refine Exists.intro _ (And.intro (by first | exact And.intro rfl rfl | exact Pl.den (by repeat constructor) | with_reducible rfl | exact cast_succ _ | assumption | exact (Int.toNat_of_nonneg (by omega)).symm | rfl) ?_) | refine hD _ _ ?_ | refine hL _ _ ?_ | (intro h; (try simp only [n1, n2, n3, n4, n5, n6] at h); first | (exfalso; omega) | (cases h; done) | skip)) <;> (conv => whnf))
    · have hlt : i < l.length := by omega
      obtain ⟨ad, hA⟩ := hS.adr hlt
      obtain ⟨s, hs⟩ : ∃ s, l[i]? = some s := ⟨l[i], List.getElem?_eq_getElem hlt⟩
      refine ⟨ad, hA, ?_⟩
      conv => whnf
      repeat' ((first | (refine Exists.intro s.cells (And.intro ⟨rfl, fun j y hj => hS.field hs hA j hj⟩ ?_)) | refine And.intro (by repeat' first | exact trivial | refine And.intro rfl ?_) (And.intro (by first | exact fun _ h => h | exact fun _ => List.mem_cons_of_mem _ | exact fun _ => List.mem_append_right _) ?_) | (refine And.intro (fun h => ?_) (fun h => ?_) <;> (try simp only [n1, n2, n3, n4, n5, n6] at h) <;> first | (exfalso; omega) | (cases h; done) | skip) | refine And.intro (by omega) ?_ | refine Exists.intro _ (And.intro (by first | exact And.intro rfl rfl | exact Pl.den (by repeat constructor) | with_reducible rfl | exact cast_succ _ | assumption | exact (Int.toNat_of_nonneg (by omega)).symm | rfl) ?_) | refine hD _ _ ?_ | refine hL _ _ ?_ | (intro h; (try simp only [n1, n2, n3, n4, n5, n6] at h); first | (exfalso; omega) | (cases h; done) | skip)) <;> (conv => whnf))
      refine ⟨⟨by omega, hr3, hr2, Sg.one⟩, fun m sp hsp => ?_⟩
      conv => whnf
      repeat' ((first | refine And.intro (by repeat' first | exact trivial | refine And.intro rfl ?_) (And.intro (by first | exact fun _ h => h | exact fun _ => List.mem_cons_of_mem _ | exact fun _ => List.mem_append_right _) ?_) | (refine And.intro (fun h => ?_) (fun h => ?_) <;> (try simp only [n1, n2, n3, n4, n5, n6] at h) <;> first | (exfalso; omega) | (cases h; done) | skip) | refine And.intro (by omega) ?_ | refine Exists.intro _ (And.intro (by first | exact And.intro rfl rfl | exact Pl.den (by repeat constructor) | with_reducible rfl | exact cast_succ _ | assumption | exact (Int.toNat_of_nonneg (by omega)).symm | rfl) ?_) | refine hD _ _ ?_ | refine hL _ _ ?_ | (intro h; (try simp only [n1, n2, n3, n4, n5, n6] at h); first | (exfalso; omega) | (cases h; done) | skip)) <;> (conv => whnf))
      have hlt2 : (sgRow (l.take i)).length = i * 4 := by rw [← hr1, List.length_take]; omega
      refine ⟨⟨i + 1, some (i + 1 + m, xs.take (i * 4) ++ s.cells ++ sp)⟩, [2], ⟨⟨hlt, ?_, ?_, by simp only; omega⟩, by simp only; omega⟩, rfl, ⟨fun _ _ _ => rfl, SEq.ren rfl rfl, fun _ _ _ => rfl, trivial⟩, ⟨OSub.ren rfl rfl, trivial⟩, fun f hf => hf⟩
      · simp only
        rw [hr1, List.take_left' (by rw [List.length_append, hlt2]; simp [Sg.cells]; omega), take_succ_of hs]
        simp [sgRow]
      · simp only [List.length_append, hsp, hr1, hlt2]
        simp [Sg.cells]; omega
    · obtain rfl : i = l.length := by omega
      refine ⟨some (c, xs), ⟨by rw [hr1, List.take_of_length_le (Nat.le_refl _)], hr3⟩, ?_⟩
      exact Ret.mk [0] _ (Fold.refl _) rfl (SEq.ren rfl rfl) ⟨OSub.ren rfl rfl, trivial⟩ (fun g hg => by cases hg)
theorem RowAt.row {fx : List Fact} {b n : Nat} {xs vs : List Value} {T : TypeId} (h : rowFact b xs T ∈ fx) (hx : xs.take n = vs) : RowAt fx (some ⟨b, 0, none⟩) vs := by
  refine ⟨fun e => (by cases e), fun ad e j y hj => ?_⟩
  obtain rfl := Option.some.inj e
  rw [add_at, Nat.zero_add]
  refine rowFact_FC h ?_
  rw [← hx] at hj
  have hlt := (List.getElem?_eq_some_iff.1 hj).1
  rw [List.length_take] at hlt
  rwa [List.getElem?_take, if_pos (by omega)] at hj
theorem Sg.Fit.mono {fx fx' : List Fact} {s : Sg} (h : s.Fit fx) (hf : ∀ f, f ∈ fx → f ∈ fx') : s.Fit fx' := ⟨h.name, h.num, h.bs.mono hf, h.cap, h.len⟩
/-- A row of signatures that was made. -/
structure SgW where
  A : Option Addr
  cap : Nat
  f : List Fact
def SgW.pr (fx : List Fact) (l : List Sg) (x : SgW) : Prop := SgsAt (x.f ++ fx) x.A l
def SgW.v (l : List Sg) (x : SgW) : SV := .v (.slice x.A l.length x.cap)
theorem tSigs (fx : List Fact) (A : Option Addr) (l : List Sg) (cap : Nat) (hS : SgsAt fx A l) (hl : l.length ≤ 1000000) :
    Tri Tryd.prog 37 [.v (.slice A l.length cap)] [] 0 fx (RetE (α := SgW) 0 (SgW.pr fx l) (SgW.v l) (fun _ => []) 0 SgW.f) := by
  refine (tSigs0 fx A l cap hS hl).conv.share2 fun y h m f ⟨a, hp, e1, e2, e3, e4⟩ => ?_
  subst e1 e2 e3 e4
  cases a with
  | none =>
    left
    obtain rfl : l = [] := hp
    refine ⟨⟨none, 0, []⟩, ⟨⟨fun _ => rfl, fun ad e => by cases e⟩, fun s hs => by cases hs⟩, ?_⟩
    exact Ret.mk [] [] (Fold.refl _) rfl (fun _ _ _ => rfl) trivial (fun _ h => h)
  | some r =>
    obtain ⟨c, xs⟩ := r
    right
    obtain ⟨h1, h2⟩ := hp
    refine ⟨0, xs, 108, List.mem_cons_self .., fun b => ⟨.v (.slice (some ⟨b, 0, none⟩) l.length c), fun ρ e => by simp only [den, e], ?_⟩⟩
    refine ⟨⟨some ⟨b, 0, none⟩, c, [rowFact b xs 108]⟩, ⟨RowAt.row (List.mem_cons_self ..) h1, fun s hs => (hS.fit s hs).mono fun f hf => List.mem_append_right _ hf⟩, ?_⟩
    exact Ret.mk [] [] (Fold.refl _) rfl (fun _ _ _ => rfl) trivial (fun _ h => h)
end Go.Proofs.YtekgjjanikicnaaDoor.Sx
