/- Numbers as bytes: put. -/
import Derived.Test.YtekgjjanikicnaaDoorFeD
import Derived.Test.YtekgjjanikicnaaDoorSxN
import Derived.Test.YtekgjjanikicnaaDoorSxP
import Derived.Test.YtekgjjanikicnaaDoorSxQ
namespace Go.Proofs.YtekgjjanikicnaaDoor.Sx
open Go Go.Proofs.YtekgjjanikicnaaDoor.Pm
set_option maxRecDepth 100000
set_option linter.unusedSimpArgs false
set_option linter.unusedVariables false

/-- The bytes of a number, the least first. -/
def byt (n i : Nat) : UInt8 := UInt8.ofNat (n / 256 ^ i % 256)
def le32 (n : Nat) : List UInt8 := (List.range 32).map (byt n)
theorem le32_length (n : Nat) : (le32 n).length = 32 := by simp [le32]
theorem le32_get (n : Nat) {i : Nat} (h : i < 32) : (le32 n)[i]? = some (byt n i) := by simp [le32, h]
theorem byte_low (Y A r : Nat) (hr : r < 8) : (18446744073709551616 * Y + A) / 256 ^ r % 256 = A / 256 ^ r % 256 := by
  have : r = 0 ∨ r = 1 ∨ r = 2 ∨ r = 3 ∨ r = 4 ∨ r = 5 ∨ r = 6 ∨ r = 7 := by omega
  rcases this with rfl | rfl | rfl | rfl | rfl | rfl | rfl | rfl <;> simp only [Nat.reducePow] <;> omega
theorem byte_up (Y A r : Nat) (hA : A < 18446744073709551616) : (18446744073709551616 * Y + A) / 256 ^ (8 + r) = Y / 256 ^ r := by
  rw [Nat.pow_add, ← Nat.div_div_eq_div_mul, show (256 : Nat) ^ 8 = 18446744073709551616 by decide]
  congr 1; omega
theorem limb_byte {x : N4} (h : x.Ok) {i : Nat} (hi : i < 32) : x.limb (i / 8) / 256 ^ (i % 8) % 256 = x.val / 256 ^ i % 256 := by
  have hr : i % 8 < 8 := Nat.mod_lt _ (by decide)
  have hv : x.val = 18446744073709551616 * (18446744073709551616 * (18446744073709551616 * x.d + x.c) + x.b) + x.a := by simp only [N4.val]; omega
  have hq : i / 8 = 0 ∨ i / 8 = 1 ∨ i / 8 = 2 ∨ i / 8 = 3 := by omega
  rw [hv]
  rcases hq with hq | hq | hq | hq
  · rw [hq, show i = i % 8 by omega, byte_low _ _ _ (by omega), show i % 8 % 8 = i % 8 by omega]; rfl
  · rw [hq, show i = 8 + i % 8 by omega, byte_up _ _ _ h.a, byte_low _ _ _ (by omega), show (8 + i % 8) % 8 = i % 8 by omega]; rfl
  · rw [hq, show i = 8 + (8 + i % 8) by omega, byte_up _ _ _ h.a, byte_up _ _ _ h.b, byte_low _ _ _ (by omega), show (8 + (8 + i % 8)) % 8 = i % 8 by omega]; rfl
  · rw [hq, show i = 8 + (8 + (8 + i % 8)) by omega, byte_up _ _ _ h.a, byte_up _ _ _ h.b, byte_up _ _ _ h.c, show (8 + (8 + (8 + i % 8))) % 8 = i % 8 by omega]
    rfl
theorem byt_val {x : N4} (h : x.Ok) {i : Nat} (hi : i < 32) : IntKind.u8.wrap (((x.limb (i / 8) : Nat) : Int) / ((pw .u64 (8 * ((i : Int) % 8)) : Nat) : Int)) = ((byt x.val i).toNat : Int) := by
  have h1 : pw .u64 (8 * ((i : Int) % 8)) = 256 ^ (i % 8) := by
    unfold pw
    have hb : IntKind.u64.bits = 64 := rfl
    rw [hb, show (8 * ((i : Int) % 8)).toNat = 8 * (i % 8) by omega, Nat.min_eq_left (by omega), Nat.pow_mul]
  rw [h1, ← Int.natCast_ediv, wrap_u8_nat, limb_byte h hi]
  unfold byt
  simp [UInt8.toNat_ofNat']
theorem row_put {l : List UInt8} {n i : Nat} (hl : l.length = n) (hi : i < n) {v : Value} {c : UInt8} (hc : l[i]? = some c) (hv : v = bv c) :
    splice ((l.take i).map bv ++ List.replicate (n - i) (.int .u8 0)) (0 + i * 1) [v] = (l.take (i + 1)).map bv ++ List.replicate (n - (i + 1)) (.int .u8 0) := by
  subst hv
  have h1 : ((l.take i).map bv).length = i := by simp; omega
  unfold splice
  rw [show 0 + i * 1 = i by omega, List.take_left' h1, List.length_singleton, List.drop_append, h1, List.drop_of_length_le (by rw [h1]; omega), show i + 1 - i = 1 by omega, List.nil_append, List.drop_replicate, List.take_add_one, hc]
  simp [Nat.sub_sub]
set_option maxHeartbeats 1000000 in
theorem tPutLittle (fx : List Fact) (x : N4) (hx : x.Ok) : Tri Tryd.prog 118 [x.sv] [] 0 fx (Ret 0 (.s 0 0 32 32) [(0, .row ((le32 x.val).map bv) 5)] 1 []) := by
  refine Tri.of_code tok Tryd.func118 rfl rfl rfl (by decide) rfl (Nat.le_of_ble_eq_true rfl) ?_
  conv => whnf
  repeat' ((first | refine And.intro (by repeat' first | exact trivial | refine And.intro rfl ?_) (And.intro (by first | exact fun _ h => h | exact fun _ => List.mem_cons_of_mem _ | exact fun _ => List.mem_append_right _) ?_) | (refine And.intro (fun h => ?_) (fun h => ?_) <;> (try simp only [n1, n2, n3, n4, n5, n6] at h) <;> first | (exfalso; omega) | (cases h; done) | skip) | refine And.intro (by omega) ?_ | refine Exists.intro _ (And.intro (by first | exact And.intro rfl rfl | exact Pl.den (by repeat constructor) | with_reducible rfl | exact cast_succ _ | assumption | exact (Int.toNat_of_nonneg (by omega)).symm | rfl) ?_) | refine hD _ _ ?_ | refine hL _ _ ?_ | (intro h; (try simp only [n1, n2, n3, n4, n5, n6] at h); first | (exfalso; omega) | (cases h; done) | skip)) <;> (conv => whnf))
  refine loop_by tok (α := Nat) (fun i => ⟨[(1, .p 0 0), (3, .s 1 0 32 32), (7, .v (.int .i64 32)), (8, .v (.int .i64 (i : Int)))], [(1, .row (((le32 x.val).take i).map bv ++ List.replicate (32 - i) (.int .u8 0)) 5), (0, .cells [.v (.int .u64 (x.a : Int)), .v (.int .u64 (x.b : Int)), .v (.int .u64 (x.c : Int)), .v (.int .u64 (x.d : Int))] 24)], 2, fx⟩)
    (fun i => i ≤ 32) (fun i => 32 - i) 0 [0, 1] (Nat.zero_le _) ?_ ?_
  · exact ⟨rfl, ⟨SEq.ren rfl rfl, SEq.ren rfl rfl, (fun _ _ _ => rfl), (fun _ _ _ => rfl), trivial⟩, ⟨OSub.row (by rw [repRow_one]; rfl), OSub.ren rfl rfl, trivial⟩, fun f hf => hf⟩
  rintro i hi
  have hq : ((i / 8 : Nat) : Int) = (i : Int) / 8 := by omega
  have hll := le32_length x.val
  have hl : (((le32 x.val).take i).map bv ++ List.replicate (32 - i) (Value.int .u8 0)).length = 32 := by simp [hll]; omega
  conv => whnf
  repeat' ((first | (refine Exists.intro (i / 8) (And.intro hq.symm ?_)) | (refine Exists.intro _ (And.intro (limb_get x (by omega)) ?_)) | (refine And.intro (by rw [hl, List.length_singleton]; omega) ?_) | refine And.intro (by repeat' first | exact trivial | refine And.intro rfl ?_) (And.intro (by first | exact fun _ h => h | exact fun _ => List.mem_cons_of_mem _ | exact fun _ => List.mem_append_right _) ?_) | (refine And.intro (fun h => ?_) (fun h => ?_) <;> (try simp only [n1, n2, n3, n4, n5, n6] at h) <;> first | (exfalso; omega) | (cases h; done) | skip) | refine And.intro (by omega) ?_ | refine Exists.intro _ (And.intro (by first | exact And.intro rfl rfl | exact Pl.den (by repeat constructor) | with_reducible rfl | exact cast_succ _ | assumption | exact (Int.toNat_of_nonneg (by omega)).symm | rfl) ?_) | refine hD _ _ ?_ | refine hL _ _ ?_ | (intro h; (try simp only [n1, n2, n3, n4, n5, n6] at h); first | (exfalso; omega) | (cases h; done) | skip)) <;> (conv => whnf))
  · refine ⟨i + 1, [0, 1], ⟨by omega, by omega⟩, ⟨rfl, ⟨SEq.ren rfl rfl, SEq.ren rfl rfl, (fun _ _ _ => rfl), (fun _ _ _ => rfl), trivial⟩, ⟨OSub.row (row_put hll (by omega) (le32_get x.val (by omega)) (by rw [byt_val hx (by omega)]; rfl)).symm, OSub.ren rfl rfl, trivial⟩, fun f hf => hf⟩⟩
  · have e : i = 32 := by omega
    subst e
    exact Ret.mk [1] [(1, .row (((le32 x.val).take 32).map bv ++ List.replicate (32 - 32) (.int .u8 0)) 5)] (Fold.drop1 (by repeat first | exact List.mem_cons_self .. | apply List.mem_cons_of_mem)) rfl (SEq.ren rfl rfl) ⟨OSub.row (by rw [List.take_of_length_le (by rw [hll]; omega)]; simp), trivial⟩ (fun _ h => nomatch h)
end Go.Proofs.YtekgjjanikicnaaDoor.Sx
