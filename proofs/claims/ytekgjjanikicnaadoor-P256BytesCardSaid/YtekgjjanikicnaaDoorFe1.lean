/- Words of 64 bits, four in a row: the library's carrying calls; what the limbs' functions compute. -/
import Derived.Test.YtekgjjanikicnaaDoorSxS
import Derived.Test.YtekgjjanikicnaaDoorSxG
import Derived.Test.YtekgjjanikicnaaDoorSxT
import Derived.Test.YtekgjjanikicnaaDoorTT
import Derived.Shelf.Spec.BitsCarry
import Derived.Lib.Mul64
import Derived.Laws.Bits64b
namespace Go.Proofs.YtekgjjanikicnaaDoor.Sx
open Go
set_option maxRecDepth 100000
set_option linter.unusedSimpArgs false
set_option linter.unusedVariables false

structure N4 where
  a : Nat
  b : Nat
  c : Nat
  d : Nat
structure N4.Ok (x : N4) : Prop where
  a : x.a < 18446744073709551616
  b : x.b < 18446744073709551616
  c : x.c < 18446744073709551616
  d : x.d < 18446744073709551616
def N4.val (x : N4) : Nat := x.a + 18446744073709551616 * x.b + 340282366920938463463374607431768211456 * x.c + 6277101735386680763835789423207666416102355444464034512896 * x.d
def u64 (n : Nat) : SV := .v (.int .u64 (n : Int))
def N4.sv (x : N4) : SV := .agg [.v (.int .u64 (x.a : Int)), .v (.int .u64 (x.b : Int)), .v (.int .u64 (x.c : Int)), .v (.int .u64 (x.d : Int))]
theorem N4.ext {x y : N4} (hx : x.Ok) (hy : y.Ok) (h : x.val = y.val) : x = y := by
  obtain ⟨a, b, c, d⟩ := x
  obtain ⟨a', b', c', d'⟩ := y
  obtain ⟨h1, h2, h3, h4⟩ := hx
  obtain ⟨g1, g2, g3, g4⟩ := hy
  simp only [N4.val] at h
  simp only at h1 h2 h3 h4 g1 g2 g3 g4
  obtain ⟨rfl, rfl, rfl, rfl⟩ : a = a' ∧ b = b' ∧ c = c' ∧ d = d' := by omega
  rfl
def N4.of (n : Nat) : N4 := ⟨n % 18446744073709551616, n / 18446744073709551616 % 18446744073709551616, n / 340282366920938463463374607431768211456 % 18446744073709551616, n / 6277101735386680763835789423207666416102355444464034512896 % 18446744073709551616⟩
theorem N4.of_ok (n : Nat) : (N4.of n).Ok := ⟨Nat.mod_lt _ (by decide), Nat.mod_lt _ (by decide), Nat.mod_lt _ (by decide), Nat.mod_lt _ (by decide)⟩
theorem N4.of_val {n : Nat} (h : n < 115792089237316195423570985008687907853269984665640564039457584007913129639936) : (N4.of n).val = n := by
  simp only [N4.of, N4.val]; omega
theorem N4.val_lt {x : N4} (h : x.Ok) : x.val < 115792089237316195423570985008687907853269984665640564039457584007913129639936 := by
  obtain ⟨h1, h2, h3, h4⟩ := h
  simp only [N4.val]; omega

/-- A call that runs at once, and leaves the world alone. -/
theorem Tri.ext {P : Program} {n : Nat} {args : List SV} {vs : List Value} {y : SV} {v : Value} {fx : List Fact} (hargs : ∀ ρ, denL ρ args = vs) (hy : ∀ ρ, den ρ y = v)
    (h : ∀ w, (callFunc n vs.toArray).run P w = .ok (.value v) w) : Tri P n args [] 0 fx (Ret 0 y [] 0 []) :=
  ⟨trivial, fun ρ F w hh hrob => .inr ⟨v, w, by rw [hargs ρ]; exact h w, y, [], 0, [], ρ, F, Ret.noneS rfl (fun _ _ => by rw [hy, hy]) (fun _ h => h), by rw [hy], fun _ _ => by rw [hy, hy],
    ⟨fun _ _ r o hm => (by cases hm), fun r o hm => (by cases hm), fun r o r' o' hm => (by cases hm), fun r o hm => (by cases hm), fun f hf => (by cases hf)⟩, Ag.refl _ _, Nat.le_refl _, Keeps.refl _ _, fun k ⟨r, o, hm, _⟩ => (by cases hm), fun f hf => (by cases hf)⟩⟩
theorem tAdd64 (fx : List Fact) (x y c : Nat) (hc : c ≤ 1) : Tri Tryd.prog 185 [.v (.int .u64 x), .v (.int .u64 y), .v (.int .u64 c)] [] 0 fx (Ret 0 (.tup [.v (.int .u64 (((x + y + c) % 18446744073709551616 : Nat) : Int)), .v (.int .u64 (((x + y + c) / 18446744073709551616 : Nat) : Int))]) [] 0 []) := by
  refine Tri.ext (vs := [.int .u64 x, .int .u64 y, .int .u64 c]) (v := .tuple #[.int .u64 (((x + y + c) % 18446744073709551616 : Nat) : Int), .int .u64 (((x + y + c) / 18446744073709551616 : Nat) : Int)]) (fun ρ => rfl) (fun ρ => rfl) fun w => ?_
  refine (run_callFunc_extern Tryd.func185 (by kernel_rfl) (by kernel_rfl) (by kernel_rfl) (e := add64Entry) (by kernel_rfl) _ w).trans ?_
  rw [run_add64 x y c (by omega) (by omega) (by omega) (by omega)]
  simp only [Result.andThen]
  congr 5 <;> omega
theorem tSub64 (fx : List Fact) (x y c : Nat) (hc : c ≤ 1) : Tri Tryd.prog 166 [.v (.int .u64 x), .v (.int .u64 y), .v (.int .u64 c)] [] 0 fx (Ret 0 (.tup [.v (.int .u64 (((x + 18446744073709551616 - y - c) % 18446744073709551616 : Nat) : Int)), .v (.int .u64 ((if x < y + c then 1 else 0 : Nat) : Int))]) [] 0 []) := by
  refine Tri.ext (vs := [.int .u64 x, .int .u64 y, .int .u64 c]) (v := .tuple #[.int .u64 (((x + 18446744073709551616 - y - c) % 18446744073709551616 : Nat) : Int), .int .u64 ((if x < y + c then 1 else 0 : Nat) : Int)]) (fun ρ => rfl) (fun ρ => rfl) fun w => ?_
  refine (run_callFunc_extern Tryd.func166 (by kernel_rfl) (by kernel_rfl) (by kernel_rfl) (e := sub64Entry) (by kernel_rfl) _ w).trans ?_
  rw [run_sub64 x y c hc]
  rfl
/-- A sum and its carry. -/
theorem tAddC (fx : List Fact) (x y c : Nat) (hx : x < 18446744073709551616) (hy : y < 18446744073709551616) (hc : c ≤ 1) : Tri Tryd.prog 185 [.v (.int .u64 x), .v (.int .u64 y), .v (.int .u64 c)] [] 0 fx
    (RetE (α := Nat × Nat) 0 (fun r => r.1 < 18446744073709551616 ∧ r.2 ≤ 1 ∧ r.1 + 18446744073709551616 * r.2 = x + y + c) (fun r => .tup [.v (.int .u64 (r.1 : Int)), .v (.int .u64 (r.2 : Int))]) (fun _ => []) 0 (fun _ => [])) :=
  (tAdd64 fx x y c hc).mono fun _ _ _ _ h => ⟨(_, _), ⟨by omega, by omega, by omega⟩, h⟩
theorem tSubC (fx : List Fact) (x y c : Nat) (hx : x < 18446744073709551616) (hy : y < 18446744073709551616) (hc : c ≤ 1) : Tri Tryd.prog 166 [.v (.int .u64 x), .v (.int .u64 y), .v (.int .u64 c)] [] 0 fx
    (RetE (α := Nat × Nat) 0 (fun r => r.1 < 18446744073709551616 ∧ r.2 ≤ 1 ∧ r.1 + y + c = x + 18446744073709551616 * r.2) (fun r => .tup [.v (.int .u64 (r.1 : Int)), .v (.int .u64 (r.2 : Int))]) (fun _ => []) 0 (fun _ => [])) :=
  (tSub64 fx x y c hc).mono fun _ _ _ _ h => ⟨((x + 18446744073709551616 - y - c) % 18446744073709551616, if x < y + c then 1 else 0), by
    by_cases hxy : x < y + c
    · simp only [hxy, if_true]; omega
    · simp only [hxy, if_false]; omega, h⟩
set_option maxHeartbeats 1000000 in
theorem tLAdd (fx : List Fact) (x y : N4) (hx : x.Ok) (hy : y.Ok) : Tri Tryd.prog 164 [x.sv, y.sv] [] 0 fx
    (RetE (α := N4 × Bool) 0 (fun r => r.1.Ok ∧ r.1.val + (if r.2 = true then 115792089237316195423570985008687907853269984665640564039457584007913129639936 else 0) = x.val + y.val) (fun r => .tup [r.1.sv, .v (.bool r.2)]) (fun _ => []) 0 (fun _ => [])) := by
  refine Tri.of_code tok Tryd.func164 rfl rfl rfl (by decide) rfl (Nat.le_of_ble_eq_true rfl) ?_
  conv => whnf
  repeat' ((first | refine And.intro (by repeat' first | exact trivial | refine And.intro rfl ?_) (And.intro (by first | exact fun _ h => h | exact fun _ => List.mem_cons_of_mem _ | exact fun _ => List.mem_append_right _) ?_) | (refine And.intro (fun h => ?_) (fun h => ?_) <;> (try simp only [n1, n2, n3, n4, n5, n6] at h) <;> first | (exfalso; omega) | (cases h; done) | skip) | refine And.intro (by omega) ?_ | refine Exists.intro _ (And.intro (by first | exact And.intro rfl rfl | exact Pl.den (by repeat constructor) | with_reducible rfl | exact cast_succ _ | assumption | exact (Int.toNat_of_nonneg (by omega)).symm | rfl) ?_) | refine hD _ _ ?_ | refine hL _ _ ?_ | (intro h; (try simp only [n1, n2, n3, n4, n5, n6] at h); first | (exfalso; omega) | (cases h; done) | skip)) <;> (conv => whnf))
  refine loop_rounds 5 (round_next tok ?_)
  conv => whnf
  repeat' ((first | refine And.intro (by repeat' first | exact trivial | refine And.intro rfl ?_) (And.intro (by first | exact fun _ h => h | exact fun _ => List.mem_cons_of_mem _ | exact fun _ => List.mem_append_right _) ?_) | (refine And.intro (fun h => ?_) (fun h => ?_) <;> (try simp only [n1, n2, n3, n4, n5, n6] at h) <;> first | (exfalso; omega) | (cases h; done) | skip) | refine And.intro (by omega) ?_ | refine Exists.intro _ (And.intro (by first | exact And.intro rfl rfl | exact Pl.den (by repeat constructor) | with_reducible rfl | exact cast_succ _ | assumption | exact (Int.toNat_of_nonneg (by omega)).symm | rfl) ?_) | refine hD _ _ ?_ | refine hL _ _ ?_ | (intro h; (try simp only [n1, n2, n3, n4, n5, n6] at h); first | (exfalso; omega) | (cases h; done) | skip)) <;> (conv => whnf))
  refine draw_opaque fun KD hD => ?_
  refine draw_all tok (by kernel_rfl) [.any 0, .any 1, .any 2, .any 4, .any 5, .any 7, .load 3, .one 6, .one 8, .any 9, .any 10, .any 11, .any 12, .last 13, .any 14] [13] (by kernel_rfl) rfl rfl (by repeat' (first | exact trivial | refine And.intro rfl ?_)) ?_
  conv => whnf
  repeat' ((first | refine And.intro (by repeat' first | exact trivial | refine And.intro rfl ?_) (And.intro (by first | exact fun _ h => h | exact fun _ => List.mem_cons_of_mem _ | exact fun _ => List.mem_append_right _) ?_) | (refine And.intro (fun h => ?_) (fun h => ?_) <;> (try simp only [n1, n2, n3, n4, n5, n6] at h) <;> first | (exfalso; omega) | (cases h; done) | skip) | refine And.intro (by omega) ?_ | refine Exists.intro _ (And.intro (by first | exact And.intro rfl rfl | exact Pl.den (by repeat constructor) | with_reducible rfl | exact cast_succ _ | assumption | exact (Int.toNat_of_nonneg (by omega)).symm | rfl) ?_) | refine hD _ _ ?_ | refine hL _ _ ?_ | (intro h; (try simp only [n1, n2, n3, n4, n5, n6] at h); first | (exfalso; omega) | (cases h; done) | skip)) <;> (conv => whnf))
  refine Tri.use (tAddC fx x.a y.a 0 hx.a hy.a (by omega)) [] rfl (fun _ _ _ => rfl) trivial (fun f hf => by first | exact hf | cases hf) (fun u hu => ?_)
  obtain ⟨z0, c0⟩ := u
  obtain ⟨k0, l0, e0⟩ := hu
  simp only at k0 l0 e0
  conv => whnf
  repeat' ((first | refine And.intro (by repeat' first | exact trivial | refine And.intro rfl ?_) (And.intro (by first | exact fun _ h => h | exact fun _ => List.mem_cons_of_mem _ | exact fun _ => List.mem_append_right _) ?_) | (refine And.intro (fun h => ?_) (fun h => ?_) <;> (try simp only [n1, n2, n3, n4, n5, n6] at h) <;> first | (exfalso; omega) | (cases h; done) | skip) | refine And.intro (by omega) ?_ | refine Exists.intro _ (And.intro (by first | exact And.intro rfl rfl | exact Pl.den (by repeat constructor) | with_reducible rfl | exact cast_succ _ | assumption | exact (Int.toNat_of_nonneg (by omega)).symm | rfl) ?_) | refine hD _ _ ?_ | refine hL _ _ ?_ | (intro h; (try simp only [n1, n2, n3, n4, n5, n6] at h); first | (exfalso; omega) | (cases h; done) | skip)) <;> (conv => whnf))
  refine round_next tok ?_
  conv => whnf
  repeat' ((first | refine And.intro (by repeat' first | exact trivial | refine And.intro rfl ?_) (And.intro (by first | exact fun _ h => h | exact fun _ => List.mem_cons_of_mem _ | exact fun _ => List.mem_append_right _) ?_) | (refine And.intro (fun h => ?_) (fun h => ?_) <;> (try simp only [n1, n2, n3, n4, n5, n6] at h) <;> first | (exfalso; omega) | (cases h; done) | skip) | refine And.intro (by omega) ?_ | refine Exists.intro _ (And.intro (by first | exact And.intro rfl rfl | exact Pl.den (by repeat constructor) | with_reducible rfl | exact cast_succ _ | assumption | exact (Int.toNat_of_nonneg (by omega)).symm | rfl) ?_) | refine hD _ _ ?_ | refine hL _ _ ?_ | (intro h; (try simp only [n1, n2, n3, n4, n5, n6] at h); first | (exfalso; omega) | (cases h; done) | skip)) <;> (conv => whnf))
  refine draw_opaque fun KD hD => ?_
  refine draw_all tok (by kernel_rfl) [.any 0, .any 1, .any 2, .any 4, .any 5, .any 7, .load 3, .one 6, .one 8, .any 9, .any 10, .any 11, .any 12, .last 13, .any 14] [13] (by kernel_rfl) rfl rfl (by repeat' (first | exact trivial | refine And.intro rfl ?_)) ?_
  conv => whnf
  repeat' ((first | refine And.intro (by repeat' first | exact trivial | refine And.intro rfl ?_) (And.intro (by first | exact fun _ h => h | exact fun _ => List.mem_cons_of_mem _ | exact fun _ => List.mem_append_right _) ?_) | (refine And.intro (fun h => ?_) (fun h => ?_) <;> (try simp only [n1, n2, n3, n4, n5, n6] at h) <;> first | (exfalso; omega) | (cases h; done) | skip) | refine And.intro (by omega) ?_ | refine Exists.intro _ (And.intro (by first | exact And.intro rfl rfl | exact Pl.den (by repeat constructor) | with_reducible rfl | exact cast_succ _ | assumption | exact (Int.toNat_of_nonneg (by omega)).symm | rfl) ?_) | refine hD _ _ ?_ | refine hL _ _ ?_ | (intro h; (try simp only [n1, n2, n3, n4, n5, n6] at h); first | (exfalso; omega) | (cases h; done) | skip)) <;> (conv => whnf))
  refine Tri.use (tAddC fx x.b y.b c0 hx.b hy.b l0) [] rfl (fun _ _ _ => rfl) trivial (fun f hf => by first | exact hf | cases hf) (fun u hu => ?_)
  obtain ⟨z1, c1⟩ := u
  obtain ⟨k1, l1, e1⟩ := hu
  simp only at k1 l1 e1
  conv => whnf
  repeat' ((first | refine And.intro (by repeat' first | exact trivial | refine And.intro rfl ?_) (And.intro (by first | exact fun _ h => h | exact fun _ => List.mem_cons_of_mem _ | exact fun _ => List.mem_append_right _) ?_) | (refine And.intro (fun h => ?_) (fun h => ?_) <;> (try simp only [n1, n2, n3, n4, n5, n6] at h) <;> first | (exfalso; omega) | (cases h; done) | skip) | refine And.intro (by omega) ?_ | refine Exists.intro _ (And.intro (by first | exact And.intro rfl rfl | exact Pl.den (by repeat constructor) | with_reducible rfl | exact cast_succ _ | assumption | exact (Int.toNat_of_nonneg (by omega)).symm | rfl) ?_) | refine hD _ _ ?_ | refine hL _ _ ?_ | (intro h; (try simp only [n1, n2, n3, n4, n5, n6] at h); first | (exfalso; omega) | (cases h; done) | skip)) <;> (conv => whnf))
  refine round_next tok ?_
  conv => whnf
  repeat' ((first | refine And.intro (by repeat' first | exact trivial | refine And.intro rfl ?_) (And.intro (by first | exact fun _ h => h | exact fun _ => List.mem_cons_of_mem _ | exact fun _ => List.mem_append_right _) ?_) | (refine And.intro (fun h => ?_) (fun h => ?_) <;> (try simp only [n1, n2, n3, n4, n5, n6] at h) <;> first | (exfalso; omega) | (cases h; done) | skip) | refine And.intro (by omega) ?_ | refine Exists.intro _ (And.intro (by first | exact And.intro rfl rfl | exact Pl.den (by repeat constructor) | with_reducible rfl | exact cast_succ _ | assumption | exact (Int.toNat_of_nonneg (by omega)).symm | rfl) ?_) | refine hD _ _ ?_ | refine hL _ _ ?_ | (intro h; (try simp only [n1, n2, n3, n4, n5, n6] at h); first | (exfalso; omega) | (cases h; done) | skip)) <;> (conv => whnf))
  refine draw_opaque fun KD hD => ?_
  refine draw_all tok (by kernel_rfl) [.any 0, .any 1, .any 2, .any 4, .any 5, .any 7, .load 3, .one 6, .one 8, .any 9, .any 10, .any 11, .any 12, .last 13, .any 14] [13] (by kernel_rfl) rfl rfl (by repeat' (first | exact trivial | refine And.intro rfl ?_)) ?_
  conv => whnf
  repeat' ((first | refine And.intro (by repeat' first | exact trivial | refine And.intro rfl ?_) (And.intro (by first | exact fun _ h => h | exact fun _ => List.mem_cons_of_mem _ | exact fun _ => List.mem_append_right _) ?_) | (refine And.intro (fun h => ?_) (fun h => ?_) <;> (try simp only [n1, n2, n3, n4, n5, n6] at h) <;> first | (exfalso; omega) | (cases h; done) | skip) | refine And.intro (by omega) ?_ | refine Exists.intro _ (And.intro (by first | exact And.intro rfl rfl | exact Pl.den (by repeat constructor) | with_reducible rfl | exact cast_succ _ | assumption | exact (Int.toNat_of_nonneg (by omega)).symm | rfl) ?_) | refine hD _ _ ?_ | refine hL _ _ ?_ | (intro h; (try simp only [n1, n2, n3, n4, n5, n6] at h); first | (exfalso; omega) | (cases h; done) | skip)) <;> (conv => whnf))
  refine Tri.use (tAddC fx x.c y.c c1 hx.c hy.c l1) [] rfl (fun _ _ _ => rfl) trivial (fun f hf => by first | exact hf | cases hf) (fun u hu => ?_)
  obtain ⟨z2, c2⟩ := u
  obtain ⟨k2, l2, e2⟩ := hu
  simp only at k2 l2 e2
  conv => whnf
  repeat' ((first | refine And.intro (by repeat' first | exact trivial | refine And.intro rfl ?_) (And.intro (by first | exact fun _ h => h | exact fun _ => List.mem_cons_of_mem _ | exact fun _ => List.mem_append_right _) ?_) | (refine And.intro (fun h => ?_) (fun h => ?_) <;> (try simp only [n1, n2, n3, n4, n5, n6] at h) <;> first | (exfalso; omega) | (cases h; done) | skip) | refine And.intro (by omega) ?_ | refine Exists.intro _ (And.intro (by first | exact And.intro rfl rfl | exact Pl.den (by repeat constructor) | with_reducible rfl | exact cast_succ _ | assumption | exact (Int.toNat_of_nonneg (by omega)).symm | rfl) ?_) | refine hD _ _ ?_ | refine hL _ _ ?_ | (intro h; (try simp only [n1, n2, n3, n4, n5, n6] at h); first | (exfalso; omega) | (cases h; done) | skip)) <;> (conv => whnf))
  refine round_next tok ?_
  conv => whnf
  repeat' ((first | refine And.intro (by repeat' first | exact trivial | refine And.intro rfl ?_) (And.intro (by first | exact fun _ h => h | exact fun _ => List.mem_cons_of_mem _ | exact fun _ => List.mem_append_right _) ?_) | (refine And.intro (fun h => ?_) (fun h => ?_) <;> (try simp only [n1, n2, n3, n4, n5, n6] at h) <;> first | (exfalso; omega) | (cases h; done) | skip) | refine And.intro (by omega) ?_ | refine Exists.intro _ (And.intro (by first | exact And.intro rfl rfl | exact Pl.den (by repeat constructor) | with_reducible rfl | exact cast_succ _ | assumption | exact (Int.toNat_of_nonneg (by omega)).symm | rfl) ?_) | refine hD _ _ ?_ | refine hL _ _ ?_ | (intro h; (try simp only [n1, n2, n3, n4, n5, n6] at h); first | (exfalso; omega) | (cases h; done) | skip)) <;> (conv => whnf))
  refine draw_opaque fun KD hD => ?_
  refine draw_all tok (by kernel_rfl) [.any 0, .any 1, .any 2, .any 4, .any 5, .any 7, .load 3, .one 6, .one 8, .any 9, .any 10, .any 11, .any 12, .last 13, .any 14] [13] (by kernel_rfl) rfl rfl (by repeat' (first | exact trivial | refine And.intro rfl ?_)) ?_
  conv => whnf
  repeat' ((first | refine And.intro (by repeat' first | exact trivial | refine And.intro rfl ?_) (And.intro (by first | exact fun _ h => h | exact fun _ => List.mem_cons_of_mem _ | exact fun _ => List.mem_append_right _) ?_) | (refine And.intro (fun h => ?_) (fun h => ?_) <;> (try simp only [n1, n2, n3, n4, n5, n6] at h) <;> first | (exfalso; omega) | (cases h; done) | skip) | refine And.intro (by omega) ?_ | refine Exists.intro _ (And.intro (by first | exact And.intro rfl rfl | exact Pl.den (by repeat constructor) | with_reducible rfl | exact cast_succ _ | assumption | exact (Int.toNat_of_nonneg (by omega)).symm | rfl) ?_) | refine hD _ _ ?_ | refine hL _ _ ?_ | (intro h; (try simp only [n1, n2, n3, n4, n5, n6] at h); first | (exfalso; omega) | (cases h; done) | skip)) <;> (conv => whnf))
  refine Tri.use (tAddC fx x.d y.d c2 hx.d hy.d l2) [] rfl (fun _ _ _ => rfl) trivial (fun f hf => by first | exact hf | cases hf) (fun u hu => ?_)
  obtain ⟨z3, c3⟩ := u
  obtain ⟨k3, l3, e3⟩ := hu
  simp only at k3 l3 e3
  conv => whnf
  repeat' ((first | refine And.intro (by repeat' first | exact trivial | refine And.intro rfl ?_) (And.intro (by first | exact fun _ h => h | exact fun _ => List.mem_cons_of_mem _ | exact fun _ => List.mem_append_right _) ?_) | (refine And.intro (fun h => ?_) (fun h => ?_) <;> (try simp only [n1, n2, n3, n4, n5, n6] at h) <;> first | (exfalso; omega) | (cases h; done) | skip) | refine And.intro (by omega) ?_ | refine Exists.intro _ (And.intro (by first | exact And.intro rfl rfl | exact Pl.den (by repeat constructor) | with_reducible rfl | exact cast_succ _ | assumption | exact (Int.toNat_of_nonneg (by omega)).symm | rfl) ?_) | refine hD _ _ ?_ | refine hL _ _ ?_ | (intro h; (try simp only [n1, n2, n3, n4, n5, n6] at h); first | (exfalso; omega) | (cases h; done) | skip)) <;> (conv => whnf))
  refine round_next tok ?_
  conv => whnf
  repeat' ((first | refine And.intro (by repeat' first | exact trivial | refine And.intro rfl ?_) (And.intro (by first | exact fun _ h => h | exact fun _ => List.mem_cons_of_mem _ | exact fun _ => List.mem_append_right _) ?_) | (refine And.intro (fun h => ?_) (fun h => ?_) <;> (try simp only [n1, n2, n3, n4, n5, n6] at h) <;> first | (exfalso; omega) | (cases h; done) | skip) | refine And.intro (by omega) ?_ | refine Exists.intro _ (And.intro (by first | exact And.intro rfl rfl | exact Pl.den (by repeat constructor) | with_reducible rfl | exact cast_succ _ | assumption | exact (Int.toNat_of_nonneg (by omega)).symm | rfl) ?_) | refine hD _ _ ?_ | refine hL _ _ ?_ | (intro h; (try simp only [n1, n2, n3, n4, n5, n6] at h); first | (exfalso; omega) | (cases h; done) | skip)) <;> (conv => whnf))
  refine ⟨(⟨z0, z1, z2, z3⟩, decide ((c3 : Int) ≠ 0)), ⟨⟨k0, k1, k2, k3⟩, ?_⟩, Ret.noneS rfl (fun _ _ => rfl) (fun g hg => by cases hg)⟩
  simp only [N4.val]
  by_cases h : c3 = 0
  · subst h; simp; omega
  · have : c3 = 1 := by omega
    subst this; simp; omega
set_option maxHeartbeats 1000000 in
theorem tLSub (fx : List Fact) (x y : N4) (hx : x.Ok) (hy : y.Ok) : Tri Tryd.prog 139 [x.sv, y.sv] [] 0 fx
    (RetE (α := N4 × Bool) 0 (fun r => r.1.Ok ∧ r.1.val + y.val = x.val + (if r.2 = true then 115792089237316195423570985008687907853269984665640564039457584007913129639936 else 0)) (fun r => .tup [r.1.sv, .v (.bool r.2)]) (fun _ => []) 0 (fun _ => [])) := by
  refine Tri.of_code tok Tryd.func139 rfl rfl rfl (by decide) rfl (Nat.le_of_ble_eq_true rfl) ?_
  conv => whnf
  repeat' ((first | refine And.intro (by repeat' first | exact trivial | refine And.intro rfl ?_) (And.intro (by first | exact fun _ h => h | exact fun _ => List.mem_cons_of_mem _ | exact fun _ => List.mem_append_right _) ?_) | (refine And.intro (fun h => ?_) (fun h => ?_) <;> (try simp only [n1, n2, n3, n4, n5, n6] at h) <;> first | (exfalso; omega) | (cases h; done) | skip) | refine And.intro (by omega) ?_ | refine Exists.intro _ (And.intro (by first | exact And.intro rfl rfl | exact Pl.den (by repeat constructor) | with_reducible rfl | exact cast_succ _ | assumption | exact (Int.toNat_of_nonneg (by omega)).symm | rfl) ?_) | refine hD _ _ ?_ | refine hL _ _ ?_ | (intro h; (try simp only [n1, n2, n3, n4, n5, n6] at h); first | (exfalso; omega) | (cases h; done) | skip)) <;> (conv => whnf))
  refine loop_rounds 5 (round_next tok ?_)
  conv => whnf
  repeat' ((first | refine And.intro (by repeat' first | exact trivial | refine And.intro rfl ?_) (And.intro (by first | exact fun _ h => h | exact fun _ => List.mem_cons_of_mem _ | exact fun _ => List.mem_append_right _) ?_) | (refine And.intro (fun h => ?_) (fun h => ?_) <;> (try simp only [n1, n2, n3, n4, n5, n6] at h) <;> first | (exfalso; omega) | (cases h; done) | skip) | refine And.intro (by omega) ?_ | refine Exists.intro _ (And.intro (by first | exact And.intro rfl rfl | exact Pl.den (by repeat constructor) | with_reducible rfl | exact cast_succ _ | assumption | exact (Int.toNat_of_nonneg (by omega)).symm | rfl) ?_) | refine hD _ _ ?_ | refine hL _ _ ?_ | (intro h; (try simp only [n1, n2, n3, n4, n5, n6] at h); first | (exfalso; omega) | (cases h; done) | skip)) <;> (conv => whnf))
  refine draw_opaque fun KD hD => ?_
  refine draw_all tok (by kernel_rfl) [.any 0, .any 1, .any 2, .any 4, .any 5, .any 7, .load 3, .one 6, .one 8, .any 9, .any 10, .any 11, .any 12, .last 13, .any 14] [13] (by kernel_rfl) rfl rfl (by repeat' (first | exact trivial | refine And.intro rfl ?_)) ?_
  conv => whnf
  repeat' ((first | refine And.intro (by repeat' first | exact trivial | refine And.intro rfl ?_) (And.intro (by first | exact fun _ h => h | exact fun _ => List.mem_cons_of_mem _ | exact fun _ => List.mem_append_right _) ?_) | (refine And.intro (fun h => ?_) (fun h => ?_) <;> (try simp only [n1, n2, n3, n4, n5, n6] at h) <;> first | (exfalso; omega) | (cases h; done) | skip) | refine And.intro (by omega) ?_ | refine Exists.intro _ (And.intro (by first | exact And.intro rfl rfl | exact Pl.den (by repeat constructor) | with_reducible rfl | exact cast_succ _ | assumption | exact (Int.toNat_of_nonneg (by omega)).symm | rfl) ?_) | refine hD _ _ ?_ | refine hL _ _ ?_ | (intro h; (try simp only [n1, n2, n3, n4, n5, n6] at h); first | (exfalso; omega) | (cases h; done) | skip)) <;> (conv => whnf))
  refine Tri.use (tSubC fx x.a y.a 0 hx.a hy.a (by omega)) [] rfl (fun _ _ _ => rfl) trivial (fun f hf => by first | exact hf | cases hf) (fun u hu => ?_)
  obtain ⟨z0, c0⟩ := u
  obtain ⟨k0, l0, e0⟩ := hu
  simp only at k0 l0 e0
  conv => whnf
  repeat' ((first | refine And.intro (by repeat' first | exact trivial | refine And.intro rfl ?_) (And.intro (by first | exact fun _ h => h | exact fun _ => List.mem_cons_of_mem _ | exact fun _ => List.mem_append_right _) ?_) | (refine And.intro (fun h => ?_) (fun h => ?_) <;> (try simp only [n1, n2, n3, n4, n5, n6] at h) <;> first | (exfalso; omega) | (cases h; done) | skip) | refine And.intro (by omega) ?_ | refine Exists.intro _ (And.intro (by first | exact And.intro rfl rfl | exact Pl.den (by repeat constructor) | with_reducible rfl | exact cast_succ _ | assumption | exact (Int.toNat_of_nonneg (by omega)).symm | rfl) ?_) | refine hD _ _ ?_ | refine hL _ _ ?_ | (intro h; (try simp only [n1, n2, n3, n4, n5, n6] at h); first | (exfalso; omega) | (cases h; done) | skip)) <;> (conv => whnf))
  refine round_next tok ?_
  conv => whnf
  repeat' ((first | refine And.intro (by repeat' first | exact trivial | refine And.intro rfl ?_) (And.intro (by first | exact fun _ h => h | exact fun _ => List.mem_cons_of_mem _ | exact fun _ => List.mem_append_right _) ?_) | (refine And.intro (fun h => ?_) (fun h => ?_) <;> (try simp only [n1, n2, n3, n4, n5, n6] at h) <;> first | (exfalso; omega) | (cases h; done) | skip) | refine And.intro (by omega) ?_ | refine Exists.intro _ (And.intro (by first | exact And.intro rfl rfl | exact Pl.den (by repeat constructor) | with_reducible rfl | exact cast_succ _ | assumption | exact (Int.toNat_of_nonneg (by omega)).symm | rfl) ?_) | refine hD _ _ ?_ | refine hL _ _ ?_ | (intro h; (try simp only [n1, n2, n3, n4, n5, n6] at h); first | (exfalso; omega) | (cases h; done) | skip)) <;> (conv => whnf))
  refine draw_opaque fun KD hD => ?_
  refine draw_all tok (by kernel_rfl) [.any 0, .any 1, .any 2, .any 4, .any 5, .any 7, .load 3, .one 6, .one 8, .any 9, .any 10, .any 11, .any 12, .last 13, .any 14] [13] (by kernel_rfl) rfl rfl (by repeat' (first | exact trivial | refine And.intro rfl ?_)) ?_
  conv => whnf
  repeat' ((first | refine And.intro (by repeat' first | exact trivial | refine And.intro rfl ?_) (And.intro (by first | exact fun _ h => h | exact fun _ => List.mem_cons_of_mem _ | exact fun _ => List.mem_append_right _) ?_) | (refine And.intro (fun h => ?_) (fun h => ?_) <;> (try simp only [n1, n2, n3, n4, n5, n6] at h) <;> first | (exfalso; omega) | (cases h; done) | skip) | refine And.intro (by omega) ?_ | refine Exists.intro _ (And.intro (by first | exact And.intro rfl rfl | exact Pl.den (by repeat constructor) | with_reducible rfl | exact cast_succ _ | assumption | exact (Int.toNat_of_nonneg (by omega)).symm | rfl) ?_) | refine hD _ _ ?_ | refine hL _ _ ?_ | (intro h; (try simp only [n1, n2, n3, n4, n5, n6] at h); first | (exfalso; omega) | (cases h; done) | skip)) <;> (conv => whnf))
  refine Tri.use (tSubC fx x.b y.b c0 hx.b hy.b l0) [] rfl (fun _ _ _ => rfl) trivial (fun f hf => by first | exact hf | cases hf) (fun u hu => ?_)
  obtain ⟨z1, c1⟩ := u
  obtain ⟨k1, l1, e1⟩ := hu
  simp only at k1 l1 e1
  conv => whnf
  repeat' ((first | refine And.intro (by repeat' first | exact trivial | refine And.intro rfl ?_) (And.intro (by first | exact fun _ h => h | exact fun _ => List.mem_cons_of_mem _ | exact fun _ => List.mem_append_right _) ?_) | (refine And.intro (fun h => ?_) (fun h => ?_) <;> (try simp only [n1, n2, n3, n4, n5, n6] at h) <;> first | (exfalso; omega) | (cases h; done) | skip) | refine And.intro (by omega) ?_ | refine Exists.intro _ (And.intro (by first | exact And.intro rfl rfl | exact Pl.den (by repeat constructor) | with_reducible rfl | exact cast_succ _ | assumption | exact (Int.toNat_of_nonneg (by omega)).symm | rfl) ?_) | refine hD _ _ ?_ | refine hL _ _ ?_ | (intro h; (try simp only [n1, n2, n3, n4, n5, n6] at h); first | (exfalso; omega) | (cases h; done) | skip)) <;> (conv => whnf))
  refine round_next tok ?_
  conv => whnf
  repeat' ((first | refine And.intro (by repeat' first | exact trivial | refine And.intro rfl ?_) (And.intro (by first | exact fun _ h => h | exact fun _ => List.mem_cons_of_mem _ | exact fun _ => List.mem_append_right _) ?_) | (refine And.intro (fun h => ?_) (fun h => ?_) <;> (try simp only [n1, n2, n3, n4, n5, n6] at h) <;> first | (exfalso; omega) | (cases h; done) | skip) | refine And.intro (by omega) ?_ | refine Exists.intro _ (And.intro (by first | exact And.intro rfl rfl | exact Pl.den (by repeat constructor) | with_reducible rfl | exact cast_succ _ | assumption | exact (Int.toNat_of_nonneg (by omega)).symm | rfl) ?_) | refine hD _ _ ?_ | refine hL _ _ ?_ | (intro h; (try simp only [n1, n2, n3, n4, n5, n6] at h); first | (exfalso; omega) | (cases h; done) | skip)) <;> (conv => whnf))
  refine draw_opaque fun KD hD => ?_
  refine draw_all tok (by kernel_rfl) [.any 0, .any 1, .any 2, .any 4, .any 5, .any 7, .load 3, .one 6, .one 8, .any 9, .any 10, .any 11, .any 12, .last 13, .any 14] [13] (by kernel_rfl) rfl rfl (by repeat' (first | exact trivial | refine And.intro rfl ?_)) ?_
  conv => whnf
  repeat' ((first | refine And.intro (by repeat' first | exact trivial | refine And.intro rfl ?_) (And.intro (by first | exact fun _ h => h | exact fun _ => List.mem_cons_of_mem _ | exact fun _ => List.mem_append_right _) ?_) | (refine And.intro (fun h => ?_) (fun h => ?_) <;> (try simp only [n1, n2, n3, n4, n5, n6] at h) <;> first | (exfalso; omega) | (cases h; done) | skip) | refine And.intro (by omega) ?_ | refine Exists.intro _ (And.intro (by first | exact And.intro rfl rfl | exact Pl.den (by repeat constructor) | with_reducible rfl | exact cast_succ _ | assumption | exact (Int.toNat_of_nonneg (by omega)).symm | rfl) ?_) | refine hD _ _ ?_ | refine hL _ _ ?_ | (intro h; (try simp only [n1, n2, n3, n4, n5, n6] at h); first | (exfalso; omega) | (cases h; done) | skip)) <;> (conv => whnf))
  refine Tri.use (tSubC fx x.c y.c c1 hx.c hy.c l1) [] rfl (fun _ _ _ => rfl) trivial (fun f hf => by first | exact hf | cases hf) (fun u hu => ?_)
  obtain ⟨z2, c2⟩ := u
  obtain ⟨k2, l2, e2⟩ := hu
  simp only at k2 l2 e2
  conv => whnf
  repeat' ((first | refine And.intro (by repeat' first | exact trivial | refine And.intro rfl ?_) (And.intro (by first | exact fun _ h => h | exact fun _ => List.mem_cons_of_mem _ | exact fun _ => List.mem_append_right _) ?_) | (refine And.intro (fun h => ?_) (fun h => ?_) <;> (try simp only [n1, n2, n3, n4, n5, n6] at h) <;> first | (exfalso; omega) | (cases h; done) | skip) | refine And.intro (by omega) ?_ | refine Exists.intro _ (And.intro (by first | exact And.intro rfl rfl | exact Pl.den (by repeat constructor) | with_reducible rfl | exact cast_succ _ | assumption | exact (Int.toNat_of_nonneg (by omega)).symm | rfl) ?_) | refine hD _ _ ?_ | refine hL _ _ ?_ | (intro h; (try simp only [n1, n2, n3, n4, n5, n6] at h); first | (exfalso; omega) | (cases h; done) | skip)) <;> (conv => whnf))
  refine round_next tok ?_
  conv => whnf
  repeat' ((first | refine And.intro (by repeat' first | exact trivial | refine And.intro rfl ?_) (And.intro (by first | exact fun _ h => h | exact fun _ => List.mem_cons_of_mem _ | exact fun _ => List.mem_append_right _) ?_) | (refine And.intro (fun h => ?_) (fun h => ?_) <;> (try simp only [n1, n2, n3, n4, n5, n6] at h) <;> first | (exfalso; omega) | (cases h; done) | skip) | refine And.intro (by omega) ?_ | refine Exists.intro _ (And.intro (by first | exact And.intro rfl rfl | exact Pl.den (by repeat constructor) | with_reducible rfl | exact cast_succ _ | assumption | exact (Int.toNat_of_nonneg (by omega)).symm | rfl) ?_) | refine hD _ _ ?_ | refine hL _ _ ?_ | (intro h; (try simp only [n1, n2, n3, n4, n5, n6] at h); first | (exfalso; omega) | (cases h; done) | skip)) <;> (conv => whnf))
  refine draw_opaque fun KD hD => ?_
  refine draw_all tok (by kernel_rfl) [.any 0, .any 1, .any 2, .any 4, .any 5, .any 7, .load 3, .one 6, .one 8, .any 9, .any 10, .any 11, .any 12, .last 13, .any 14] [13] (by kernel_rfl) rfl rfl (by repeat' (first | exact trivial | refine And.intro rfl ?_)) ?_
  conv => whnf
  repeat' ((first | refine And.intro (by repeat' first | exact trivial | refine And.intro rfl ?_) (And.intro (by first | exact fun _ h => h | exact fun _ => List.mem_cons_of_mem _ | exact fun _ => List.mem_append_right _) ?_) | (refine And.intro (fun h => ?_) (fun h => ?_) <;> (try simp only [n1, n2, n3, n4, n5, n6] at h) <;> first | (exfalso; omega) | (cases h; done) | skip) | refine And.intro (by omega) ?_ | refine Exists.intro _ (And.intro (by first | exact And.intro rfl rfl | exact Pl.den (by repeat constructor) | with_reducible rfl | exact cast_succ _ | assumption | exact (Int.toNat_of_nonneg (by omega)).symm | rfl) ?_) | refine hD _ _ ?_ | refine hL _ _ ?_ | (intro h; (try simp only [n1, n2, n3, n4, n5, n6] at h); first | (exfalso; omega) | (cases h; done) | skip)) <;> (conv => whnf))
  refine Tri.use (tSubC fx x.d y.d c2 hx.d hy.d l2) [] rfl (fun _ _ _ => rfl) trivial (fun f hf => by first | exact hf | cases hf) (fun u hu => ?_)
  obtain ⟨z3, c3⟩ := u
  obtain ⟨k3, l3, e3⟩ := hu
  simp only at k3 l3 e3
  conv => whnf
  repeat' ((first | refine And.intro (by repeat' first | exact trivial | refine And.intro rfl ?_) (And.intro (by first | exact fun _ h => h | exact fun _ => List.mem_cons_of_mem _ | exact fun _ => List.mem_append_right _) ?_) | (refine And.intro (fun h => ?_) (fun h => ?_) <;> (try simp only [n1, n2, n3, n4, n5, n6] at h) <;> first | (exfalso; omega) | (cases h; done) | skip) | refine And.intro (by omega) ?_ | refine Exists.intro _ (And.intro (by first | exact And.intro rfl rfl | exact Pl.den (by repeat constructor) | with_reducible rfl | exact cast_succ _ | assumption | exact (Int.toNat_of_nonneg (by omega)).symm | rfl) ?_) | refine hD _ _ ?_ | refine hL _ _ ?_ | (intro h; (try simp only [n1, n2, n3, n4, n5, n6] at h); first | (exfalso; omega) | (cases h; done) | skip)) <;> (conv => whnf))
  refine round_next tok ?_
  conv => whnf
  repeat' ((first | refine And.intro (by repeat' first | exact trivial | refine And.intro rfl ?_) (And.intro (by first | exact fun _ h => h | exact fun _ => List.mem_cons_of_mem _ | exact fun _ => List.mem_append_right _) ?_) | (refine And.intro (fun h => ?_) (fun h => ?_) <;> (try simp only [n1, n2, n3, n4, n5, n6] at h) <;> first | (exfalso; omega) | (cases h; done) | skip) | refine And.intro (by omega) ?_ | refine Exists.intro _ (And.intro (by first | exact And.intro rfl rfl | exact Pl.den (by repeat constructor) | with_reducible rfl | exact cast_succ _ | assumption | exact (Int.toNat_of_nonneg (by omega)).symm | rfl) ?_) | refine hD _ _ ?_ | refine hL _ _ ?_ | (intro h; (try simp only [n1, n2, n3, n4, n5, n6] at h); first | (exfalso; omega) | (cases h; done) | skip)) <;> (conv => whnf))
  refine ⟨(⟨z0, z1, z2, z3⟩, decide ((c3 : Int) ≠ 0)), ⟨⟨k0, k1, k2, k3⟩, ?_⟩, Ret.noneS rfl (fun _ _ => rfl) (fun g hg => by cases hg)⟩
  simp only [N4.val]
  by_cases h : c3 = 0
  · subst h; simp; omega
  · have : c3 = 1 := by omega
    subst this; simp; omega
end Go.Proofs.YtekgjjanikicnaaDoor.Sx
namespace Go.Proofs.YtekgjjanikicnaaDoor.Sx
open Go
set_option maxRecDepth 100000
set_option linter.unusedSimpArgs false
set_option linter.unusedVariables false

namespace Word
theorem maskN (a : Nat) (ha : a < 18446744073709551616) : bitz .and .u64 (a : Int) 4294967295 = ((a % 4294967296 : Nat) : Int) := by
  have h := bits_and_u64_nat a 4294967295 ha (by omega)
  have e : a &&& 4294967295 = a % 4294967296 := Nat.and_two_pow_sub_one_eq_mod a 32
  rw [e] at h
  exact h
theorem divN (a : Nat) : (a : Int) / 4294967296 = ((a / 4294967296 : Nat) : Int) := by omega
theorem divC (a : Nat) : (a : Int) / ((4294967296 : Nat) : Int) = ((a / 4294967296 : Nat) : Int) := (Int.natCast_ediv _ _).symm
theorem mulN (a b : Nat) : (a : Int) * (b : Int) = ((a * b : Nat) : Int) := (Int.natCast_mul a b).symm
theorem addN (a b : Nat) : (a : Int) + (b : Int) = ((a + b : Nat) : Int) := (Int.natCast_add a b).symm
theorem wrapN (a : Nat) (ha : a < 18446744073709551616) : IntKind.u64.wrap (a : Int) = (a : Int) := by rw [IntKind.wrap_u64]; omega
theorem wrapM (a : Nat) : IntKind.u64.wrap (a : Int) = ((a % 18446744073709551616 : Nat) : Int) := by rw [IntKind.wrap_u64]; omega
end Word
set_option maxHeartbeats 1000000 in
theorem tMul64 (fx : List Fact) (x y : Nat) (hx : x < 18446744073709551616) (hy : y < 18446744073709551616) : Tri Tryd.prog 194 [.v (.int .u64 x), .v (.int .u64 y)] [] 0 fx
    (Ret 0 (.tup [.v (.int .u64 ((x * y / 18446744073709551616 : Nat) : Int)), .v (.int .u64 ((x * y % 18446744073709551616 : Nat) : Int))]) [] 0 []) := by
  obtain ⟨bd, bt, bw, hhi⟩ := Lib.mul64_hi x y hx hy
  have ba := Lib.half_mul_le (a := x / 4294967296) (b := y / 4294967296) (by omega) (by omega)
  have bb := Lib.half_mul_le (a := x / 4294967296) (b := y % 4294967296) (by omega) (by omega)
  have bc := Lib.half_mul_le (a := x % 4294967296) (b := y / 4294967296) (by omega) (by omega)
  have ba' : x / 4294967296 * (y / 4294967296) < 18446744073709551616 := by omega
  have bb' : x / 4294967296 * (y % 4294967296) < 18446744073709551616 := by omega
  have bc' : x % 4294967296 * (y / 4294967296) < 18446744073709551616 := by omega
  have bh1 : x / 4294967296 * (y / 4294967296) + (x / 4294967296 * (y % 4294967296) + x % 4294967296 * (y % 4294967296) / 4294967296) / 4294967296 < 18446744073709551616 := by omega
  have bh : x / 4294967296 * (y / 4294967296) + (x / 4294967296 * (y % 4294967296) + x % 4294967296 * (y % 4294967296) / 4294967296) / 4294967296 + ((x / 4294967296 * (y % 4294967296) + x % 4294967296 * (y % 4294967296) / 4294967296) % 4294967296 + x % 4294967296 * (y / 4294967296)) / 4294967296 < 18446744073709551616 := by omega
  refine Tri.of_code tok Tryd.func194 rfl rfl rfl (by decide) rfl (Nat.le_of_ble_eq_true rfl) ?_
  conv => whnf
  repeat' ((first | refine And.intro (by repeat' first | exact trivial | refine And.intro rfl ?_) (And.intro (by first | exact fun _ h => h | exact fun _ => List.mem_cons_of_mem _ | exact fun _ => List.mem_append_right _) ?_) | (refine And.intro (fun h => ?_) (fun h => ?_) <;> (try simp only [n1, n2, n3, n4, n5, n6] at h) <;> first | (exfalso; omega) | (cases h; done) | skip) | refine And.intro (by omega) ?_ | refine Exists.intro _ (And.intro (by first | exact And.intro rfl rfl | exact Pl.den (by repeat constructor) | with_reducible rfl | exact cast_succ _ | assumption | exact (Int.toNat_of_nonneg (by omega)).symm | rfl) ?_) | refine hD _ _ ?_ | refine hL _ _ ?_ | (intro h; (try simp only [n1, n2, n3, n4, n5, n6] at h); first | (exfalso; omega) | (cases h; done) | skip)) <;> (conv => whnf))
  refine Ret.noneS rfl (fun _ _ => ?_) (fun g hg => by cases hg)
  simp only [den, denL_cons, denL_nil, Word.maskN x hx, Word.maskN y hy, Word.divN, Word.divC, Word.mulN, Word.addN, Word.wrapN _ bd, Word.wrapN _ bb', Word.wrapN _ bt, Word.maskN _ bt, Word.wrapN _ bc', Word.wrapN _ bw, Word.wrapN _ ba', Word.wrapN _ bh1, Word.wrapN _ bh, Word.wrapM (x * y)]
  rw [hhi]
theorem mul64_le {x y : Nat} (hx : x < 18446744073709551616) (hy : y < 18446744073709551616) : x * y ≤ 340282366920938463426481119284349108225 :=
  Nat.mul_le_mul (show x ≤ 18446744073709551615 by omega) (show y ≤ 18446744073709551615 by omega)
/-- s + a·b + carry, in two words. -/
theorem tMore (fx : List Fact) (s a b c : Nat) (hs : s < 18446744073709551616) (ha : a < 18446744073709551616) (hb : b < 18446744073709551616) (hc : c < 18446744073709551616) :
    Tri Tryd.prog 184 [.v (.int .u64 s), .v (.int .u64 a), .v (.int .u64 b), .v (.int .u64 c)] [] 0 fx
    (RetE (α := Nat × Nat) 0 (fun r => r.1 < 18446744073709551616 ∧ r.2 < 18446744073709551616 ∧ r.1 + 18446744073709551616 * r.2 = s + a * b + c) (fun r => .tup [.v (.int .u64 (r.1 : Int)), .v (.int .u64 (r.2 : Int))]) (fun _ => []) 0 (fun _ => [])) := by
  have hm := mul64_le ha hb
  refine Tri.of_code tok Tryd.func184 rfl rfl rfl (by decide) rfl (Nat.le_of_ble_eq_true rfl) ?_
  conv => whnf
  repeat' ((first | refine And.intro (by repeat' first | exact trivial | refine And.intro rfl ?_) (And.intro (by first | exact fun _ h => h | exact fun _ => List.mem_cons_of_mem _ | exact fun _ => List.mem_append_right _) ?_) | (refine And.intro (fun h => ?_) (fun h => ?_) <;> (try simp only [n1, n2, n3, n4, n5, n6] at h) <;> first | (exfalso; omega) | (cases h; done) | skip) | refine And.intro (by omega) ?_ | refine Exists.intro _ (And.intro (by first | exact And.intro rfl rfl | exact Pl.den (by repeat constructor) | with_reducible rfl | exact cast_succ _ | assumption | exact (Int.toNat_of_nonneg (by omega)).symm | rfl) ?_) | refine hD _ _ ?_ | refine hL _ _ ?_ | (intro h; (try simp only [n1, n2, n3, n4, n5, n6] at h); first | (exfalso; omega) | (cases h; done) | skip)) <;> (conv => whnf))
  refine Tri.use ((tMul64 fx a b ha hb).one) [] rfl (fun _ _ _ => rfl) trivial (fun f hf => by first | exact hf | cases hf) (fun u hu => ?_)
  conv => whnf
  repeat' ((first | refine And.intro (by repeat' first | exact trivial | refine And.intro rfl ?_) (And.intro (by first | exact fun _ h => h | exact fun _ => List.mem_cons_of_mem _ | exact fun _ => List.mem_append_right _) ?_) | (refine And.intro (fun h => ?_) (fun h => ?_) <;> (try simp only [n1, n2, n3, n4, n5, n6] at h) <;> first | (exfalso; omega) | (cases h; done) | skip) | refine And.intro (by omega) ?_ | refine Exists.intro _ (And.intro (by first | exact And.intro rfl rfl | exact Pl.den (by repeat constructor) | with_reducible rfl | exact cast_succ _ | assumption | exact (Int.toNat_of_nonneg (by omega)).symm | rfl) ?_) | refine hD _ _ ?_ | refine hL _ _ ?_ | (intro h; (try simp only [n1, n2, n3, n4, n5, n6] at h); first | (exfalso; omega) | (cases h; done) | skip)) <;> (conv => whnf))
  refine Tri.use (tAddC fx (a * b % 18446744073709551616) s 0 (by omega) hs (by omega)) [] rfl (fun _ _ _ => rfl) trivial (fun f hf => by first | exact hf | cases hf) (fun u hu => ?_)
  obtain ⟨l1, c1⟩ := u
  obtain ⟨k1, l1', e1⟩ := hu
  simp only at k1 l1' e1
  conv => whnf
  repeat' ((first | refine And.intro (by repeat' first | exact trivial | refine And.intro rfl ?_) (And.intro (by first | exact fun _ h => h | exact fun _ => List.mem_cons_of_mem _ | exact fun _ => List.mem_append_right _) ?_) | (refine And.intro (fun h => ?_) (fun h => ?_) <;> (try simp only [n1, n2, n3, n4, n5, n6] at h) <;> first | (exfalso; omega) | (cases h; done) | skip) | refine And.intro (by omega) ?_ | refine Exists.intro _ (And.intro (by first | exact And.intro rfl rfl | exact Pl.den (by repeat constructor) | with_reducible rfl | exact cast_succ _ | assumption | exact (Int.toNat_of_nonneg (by omega)).symm | rfl) ?_) | refine hD _ _ ?_ | refine hL _ _ ?_ | (intro h; (try simp only [n1, n2, n3, n4, n5, n6] at h); first | (exfalso; omega) | (cases h; done) | skip)) <;> (conv => whnf))
  refine Tri.use (tAddC fx l1 c 0 k1 hc (by omega)) [] rfl (fun _ _ _ => rfl) trivial (fun f hf => by first | exact hf | cases hf) (fun u hu => ?_)
  obtain ⟨l2, c2⟩ := u
  obtain ⟨k2, l2', e2⟩ := hu
  simp only at k2 l2' e2
  conv => whnf
  repeat' ((first | refine And.intro (by repeat' first | exact trivial | refine And.intro rfl ?_) (And.intro (by first | exact fun _ h => h | exact fun _ => List.mem_cons_of_mem _ | exact fun _ => List.mem_append_right _) ?_) | (refine And.intro (fun h => ?_) (fun h => ?_) <;> (try simp only [n1, n2, n3, n4, n5, n6] at h) <;> first | (exfalso; omega) | (cases h; done) | skip) | refine And.intro (by omega) ?_ | refine Exists.intro _ (And.intro (by first | exact And.intro rfl rfl | exact Pl.den (by repeat constructor) | with_reducible rfl | exact cast_succ _ | assumption | exact (Int.toNat_of_nonneg (by omega)).symm | rfl) ?_) | refine hD _ _ ?_ | refine hL _ _ ?_ | (intro h; (try simp only [n1, n2, n3, n4, n5, n6] at h); first | (exfalso; omega) | (cases h; done) | skip)) <;> (conv => whnf))
  refine ⟨(l2, a * b / 18446744073709551616 + c1 + c2), ⟨k2, by simp only; omega, by simp only; omega⟩, Ret.noneS rfl (fun _ _ => ?_) (fun g hg => by cases hg)⟩
  simp only [den, denL_cons, denL_nil, Word.addN]
  rw [Word.wrapN _ (by omega), Word.addN, Word.wrapN _ (by omega)]
theorem tNaN (fx : List Fact) (x : Nat) : Tri Tryd.prog 162 [.v (.int .u64 x)] [] 0 fx (Ret 0 (.b false) [] 0 []) := by
  refine Tri.of_code tok Tryd.func162 rfl rfl rfl (by decide) rfl (Nat.le_of_ble_eq_true rfl) ?_
  conv => whnf
  repeat' ((first | refine And.intro (by repeat' first | exact trivial | refine And.intro rfl ?_) (And.intro (by first | exact fun _ h => h | exact fun _ => List.mem_cons_of_mem _ | exact fun _ => List.mem_append_right _) ?_) | (refine And.intro (fun h => ?_) (fun h => ?_) <;> (try simp only [n1, n2, n3, n4, n5, n6] at h) <;> first | (exfalso; omega) | (cases h; done) | skip) | refine And.intro (by omega) ?_ | refine Exists.intro _ (And.intro (by first | exact And.intro rfl rfl | exact Pl.den (by repeat constructor) | with_reducible rfl | exact cast_succ _ | assumption | exact (Int.toNat_of_nonneg (by omega)).symm | rfl) ?_) | refine hD _ _ ?_ | refine hL _ _ ?_ | (intro h; (try simp only [n1, n2, n3, n4, n5, n6] at h); first | (exfalso; omega) | (cases h; done) | skip)) <;> (conv => whnf))
  exact Ret.noneS rfl (fun _ _ => by simp [den]) (fun g hg => by cases hg)
def cmpI (x y : Nat) : Int := if x < y then -1 else if y < x then 1 else 0
theorem tCompare (fx : List Fact) (x y : Nat) : Tri Tryd.prog 133 [.v (.int .u64 x), .v (.int .u64 y)] [] 0 fx (Ret 0 (.v (.int .i64 (cmpI x y))) [] 0 []) := by
  refine Tri.of_code tok Tryd.func133 rfl rfl rfl (by decide) rfl (Nat.le_of_ble_eq_true rfl) ?_
  conv => whnf
  repeat' ((first | refine And.intro (by repeat' first | exact trivial | refine And.intro rfl ?_) (And.intro (by first | exact fun _ h => h | exact fun _ => List.mem_cons_of_mem _ | exact fun _ => List.mem_append_right _) ?_) | (refine And.intro (fun h => ?_) (fun h => ?_) <;> (try simp only [n1, n2, n3, n4, n5, n6] at h) <;> first | (exfalso; omega) | (cases h; done) | skip) | refine And.intro (by omega) ?_ | refine Exists.intro _ (And.intro (by first | exact And.intro rfl rfl | exact Pl.den (by repeat constructor) | with_reducible rfl | exact cast_succ _ | assumption | exact (Int.toNat_of_nonneg (by omega)).symm | rfl) ?_) | refine hD _ _ ?_ | refine hL _ _ ?_ | (intro h; (try simp only [n1, n2, n3, n4, n5, n6] at h); first | (exfalso; omega) | (cases h; done) | skip)) <;> (conv => whnf))
  refine Tri.use ((tNaN fx x).one) [] rfl (fun _ _ _ => rfl) trivial (fun f hf => by first | exact hf | cases hf) (fun u hu => ?_)
  conv => whnf
  repeat' ((first | refine And.intro (by repeat' first | exact trivial | refine And.intro rfl ?_) (And.intro (by first | exact fun _ h => h | exact fun _ => List.mem_cons_of_mem _ | exact fun _ => List.mem_append_right _) ?_) | (refine And.intro (fun h => ?_) (fun h => ?_) <;> (try simp only [n1, n2, n3, n4, n5, n6] at h) <;> first | (exfalso; omega) | (cases h; done) | skip) | refine And.intro (by omega) ?_ | refine Exists.intro _ (And.intro (by first | exact And.intro rfl rfl | exact Pl.den (by repeat constructor) | with_reducible rfl | exact cast_succ _ | assumption | exact (Int.toNat_of_nonneg (by omega)).symm | rfl) ?_) | refine hD _ _ ?_ | refine hL _ _ ?_ | (intro h; (try simp only [n1, n2, n3, n4, n5, n6] at h); first | (exfalso; omega) | (cases h; done) | skip)) <;> (conv => whnf))
  refine Tri.use ((tNaN fx y).one) [] rfl (fun _ _ _ => rfl) trivial (fun f hf => by first | exact hf | cases hf) (fun u hu => ?_)
  conv => whnf
  repeat' ((first | refine And.intro (by repeat' first | exact trivial | refine And.intro rfl ?_) (And.intro (by first | exact fun _ h => h | exact fun _ => List.mem_cons_of_mem _ | exact fun _ => List.mem_append_right _) ?_) | (refine And.intro (fun h => ?_) (fun h => ?_) <;> (try simp only [n1, n2, n3, n4, n5, n6] at h) <;> first | (exfalso; omega) | (cases h; done) | skip) | refine And.intro (by omega) ?_ | refine Exists.intro _ (And.intro (by first | exact And.intro rfl rfl | exact Pl.den (by repeat constructor) | with_reducible rfl | exact cast_succ _ | assumption | exact (Int.toNat_of_nonneg (by omega)).symm | rfl) ?_) | refine hD _ _ ?_ | refine hL _ _ ?_ | (intro h; (try simp only [n1, n2, n3, n4, n5, n6] at h); first | (exfalso; omega) | (cases h; done) | skip)) <;> (conv => whnf))
  · exact Ret.noneS rfl (fun _ _ => by simp only [den, cmpI]; rw [if_pos (by omega)]) (fun g hg => by cases hg)
  · exact Ret.noneS rfl (fun _ _ => by simp only [den, cmpI]; rw [if_neg (by omega), if_pos (by omega)]) (fun g hg => by cases hg)
  · exact Ret.noneS rfl (fun _ _ => by simp only [den, cmpI]; rw [if_neg (by omega), if_neg (by omega)]) (fun g hg => by cases hg)
theorem cmp_d {x y : N4} (hx : x.Ok) (hy : y.Ok) (h : x.d ≠ y.d) : cmpI x.val y.val = cmpI x.d y.d := by
  obtain ⟨h0, h1, h2, h3⟩ := hx
  obtain ⟨g0, g1, g2, g3⟩ := hy
  simp only [cmpI, N4.val]
  (repeat' split) <;> omega
theorem cmp_c {x y : N4} (hx : x.Ok) (hy : y.Ok) (hd : x.d = y.d) (h : x.c ≠ y.c) : cmpI x.val y.val = cmpI x.c y.c := by
  obtain ⟨h0, h1, h2, h3⟩ := hx
  obtain ⟨g0, g1, g2, g3⟩ := hy
  simp only [cmpI, N4.val]
  (repeat' split) <;> omega
theorem cmp_b {x y : N4} (hx : x.Ok) (hy : y.Ok) (hd : x.d = y.d) (hc : x.c = y.c) (h : x.b ≠ y.b) : cmpI x.val y.val = cmpI x.b y.b := by
  obtain ⟨h0, h1, h2, h3⟩ := hx
  obtain ⟨g0, g1, g2, g3⟩ := hy
  simp only [cmpI, N4.val]
  (repeat' split) <;> omega
theorem cmp_a {x y : N4} (hd : x.d = y.d) (hc : x.c = y.c) (hb : x.b = y.b) : cmpI x.val y.val = cmpI x.a y.a := by
  simp only [cmpI, N4.val, hd, hc, hb]
  (repeat' split) <;> omega
set_option maxHeartbeats 1000000 in
theorem tCmp (fx : List Fact) (x y : N4) (hx : x.Ok) (hy : y.Ok) : Tri Tryd.prog 100 [x.sv, y.sv] [] 0 fx (Ret 0 (.v (.int .i64 (cmpI x.val y.val))) [] 0 []) := by
  refine Tri.of_code tok Tryd.func100 rfl rfl rfl (by decide) rfl (Nat.le_of_ble_eq_true rfl) ?_
  conv => whnf
  repeat' ((first | refine And.intro (by repeat' first | exact trivial | refine And.intro rfl ?_) (And.intro (by first | exact fun _ h => h | exact fun _ => List.mem_cons_of_mem _ | exact fun _ => List.mem_append_right _) ?_) | (refine And.intro (fun h => ?_) (fun h => ?_) <;> (try simp only [n1, n2, n3, n4, n5, n6] at h) <;> first | (exfalso; omega) | (cases h; done) | skip) | refine And.intro (by omega) ?_ | refine Exists.intro _ (And.intro (by first | exact And.intro rfl rfl | exact Pl.den (by repeat constructor) | with_reducible rfl | exact cast_succ _ | assumption | exact (Int.toNat_of_nonneg (by omega)).symm | rfl) ?_) | refine hD _ _ ?_ | refine hL _ _ ?_ | (intro h; (try simp only [n1, n2, n3, n4, n5, n6] at h); first | (exfalso; omega) | (cases h; done) | skip)) <;> (conv => whnf))
  refine loop_rounds 5 (round_next tok ?_)
  conv => whnf
  repeat' ((first | refine And.intro (by repeat' first | exact trivial | refine And.intro rfl ?_) (And.intro (by first | exact fun _ h => h | exact fun _ => List.mem_cons_of_mem _ | exact fun _ => List.mem_append_right _) ?_) | (refine And.intro (fun h => ?_) (fun h => ?_) <;> (try simp only [n1, n2, n3, n4, n5, n6] at h) <;> first | (exfalso; omega) | (cases h; done) | skip) | refine And.intro (by omega) ?_ | refine Exists.intro _ (And.intro (by first | exact And.intro rfl rfl | exact Pl.den (by repeat constructor) | with_reducible rfl | exact cast_succ _ | assumption | exact (Int.toNat_of_nonneg (by omega)).symm | rfl) ?_) | refine hD _ _ ?_ | refine hL _ _ ?_ | (intro h; (try simp only [n1, n2, n3, n4, n5, n6] at h); first | (exfalso; omega) | (cases h; done) | skip)) <;> (conv => whnf))
  refine draw_opaque fun KD hD => ?_
  refine draw_all tok (by kernel_rfl) [.any 0, .any 1, .any 3, .any 4, .load 2, .one 5, .any 6] [] (by kernel_rfl) rfl rfl (by repeat' (first | exact trivial | refine And.intro rfl ?_)) ?_
  conv => whnf
  repeat' ((first | refine And.intro (by repeat' first | exact trivial | refine And.intro rfl ?_) (And.intro (by first | exact fun _ h => h | exact fun _ => List.mem_cons_of_mem _ | exact fun _ => List.mem_append_right _) ?_) | (refine And.intro (fun h => ?_) (fun h => ?_) <;> (try simp only [n1, n2, n3, n4, n5, n6] at h) <;> first | (exfalso; omega) | (cases h; done) | skip) | refine And.intro (by omega) ?_ | refine Exists.intro _ (And.intro (by first | exact And.intro rfl rfl | exact Pl.den (by repeat constructor) | with_reducible rfl | exact cast_succ _ | assumption | exact (Int.toNat_of_nonneg (by omega)).symm | rfl) ?_) | refine hD _ _ ?_ | refine hL _ _ ?_ | (intro h; (try simp only [n1, n2, n3, n4, n5, n6] at h); first | (exfalso; omega) | (cases h; done) | skip)) <;> (conv => whnf))
  · refine draw_opaque fun KD hD => ?_
    refine draw_all tok (by kernel_rfl) [.any 0, .any 1, .any 3, .any 4, .load 2, .one 5, .one 6, .any 7] [] (by kernel_rfl) rfl rfl (by repeat' (first | exact trivial | refine And.intro rfl ?_)) ?_
    conv => whnf
    repeat' ((first | refine And.intro (by repeat' first | exact trivial | refine And.intro rfl ?_) (And.intro (by first | exact fun _ h => h | exact fun _ => List.mem_cons_of_mem _ | exact fun _ => List.mem_append_right _) ?_) | (refine And.intro (fun h => ?_) (fun h => ?_) <;> (try simp only [n1, n2, n3, n4, n5, n6] at h) <;> first | (exfalso; omega) | (cases h; done) | skip) | refine And.intro (by omega) ?_ | refine Exists.intro _ (And.intro (by first | exact And.intro rfl rfl | exact Pl.den (by repeat constructor) | with_reducible rfl | exact cast_succ _ | assumption | exact (Int.toNat_of_nonneg (by omega)).symm | rfl) ?_) | refine hD _ _ ?_ | refine hL _ _ ?_ | (intro h; (try simp only [n1, n2, n3, n4, n5, n6] at h); first | (exfalso; omega) | (cases h; done) | skip)) <;> (conv => whnf))
    refine Tri.use ((tCompare fx x.d y.d).one) [] rfl (fun _ _ _ => rfl) trivial (fun f hf => by first | exact hf | cases hf) (fun u hu => ?_)
    conv => whnf
    repeat' ((first | refine And.intro (by repeat' first | exact trivial | refine And.intro rfl ?_) (And.intro (by first | exact fun _ h => h | exact fun _ => List.mem_cons_of_mem _ | exact fun _ => List.mem_append_right _) ?_) | (refine And.intro (fun h => ?_) (fun h => ?_) <;> (try simp only [n1, n2, n3, n4, n5, n6] at h) <;> first | (exfalso; omega) | (cases h; done) | skip) | refine And.intro (by omega) ?_ | refine Exists.intro _ (And.intro (by first | exact And.intro rfl rfl | exact Pl.den (by repeat constructor) | with_reducible rfl | exact cast_succ _ | assumption | exact (Int.toNat_of_nonneg (by omega)).symm | rfl) ?_) | refine hD _ _ ?_ | refine hL _ _ ?_ | (intro h; (try simp only [n1, n2, n3, n4, n5, n6] at h); first | (exfalso; omega) | (cases h; done) | skip)) <;> (conv => whnf))
    exact Ret.noneS rfl (fun _ _ => by simp only [den]; rw [cmp_d hx hy (by omega)]) (fun g hg => by cases hg)
  have hd : x.d = y.d := by omega
  refine round_next tok ?_
  conv => whnf
  repeat' ((first | refine And.intro (by repeat' first | exact trivial | refine And.intro rfl ?_) (And.intro (by first | exact fun _ h => h | exact fun _ => List.mem_cons_of_mem _ | exact fun _ => List.mem_append_right _) ?_) | (refine And.intro (fun h => ?_) (fun h => ?_) <;> (try simp only [n1, n2, n3, n4, n5, n6] at h) <;> first | (exfalso; omega) | (cases h; done) | skip) | refine And.intro (by omega) ?_ | refine Exists.intro _ (And.intro (by first | exact And.intro rfl rfl | exact Pl.den (by repeat constructor) | with_reducible rfl | exact cast_succ _ | assumption | exact (Int.toNat_of_nonneg (by omega)).symm | rfl) ?_) | refine hD _ _ ?_ | refine hL _ _ ?_ | (intro h; (try simp only [n1, n2, n3, n4, n5, n6] at h); first | (exfalso; omega) | (cases h; done) | skip)) <;> (conv => whnf))
  refine draw_opaque fun KD hD => ?_
  refine draw_all tok (by kernel_rfl) [.any 0, .any 1, .any 3, .any 4, .load 2, .one 5, .any 6] [] (by kernel_rfl) rfl rfl (by repeat' (first | exact trivial | refine And.intro rfl ?_)) ?_
  conv => whnf
  repeat' ((first | refine And.intro (by repeat' first | exact trivial | refine And.intro rfl ?_) (And.intro (by first | exact fun _ h => h | exact fun _ => List.mem_cons_of_mem _ | exact fun _ => List.mem_append_right _) ?_) | (refine And.intro (fun h => ?_) (fun h => ?_) <;> (try simp only [n1, n2, n3, n4, n5, n6] at h) <;> first | (exfalso; omega) | (cases h; done) | skip) | refine And.intro (by omega) ?_ | refine Exists.intro _ (And.intro (by first | exact And.intro rfl rfl | exact Pl.den (by repeat constructor) | with_reducible rfl | exact cast_succ _ | assumption | exact (Int.toNat_of_nonneg (by omega)).symm | rfl) ?_) | refine hD _ _ ?_ | refine hL _ _ ?_ | (intro h; (try simp only [n1, n2, n3, n4, n5, n6] at h); first | (exfalso; omega) | (cases h; done) | skip)) <;> (conv => whnf))
  · refine draw_opaque fun KD hD => ?_
    refine draw_all tok (by kernel_rfl) [.any 0, .any 1, .any 3, .any 4, .load 2, .one 5, .one 6, .any 7] [] (by kernel_rfl) rfl rfl (by repeat' (first | exact trivial | refine And.intro rfl ?_)) ?_
    conv => whnf
    repeat' ((first | refine And.intro (by repeat' first | exact trivial | refine And.intro rfl ?_) (And.intro (by first | exact fun _ h => h | exact fun _ => List.mem_cons_of_mem _ | exact fun _ => List.mem_append_right _) ?_) | (refine And.intro (fun h => ?_) (fun h => ?_) <;> (try simp only [n1, n2, n3, n4, n5, n6] at h) <;> first | (exfalso; omega) | (cases h; done) | skip) | refine And.intro (by omega) ?_ | refine Exists.intro _ (And.intro (by first | exact And.intro rfl rfl | exact Pl.den (by repeat constructor) | with_reducible rfl | exact cast_succ _ | assumption | exact (Int.toNat_of_nonneg (by omega)).symm | rfl) ?_) | refine hD _ _ ?_ | refine hL _ _ ?_ | (intro h; (try simp only [n1, n2, n3, n4, n5, n6] at h); first | (exfalso; omega) | (cases h; done) | skip)) <;> (conv => whnf))
    refine Tri.use ((tCompare fx x.c y.c).one) [] rfl (fun _ _ _ => rfl) trivial (fun f hf => by first | exact hf | cases hf) (fun u hu => ?_)
    conv => whnf
    repeat' ((first | refine And.intro (by repeat' first | exact trivial | refine And.intro rfl ?_) (And.intro (by first | exact fun _ h => h | exact fun _ => List.mem_cons_of_mem _ | exact fun _ => List.mem_append_right _) ?_) | (refine And.intro (fun h => ?_) (fun h => ?_) <;> (try simp only [n1, n2, n3, n4, n5, n6] at h) <;> first | (exfalso; omega) | (cases h; done) | skip) | refine And.intro (by omega) ?_ | refine Exists.intro _ (And.intro (by first | exact And.intro rfl rfl | exact Pl.den (by repeat constructor) | with_reducible rfl | exact cast_succ _ | assumption | exact (Int.toNat_of_nonneg (by omega)).symm | rfl) ?_) | refine hD _ _ ?_ | refine hL _ _ ?_ | (intro h; (try simp only [n1, n2, n3, n4, n5, n6] at h); first | (exfalso; omega) | (cases h; done) | skip)) <;> (conv => whnf))
    exact Ret.noneS rfl (fun _ _ => by simp only [den]; rw [cmp_c hx hy hd (by omega)]) (fun g hg => by cases hg)
  have hc : x.c = y.c := by omega
  refine round_next tok ?_
  conv => whnf
  repeat' ((first | refine And.intro (by repeat' first | exact trivial | refine And.intro rfl ?_) (And.intro (by first | exact fun _ h => h | exact fun _ => List.mem_cons_of_mem _ | exact fun _ => List.mem_append_right _) ?_) | (refine And.intro (fun h => ?_) (fun h => ?_) <;> (try simp only [n1, n2, n3, n4, n5, n6] at h) <;> first | (exfalso; omega) | (cases h; done) | skip) | refine And.intro (by omega) ?_ | refine Exists.intro _ (And.intro (by first | exact And.intro rfl rfl | exact Pl.den (by repeat constructor) | with_reducible rfl | exact cast_succ _ | assumption | exact (Int.toNat_of_nonneg (by omega)).symm | rfl) ?_) | refine hD _ _ ?_ | refine hL _ _ ?_ | (intro h; (try simp only [n1, n2, n3, n4, n5, n6] at h); first | (exfalso; omega) | (cases h; done) | skip)) <;> (conv => whnf))
  refine draw_opaque fun KD hD => ?_
  refine draw_all tok (by kernel_rfl) [.any 0, .any 1, .any 3, .any 4, .load 2, .one 5, .any 6] [] (by kernel_rfl) rfl rfl (by repeat' (first | exact trivial | refine And.intro rfl ?_)) ?_
  conv => whnf
  repeat' ((first | refine And.intro (by repeat' first | exact trivial | refine And.intro rfl ?_) (And.intro (by first | exact fun _ h => h | exact fun _ => List.mem_cons_of_mem _ | exact fun _ => List.mem_append_right _) ?_) | (refine And.intro (fun h => ?_) (fun h => ?_) <;> (try simp only [n1, n2, n3, n4, n5, n6] at h) <;> first | (exfalso; omega) | (cases h; done) | skip) | refine And.intro (by omega) ?_ | refine Exists.intro _ (And.intro (by first | exact And.intro rfl rfl | exact Pl.den (by repeat constructor) | with_reducible rfl | exact cast_succ _ | assumption | exact (Int.toNat_of_nonneg (by omega)).symm | rfl) ?_) | refine hD _ _ ?_ | refine hL _ _ ?_ | (intro h; (try simp only [n1, n2, n3, n4, n5, n6] at h); first | (exfalso; omega) | (cases h; done) | skip)) <;> (conv => whnf))
  · refine draw_opaque fun KD hD => ?_
    refine draw_all tok (by kernel_rfl) [.any 0, .any 1, .any 3, .any 4, .load 2, .one 5, .one 6, .any 7] [] (by kernel_rfl) rfl rfl (by repeat' (first | exact trivial | refine And.intro rfl ?_)) ?_
    conv => whnf
    repeat' ((first | refine And.intro (by repeat' first | exact trivial | refine And.intro rfl ?_) (And.intro (by first | exact fun _ h => h | exact fun _ => List.mem_cons_of_mem _ | exact fun _ => List.mem_append_right _) ?_) | (refine And.intro (fun h => ?_) (fun h => ?_) <;> (try simp only [n1, n2, n3, n4, n5, n6] at h) <;> first | (exfalso; omega) | (cases h; done) | skip) | refine And.intro (by omega) ?_ | refine Exists.intro _ (And.intro (by first | exact And.intro rfl rfl | exact Pl.den (by repeat constructor) | with_reducible rfl | exact cast_succ _ | assumption | exact (Int.toNat_of_nonneg (by omega)).symm | rfl) ?_) | refine hD _ _ ?_ | refine hL _ _ ?_ | (intro h; (try simp only [n1, n2, n3, n4, n5, n6] at h); first | (exfalso; omega) | (cases h; done) | skip)) <;> (conv => whnf))
    refine Tri.use ((tCompare fx x.b y.b).one) [] rfl (fun _ _ _ => rfl) trivial (fun f hf => by first | exact hf | cases hf) (fun u hu => ?_)
    conv => whnf
    repeat' ((first | refine And.intro (by repeat' first | exact trivial | refine And.intro rfl ?_) (And.intro (by first | exact fun _ h => h | exact fun _ => List.mem_cons_of_mem _ | exact fun _ => List.mem_append_right _) ?_) | (refine And.intro (fun h => ?_) (fun h => ?_) <;> (try simp only [n1, n2, n3, n4, n5, n6] at h) <;> first | (exfalso; omega) | (cases h; done) | skip) | refine And.intro (by omega) ?_ | refine Exists.intro _ (And.intro (by first | exact And.intro rfl rfl | exact Pl.den (by repeat constructor) | with_reducible rfl | exact cast_succ _ | assumption | exact (Int.toNat_of_nonneg (by omega)).symm | rfl) ?_) | refine hD _ _ ?_ | refine hL _ _ ?_ | (intro h; (try simp only [n1, n2, n3, n4, n5, n6] at h); first | (exfalso; omega) | (cases h; done) | skip)) <;> (conv => whnf))
    exact Ret.noneS rfl (fun _ _ => by simp only [den]; rw [cmp_b hx hy hd hc (by omega)]) (fun g hg => by cases hg)
  have hb : x.b = y.b := by omega
  refine round_next tok ?_
  conv => whnf
  repeat' ((first | refine And.intro (by repeat' first | exact trivial | refine And.intro rfl ?_) (And.intro (by first | exact fun _ h => h | exact fun _ => List.mem_cons_of_mem _ | exact fun _ => List.mem_append_right _) ?_) | (refine And.intro (fun h => ?_) (fun h => ?_) <;> (try simp only [n1, n2, n3, n4, n5, n6] at h) <;> first | (exfalso; omega) | (cases h; done) | skip) | refine And.intro (by omega) ?_ | refine Exists.intro _ (And.intro (by first | exact And.intro rfl rfl | exact Pl.den (by repeat constructor) | with_reducible rfl | exact cast_succ _ | assumption | exact (Int.toNat_of_nonneg (by omega)).symm | rfl) ?_) | refine hD _ _ ?_ | refine hL _ _ ?_ | (intro h; (try simp only [n1, n2, n3, n4, n5, n6] at h); first | (exfalso; omega) | (cases h; done) | skip)) <;> (conv => whnf))
  refine draw_opaque fun KD hD => ?_
  refine draw_all tok (by kernel_rfl) [.any 0, .any 1, .any 3, .any 4, .load 2, .one 5, .any 6] [] (by kernel_rfl) rfl rfl (by repeat' (first | exact trivial | refine And.intro rfl ?_)) ?_
  conv => whnf
  repeat' ((first | refine And.intro (by repeat' first | exact trivial | refine And.intro rfl ?_) (And.intro (by first | exact fun _ h => h | exact fun _ => List.mem_cons_of_mem _ | exact fun _ => List.mem_append_right _) ?_) | (refine And.intro (fun h => ?_) (fun h => ?_) <;> (try simp only [n1, n2, n3, n4, n5, n6] at h) <;> first | (exfalso; omega) | (cases h; done) | skip) | refine And.intro (by omega) ?_ | refine Exists.intro _ (And.intro (by first | exact And.intro rfl rfl | exact Pl.den (by repeat constructor) | with_reducible rfl | exact cast_succ _ | assumption | exact (Int.toNat_of_nonneg (by omega)).symm | rfl) ?_) | refine hD _ _ ?_ | refine hL _ _ ?_ | (intro h; (try simp only [n1, n2, n3, n4, n5, n6] at h); first | (exfalso; omega) | (cases h; done) | skip)) <;> (conv => whnf))
  · refine draw_opaque fun KD hD => ?_
    refine draw_all tok (by kernel_rfl) [.any 0, .any 1, .any 3, .any 4, .load 2, .one 5, .one 6, .any 7] [] (by kernel_rfl) rfl rfl (by repeat' (first | exact trivial | refine And.intro rfl ?_)) ?_
    conv => whnf
    repeat' ((first | refine And.intro (by repeat' first | exact trivial | refine And.intro rfl ?_) (And.intro (by first | exact fun _ h => h | exact fun _ => List.mem_cons_of_mem _ | exact fun _ => List.mem_append_right _) ?_) | (refine And.intro (fun h => ?_) (fun h => ?_) <;> (try simp only [n1, n2, n3, n4, n5, n6] at h) <;> first | (exfalso; omega) | (cases h; done) | skip) | refine And.intro (by omega) ?_ | refine Exists.intro _ (And.intro (by first | exact And.intro rfl rfl | exact Pl.den (by repeat constructor) | with_reducible rfl | exact cast_succ _ | assumption | exact (Int.toNat_of_nonneg (by omega)).symm | rfl) ?_) | refine hD _ _ ?_ | refine hL _ _ ?_ | (intro h; (try simp only [n1, n2, n3, n4, n5, n6] at h); first | (exfalso; omega) | (cases h; done) | skip)) <;> (conv => whnf))
    refine Tri.use ((tCompare fx x.a y.a).one) [] rfl (fun _ _ _ => rfl) trivial (fun f hf => by first | exact hf | cases hf) (fun u hu => ?_)
    conv => whnf
    repeat' ((first | refine And.intro (by repeat' first | exact trivial | refine And.intro rfl ?_) (And.intro (by first | exact fun _ h => h | exact fun _ => List.mem_cons_of_mem _ | exact fun _ => List.mem_append_right _) ?_) | (refine And.intro (fun h => ?_) (fun h => ?_) <;> (try simp only [n1, n2, n3, n4, n5, n6] at h) <;> first | (exfalso; omega) | (cases h; done) | skip) | refine And.intro (by omega) ?_ | refine Exists.intro _ (And.intro (by first | exact And.intro rfl rfl | exact Pl.den (by repeat constructor) | with_reducible rfl | exact cast_succ _ | assumption | exact (Int.toNat_of_nonneg (by omega)).symm | rfl) ?_) | refine hD _ _ ?_ | refine hL _ _ ?_ | (intro h; (try simp only [n1, n2, n3, n4, n5, n6] at h); first | (exfalso; omega) | (cases h; done) | skip)) <;> (conv => whnf))
    exact Ret.noneS rfl (fun _ _ => by simp only [den]; rw [cmp_a hd hc hb]) (fun g hg => by cases hg)
  have ha : x.a = y.a := by omega
  refine round_next tok ?_
  conv => whnf
  repeat' ((first | refine And.intro (by repeat' first | exact trivial | refine And.intro rfl ?_) (And.intro (by first | exact fun _ h => h | exact fun _ => List.mem_cons_of_mem _ | exact fun _ => List.mem_append_right _) ?_) | (refine And.intro (fun h => ?_) (fun h => ?_) <;> (try simp only [n1, n2, n3, n4, n5, n6] at h) <;> first | (exfalso; omega) | (cases h; done) | skip) | refine And.intro (by omega) ?_ | refine Exists.intro _ (And.intro (by first | exact And.intro rfl rfl | exact Pl.den (by repeat constructor) | with_reducible rfl | exact cast_succ _ | assumption | exact (Int.toNat_of_nonneg (by omega)).symm | rfl) ?_) | refine hD _ _ ?_ | refine hL _ _ ?_ | (intro h; (try simp only [n1, n2, n3, n4, n5, n6] at h); first | (exfalso; omega) | (cases h; done) | skip)) <;> (conv => whnf))
  exact Ret.noneS rfl (fun _ _ => by simp only [den]; rw [cmp_a hd hc hb, ha]; simp [cmpI]) (fun g hg => by cases hg)
theorem pick_t (a b : Nat) (ha : a < 18446744073709551616) : bitz .or .u64 (bitz .and .u64 (a : Int) 18446744073709551615) (bitz .andNot .u64 (b : Int) 18446744073709551615) = (a : Int) := by
  have h0 : bitz .andNot .u64 (b : Int) 18446744073709551615 = 0 := by
    show IntKind.u64.wrap ((BitVec.ofInt 64 (b : Int) &&& ~~~(BitVec.ofInt 64 18446744073709551615)).toNat : Int) = 0
    rw [show (~~~(BitVec.ofInt 64 18446744073709551615)) = 0#64 by decide, BitVec.and_zero]; rfl
  have h1 : bitz .and .u64 (a : Int) 18446744073709551615 = (a : Int) := by
    have h := bits_and_u64_nat a 18446744073709551615 ha (by omega)
    have e : a &&& 18446744073709551615 = a % 18446744073709551616 := Nat.and_two_pow_sub_one_eq_mod a 64
    rw [e, Nat.mod_eq_of_lt ha] at h
    exact h
  have e : (BitVec.ofInt 64 (a : Int)).toNat = a := by rw [BitVec.toNat_ofInt]; omega
  rw [h0, h1]
  show IntKind.u64.wrap ((BitVec.ofInt 64 (a : Int) ||| BitVec.ofInt 64 0).toNat : Int) = (a : Int)
  rw [show BitVec.ofInt 64 0 = 0#64 from rfl, BitVec.or_zero, e, Word.wrapN a ha]
theorem pick_f (a b : Nat) (hb : b < 18446744073709551616) : bitz .or .u64 (bitz .and .u64 (a : Int) 0) (bitz .andNot .u64 (b : Int) 0) = (b : Int) := by
  have e : (BitVec.ofInt 64 (b : Int)).toNat = b := by rw [BitVec.toNat_ofInt]; omega
  have h0 : bitz .and .u64 (a : Int) 0 = 0 := by
    show IntKind.u64.wrap ((BitVec.ofInt 64 (a : Int) &&& BitVec.ofInt 64 0).toNat : Int) = 0
    rw [show BitVec.ofInt 64 0 = 0#64 from rfl, BitVec.and_zero]; rfl
  have h1 : bitz .andNot .u64 (b : Int) 0 = (b : Int) := by
    show IntKind.u64.wrap ((BitVec.ofInt 64 (b : Int) &&& ~~~(BitVec.ofInt 64 0)).toNat : Int) = (b : Int)
    rw [show (~~~(BitVec.ofInt 64 0)) = BitVec.allOnes 64 by decide, BitVec.and_allOnes, e, Word.wrapN b hb]
  rw [h0, h1]
  show IntKind.u64.wrap ((BitVec.ofInt 64 0 ||| BitVec.ofInt 64 (b : Int)).toNat : Int) = (b : Int)
  rw [show BitVec.ofInt 64 0 = 0#64 from rfl, BitVec.zero_or, e, Word.wrapN b hb]
theorem pick_t' (a b : Nat) (ha : a < 18446744073709551616) : bitz .or .u64 (bitz .and .u64 (a : Int) ((18446744073709551615 : Nat) : Int)) (bitz .andNot .u64 (b : Int) ((18446744073709551615 : Nat) : Int)) = (a : Int) := pick_t a b ha
set_option maxHeartbeats 2000000 in
theorem tPick (fx : List Fact) (c : Bool) (x y : N4) (hx : x.Ok) (hy : y.Ok) : Tri Tryd.prog 165 [.v (.bool c), x.sv, y.sv] [] 0 fx (Ret 0 (if c = true then x else y).sv [] 0 []) := by
  obtain ⟨h0, h1, h2, h3⟩ := hx
  obtain ⟨g0, g1, g2, g3⟩ := hy
  refine Tri.of_code tok Tryd.func165 rfl rfl rfl (by decide) rfl (Nat.le_of_ble_eq_true rfl) ?_
  conv => whnf
  repeat' ((first | refine And.intro (by repeat' first | exact trivial | refine And.intro rfl ?_) (And.intro (by first | exact fun _ h => h | exact fun _ => List.mem_cons_of_mem _ | exact fun _ => List.mem_append_right _) ?_) | (refine And.intro (fun h => ?_) (fun h => ?_) <;> (try simp only [n1, n2, n3, n4, n5, n6] at h) <;> first | (exfalso; omega) | (cases h; done) | skip) | refine And.intro (by omega) ?_ | refine Exists.intro _ (And.intro (by first | exact And.intro rfl rfl | exact Pl.den (by repeat constructor) | with_reducible rfl | exact cast_succ _ | assumption | exact (Int.toNat_of_nonneg (by omega)).symm | rfl) ?_) | refine hD _ _ ?_ | refine hL _ _ ?_ | (intro h; (try simp only [n1, n2, n3, n4, n5, n6] at h); first | (exfalso; omega) | (cases h; done) | skip)) <;> (conv => whnf))
  · refine loop_rounds 5 (round_next tok ?_)
    conv => whnf
    repeat' ((first | refine And.intro (by repeat' first | exact trivial | refine And.intro rfl ?_) (And.intro (by first | exact fun _ h => h | exact fun _ => List.mem_cons_of_mem _ | exact fun _ => List.mem_append_right _) ?_) | (refine And.intro (fun h => ?_) (fun h => ?_) <;> (try simp only [n1, n2, n3, n4, n5, n6] at h) <;> first | (exfalso; omega) | (cases h; done) | skip) | refine And.intro (by omega) ?_ | refine Exists.intro _ (And.intro (by first | exact And.intro rfl rfl | exact Pl.den (by repeat constructor) | with_reducible rfl | exact cast_succ _ | assumption | exact (Int.toNat_of_nonneg (by omega)).symm | rfl) ?_) | refine hD _ _ ?_ | refine hL _ _ ?_ | (intro h; (try simp only [n1, n2, n3, n4, n5, n6] at h); first | (exfalso; omega) | (cases h; done) | skip)) <;> (conv => whnf))
    refine draw_opaque fun KD hD => ?_
    refine draw_all tok (by kernel_rfl) [.any 0, .any 1, .any 2, .any 4, .any 6, .any 7, .any 9, .load 3, .any 5, .one 8, .any 10, .any 11, .any 12, .last 13] [13] (by kernel_rfl) rfl rfl (by repeat' (first | exact trivial | refine And.intro rfl ?_)) ?_
    conv => whnf
    repeat' ((first | refine And.intro (by repeat' first | exact trivial | refine And.intro rfl ?_) (And.intro (by first | exact fun _ h => h | exact fun _ => List.mem_cons_of_mem _ | exact fun _ => List.mem_append_right _) ?_) | (refine And.intro (fun h => ?_) (fun h => ?_) <;> (try simp only [n1, n2, n3, n4, n5, n6] at h) <;> first | (exfalso; omega) | (cases h; done) | skip) | refine And.intro (by omega) ?_ | refine Exists.intro _ (And.intro (by first | exact And.intro rfl rfl | exact Pl.den (by repeat constructor) | with_reducible rfl | exact cast_succ _ | assumption | exact (Int.toNat_of_nonneg (by omega)).symm | rfl) ?_) | refine hD _ _ ?_ | refine hL _ _ ?_ | (intro h; (try simp only [n1, n2, n3, n4, n5, n6] at h); first | (exfalso; omega) | (cases h; done) | skip)) <;> (conv => whnf))
    refine round_next tok ?_
    conv => whnf
    repeat' ((first | refine And.intro (by repeat' first | exact trivial | refine And.intro rfl ?_) (And.intro (by first | exact fun _ h => h | exact fun _ => List.mem_cons_of_mem _ | exact fun _ => List.mem_append_right _) ?_) | (refine And.intro (fun h => ?_) (fun h => ?_) <;> (try simp only [n1, n2, n3, n4, n5, n6] at h) <;> first | (exfalso; omega) | (cases h; done) | skip) | refine And.intro (by omega) ?_ | refine Exists.intro _ (And.intro (by first | exact And.intro rfl rfl | exact Pl.den (by repeat constructor) | with_reducible rfl | exact cast_succ _ | assumption | exact (Int.toNat_of_nonneg (by omega)).symm | rfl) ?_) | refine hD _ _ ?_ | refine hL _ _ ?_ | (intro h; (try simp only [n1, n2, n3, n4, n5, n6] at h); first | (exfalso; omega) | (cases h; done) | skip)) <;> (conv => whnf))
    refine draw_opaque fun KD hD => ?_
    refine draw_all tok (by kernel_rfl) [.any 0, .any 1, .any 2, .any 4, .any 6, .any 7, .any 9, .load 3, .any 5, .one 8, .any 10, .any 11, .any 12, .last 13] [13] (by kernel_rfl) rfl rfl (by repeat' (first | exact trivial | refine And.intro rfl ?_)) ?_
    conv => whnf
    repeat' ((first | refine And.intro (by repeat' first | exact trivial | refine And.intro rfl ?_) (And.intro (by first | exact fun _ h => h | exact fun _ => List.mem_cons_of_mem _ | exact fun _ => List.mem_append_right _) ?_) | (refine And.intro (fun h => ?_) (fun h => ?_) <;> (try simp only [n1, n2, n3, n4, n5, n6] at h) <;> first | (exfalso; omega) | (cases h; done) | skip) | refine And.intro (by omega) ?_ | refine Exists.intro _ (And.intro (by first | exact And.intro rfl rfl | exact Pl.den (by repeat constructor) | with_reducible rfl | exact cast_succ _ | assumption | exact (Int.toNat_of_nonneg (by omega)).symm | rfl) ?_) | refine hD _ _ ?_ | refine hL _ _ ?_ | (intro h; (try simp only [n1, n2, n3, n4, n5, n6] at h); first | (exfalso; omega) | (cases h; done) | skip)) <;> (conv => whnf))
    refine round_next tok ?_
    conv => whnf
    repeat' ((first | refine And.intro (by repeat' first | exact trivial | refine And.intro rfl ?_) (And.intro (by first | exact fun _ h => h | exact fun _ => List.mem_cons_of_mem _ | exact fun _ => List.mem_append_right _) ?_) | (refine And.intro (fun h => ?_) (fun h => ?_) <;> (try simp only [n1, n2, n3, n4, n5, n6] at h) <;> first | (exfalso; omega) | (cases h; done) | skip) | refine And.intro (by omega) ?_ | refine Exists.intro _ (And.intro (by first | exact And.intro rfl rfl | exact Pl.den (by repeat constructor) | with_reducible rfl | exact cast_succ _ | assumption | exact (Int.toNat_of_nonneg (by omega)).symm | rfl) ?_) | refine hD _ _ ?_ | refine hL _ _ ?_ | (intro h; (try simp only [n1, n2, n3, n4, n5, n6] at h); first | (exfalso; omega) | (cases h; done) | skip)) <;> (conv => whnf))
    refine draw_opaque fun KD hD => ?_
    refine draw_all tok (by kernel_rfl) [.any 0, .any 1, .any 2, .any 4, .any 6, .any 7, .any 9, .load 3, .any 5, .one 8, .any 10, .any 11, .any 12, .last 13] [13] (by kernel_rfl) rfl rfl (by repeat' (first | exact trivial | refine And.intro rfl ?_)) ?_
    conv => whnf
    repeat' ((first | refine And.intro (by repeat' first | exact trivial | refine And.intro rfl ?_) (And.intro (by first | exact fun _ h => h | exact fun _ => List.mem_cons_of_mem _ | exact fun _ => List.mem_append_right _) ?_) | (refine And.intro (fun h => ?_) (fun h => ?_) <;> (try simp only [n1, n2, n3, n4, n5, n6] at h) <;> first | (exfalso; omega) | (cases h; done) | skip) | refine And.intro (by omega) ?_ | refine Exists.intro _ (And.intro (by first | exact And.intro rfl rfl | exact Pl.den (by repeat constructor) | with_reducible rfl | exact cast_succ _ | assumption | exact (Int.toNat_of_nonneg (by omega)).symm | rfl) ?_) | refine hD _ _ ?_ | refine hL _ _ ?_ | (intro h; (try simp only [n1, n2, n3, n4, n5, n6] at h); first | (exfalso; omega) | (cases h; done) | skip)) <;> (conv => whnf))
    refine round_next tok ?_
    conv => whnf
    repeat' ((first | refine And.intro (by repeat' first | exact trivial | refine And.intro rfl ?_) (And.intro (by first | exact fun _ h => h | exact fun _ => List.mem_cons_of_mem _ | exact fun _ => List.mem_append_right _) ?_) | (refine And.intro (fun h => ?_) (fun h => ?_) <;> (try simp only [n1, n2, n3, n4, n5, n6] at h) <;> first | (exfalso; omega) | (cases h; done) | skip) | refine And.intro (by omega) ?_ | refine Exists.intro _ (And.intro (by first | exact And.intro rfl rfl | exact Pl.den (by repeat constructor) | with_reducible rfl | exact cast_succ _ | assumption | exact (Int.toNat_of_nonneg (by omega)).symm | rfl) ?_) | refine hD _ _ ?_ | refine hL _ _ ?_ | (intro h; (try simp only [n1, n2, n3, n4, n5, n6] at h); first | (exfalso; omega) | (cases h; done) | skip)) <;> (conv => whnf))
    refine draw_opaque fun KD hD => ?_
    refine draw_all tok (by kernel_rfl) [.any 0, .any 1, .any 2, .any 4, .any 6, .any 7, .any 9, .load 3, .any 5, .one 8, .any 10, .any 11, .any 12, .last 13] [13] (by kernel_rfl) rfl rfl (by repeat' (first | exact trivial | refine And.intro rfl ?_)) ?_
    conv => whnf
    repeat' ((first | refine And.intro (by repeat' first | exact trivial | refine And.intro rfl ?_) (And.intro (by first | exact fun _ h => h | exact fun _ => List.mem_cons_of_mem _ | exact fun _ => List.mem_append_right _) ?_) | (refine And.intro (fun h => ?_) (fun h => ?_) <;> (try simp only [n1, n2, n3, n4, n5, n6] at h) <;> first | (exfalso; omega) | (cases h; done) | skip) | refine And.intro (by omega) ?_ | refine Exists.intro _ (And.intro (by first | exact And.intro rfl rfl | exact Pl.den (by repeat constructor) | with_reducible rfl | exact cast_succ _ | assumption | exact (Int.toNat_of_nonneg (by omega)).symm | rfl) ?_) | refine hD _ _ ?_ | refine hL _ _ ?_ | (intro h; (try simp only [n1, n2, n3, n4, n5, n6] at h); first | (exfalso; omega) | (cases h; done) | skip)) <;> (conv => whnf))
    refine round_next tok ?_
    conv => whnf
    repeat' ((first | refine And.intro (by repeat' first | exact trivial | refine And.intro rfl ?_) (And.intro (by first | exact fun _ h => h | exact fun _ => List.mem_cons_of_mem _ | exact fun _ => List.mem_append_right _) ?_) | (refine And.intro (fun h => ?_) (fun h => ?_) <;> (try simp only [n1, n2, n3, n4, n5, n6] at h) <;> first | (exfalso; omega) | (cases h; done) | skip) | refine And.intro (by omega) ?_ | refine Exists.intro _ (And.intro (by first | exact And.intro rfl rfl | exact Pl.den (by repeat constructor) | with_reducible rfl | exact cast_succ _ | assumption | exact (Int.toNat_of_nonneg (by omega)).symm | rfl) ?_) | refine hD _ _ ?_ | refine hL _ _ ?_ | (intro h; (try simp only [n1, n2, n3, n4, n5, n6] at h); first | (exfalso; omega) | (cases h; done) | skip)) <;> (conv => whnf))
    refine Ret.noneS rfl (fun _ _ => ?_) (fun g hg => by cases hg)
    rw [h]
    simp only [if_true, N4.sv, den, denL_cons, denL_nil, pick_t' _ _ h0, pick_t' _ _ h1, pick_t' _ _ h2, pick_t' _ _ h3]
  · refine loop_rounds 5 (round_next tok ?_)
    conv => whnf
    repeat' ((first | refine And.intro (by repeat' first | exact trivial | refine And.intro rfl ?_) (And.intro (by first | exact fun _ h => h | exact fun _ => List.mem_cons_of_mem _ | exact fun _ => List.mem_append_right _) ?_) | (refine And.intro (fun h => ?_) (fun h => ?_) <;> (try simp only [n1, n2, n3, n4, n5, n6] at h) <;> first | (exfalso; omega) | (cases h; done) | skip) | refine And.intro (by omega) ?_ | refine Exists.intro _ (And.intro (by first | exact And.intro rfl rfl | exact Pl.den (by repeat constructor) | with_reducible rfl | exact cast_succ _ | assumption | exact (Int.toNat_of_nonneg (by omega)).symm | rfl) ?_) | refine hD _ _ ?_ | refine hL _ _ ?_ | (intro h; (try simp only [n1, n2, n3, n4, n5, n6] at h); first | (exfalso; omega) | (cases h; done) | skip)) <;> (conv => whnf))
    refine draw_opaque fun KD hD => ?_
    refine draw_all tok (by kernel_rfl) [.any 0, .any 1, .any 2, .any 4, .any 6, .any 7, .any 9, .load 3, .any 5, .one 8, .any 10, .any 11, .any 12, .last 13] [13] (by kernel_rfl) rfl rfl (by repeat' (first | exact trivial | refine And.intro rfl ?_)) ?_
    conv => whnf
    repeat' ((first | refine And.intro (by repeat' first | exact trivial | refine And.intro rfl ?_) (And.intro (by first | exact fun _ h => h | exact fun _ => List.mem_cons_of_mem _ | exact fun _ => List.mem_append_right _) ?_) | (refine And.intro (fun h => ?_) (fun h => ?_) <;> (try simp only [n1, n2, n3, n4, n5, n6] at h) <;> first | (exfalso; omega) | (cases h; done) | skip) | refine And.intro (by omega) ?_ | refine Exists.intro _ (And.intro (by first | exact And.intro rfl rfl | exact Pl.den (by repeat constructor) | with_reducible rfl | exact cast_succ _ | assumption | exact (Int.toNat_of_nonneg (by omega)).symm | rfl) ?_) | refine hD _ _ ?_ | refine hL _ _ ?_ | (intro h; (try simp only [n1, n2, n3, n4, n5, n6] at h); first | (exfalso; omega) | (cases h; done) | skip)) <;> (conv => whnf))
    refine round_next tok ?_
    conv => whnf
    repeat' ((first | refine And.intro (by repeat' first | exact trivial | refine And.intro rfl ?_) (And.intro (by first | exact fun _ h => h | exact fun _ => List.mem_cons_of_mem _ | exact fun _ => List.mem_append_right _) ?_) | (refine And.intro (fun h => ?_) (fun h => ?_) <;> (try simp only [n1, n2, n3, n4, n5, n6] at h) <;> first | (exfalso; omega) | (cases h; done) | skip) | refine And.intro (by omega) ?_ | refine Exists.intro _ (And.intro (by first | exact And.intro rfl rfl | exact Pl.den (by repeat constructor) | with_reducible rfl | exact cast_succ _ | assumption | exact (Int.toNat_of_nonneg (by omega)).symm | rfl) ?_) | refine hD _ _ ?_ | refine hL _ _ ?_ | (intro h; (try simp only [n1, n2, n3, n4, n5, n6] at h); first | (exfalso; omega) | (cases h; done) | skip)) <;> (conv => whnf))
    refine draw_opaque fun KD hD => ?_
    refine draw_all tok (by kernel_rfl) [.any 0, .any 1, .any 2, .any 4, .any 6, .any 7, .any 9, .load 3, .any 5, .one 8, .any 10, .any 11, .any 12, .last 13] [13] (by kernel_rfl) rfl rfl (by repeat' (first | exact trivial | refine And.intro rfl ?_)) ?_
    conv => whnf
    repeat' ((first | refine And.intro (by repeat' first | exact trivial | refine And.intro rfl ?_) (And.intro (by first | exact fun _ h => h | exact fun _ => List.mem_cons_of_mem _ | exact fun _ => List.mem_append_right _) ?_) | (refine And.intro (fun h => ?_) (fun h => ?_) <;> (try simp only [n1, n2, n3, n4, n5, n6] at h) <;> first | (exfalso; omega) | (cases h; done) | skip) | refine And.intro (by omega) ?_ | refine Exists.intro _ (And.intro (by first | exact And.intro rfl rfl | exact Pl.den (by repeat constructor) | with_reducible rfl | exact cast_succ _ | assumption | exact (Int.toNat_of_nonneg (by omega)).symm | rfl) ?_) | refine hD _ _ ?_ | refine hL _ _ ?_ | (intro h; (try simp only [n1, n2, n3, n4, n5, n6] at h); first | (exfalso; omega) | (cases h; done) | skip)) <;> (conv => whnf))
    refine round_next tok ?_
    conv => whnf
    repeat' ((first | refine And.intro (by repeat' first | exact trivial | refine And.intro rfl ?_) (And.intro (by first | exact fun _ h => h | exact fun _ => List.mem_cons_of_mem _ | exact fun _ => List.mem_append_right _) ?_) | (refine And.intro (fun h => ?_) (fun h => ?_) <;> (try simp only [n1, n2, n3, n4, n5, n6] at h) <;> first | (exfalso; omega) | (cases h; done) | skip) | refine And.intro (by omega) ?_ | refine Exists.intro _ (And.intro (by first | exact And.intro rfl rfl | exact Pl.den (by repeat constructor) | with_reducible rfl | exact cast_succ _ | assumption | exact (Int.toNat_of_nonneg (by omega)).symm | rfl) ?_) | refine hD _ _ ?_ | refine hL _ _ ?_ | (intro h; (try simp only [n1, n2, n3, n4, n5, n6] at h); first | (exfalso; omega) | (cases h; done) | skip)) <;> (conv => whnf))
    refine draw_opaque fun KD hD => ?_
    refine draw_all tok (by kernel_rfl) [.any 0, .any 1, .any 2, .any 4, .any 6, .any 7, .any 9, .load 3, .any 5, .one 8, .any 10, .any 11, .any 12, .last 13] [13] (by kernel_rfl) rfl rfl (by repeat' (first | exact trivial | refine And.intro rfl ?_)) ?_
    conv => whnf
    repeat' ((first | refine And.intro (by repeat' first | exact trivial | refine And.intro rfl ?_) (And.intro (by first | exact fun _ h => h | exact fun _ => List.mem_cons_of_mem _ | exact fun _ => List.mem_append_right _) ?_) | (refine And.intro (fun h => ?_) (fun h => ?_) <;> (try simp only [n1, n2, n3, n4, n5, n6] at h) <;> first | (exfalso; omega) | (cases h; done) | skip) | refine And.intro (by omega) ?_ | refine Exists.intro _ (And.intro (by first | exact And.intro rfl rfl | exact Pl.den (by repeat constructor) | with_reducible rfl | exact cast_succ _ | assumption | exact (Int.toNat_of_nonneg (by omega)).symm | rfl) ?_) | refine hD _ _ ?_ | refine hL _ _ ?_ | (intro h; (try simp only [n1, n2, n3, n4, n5, n6] at h); first | (exfalso; omega) | (cases h; done) | skip)) <;> (conv => whnf))
    refine round_next tok ?_
    conv => whnf
    repeat' ((first | refine And.intro (by repeat' first | exact trivial | refine And.intro rfl ?_) (And.intro (by first | exact fun _ h => h | exact fun _ => List.mem_cons_of_mem _ | exact fun _ => List.mem_append_right _) ?_) | (refine And.intro (fun h => ?_) (fun h => ?_) <;> (try simp only [n1, n2, n3, n4, n5, n6] at h) <;> first | (exfalso; omega) | (cases h; done) | skip) | refine And.intro (by omega) ?_ | refine Exists.intro _ (And.intro (by first | exact And.intro rfl rfl | exact Pl.den (by repeat constructor) | with_reducible rfl | exact cast_succ _ | assumption | exact (Int.toNat_of_nonneg (by omega)).symm | rfl) ?_) | refine hD _ _ ?_ | refine hL _ _ ?_ | (intro h; (try simp only [n1, n2, n3, n4, n5, n6] at h); first | (exfalso; omega) | (cases h; done) | skip)) <;> (conv => whnf))
    refine draw_opaque fun KD hD => ?_
    refine draw_all tok (by kernel_rfl) [.any 0, .any 1, .any 2, .any 4, .any 6, .any 7, .any 9, .load 3, .any 5, .one 8, .any 10, .any 11, .any 12, .last 13] [13] (by kernel_rfl) rfl rfl (by repeat' (first | exact trivial | refine And.intro rfl ?_)) ?_
    conv => whnf
    repeat' ((first | refine And.intro (by repeat' first | exact trivial | refine And.intro rfl ?_) (And.intro (by first | exact fun _ h => h | exact fun _ => List.mem_cons_of_mem _ | exact fun _ => List.mem_append_right _) ?_) | (refine And.intro (fun h => ?_) (fun h => ?_) <;> (try simp only [n1, n2, n3, n4, n5, n6] at h) <;> first | (exfalso; omega) | (cases h; done) | skip) | refine And.intro (by omega) ?_ | refine Exists.intro _ (And.intro (by first | exact And.intro rfl rfl | exact Pl.den (by repeat constructor) | with_reducible rfl | exact cast_succ _ | assumption | exact (Int.toNat_of_nonneg (by omega)).symm | rfl) ?_) | refine hD _ _ ?_ | refine hL _ _ ?_ | (intro h; (try simp only [n1, n2, n3, n4, n5, n6] at h); first | (exfalso; omega) | (cases h; done) | skip)) <;> (conv => whnf))
    refine round_next tok ?_
    conv => whnf
    repeat' ((first | refine And.intro (by repeat' first | exact trivial | refine And.intro rfl ?_) (And.intro (by first | exact fun _ h => h | exact fun _ => List.mem_cons_of_mem _ | exact fun _ => List.mem_append_right _) ?_) | (refine And.intro (fun h => ?_) (fun h => ?_) <;> (try simp only [n1, n2, n3, n4, n5, n6] at h) <;> first | (exfalso; omega) | (cases h; done) | skip) | refine And.intro (by omega) ?_ | refine Exists.intro _ (And.intro (by first | exact And.intro rfl rfl | exact Pl.den (by repeat constructor) | with_reducible rfl | exact cast_succ _ | assumption | exact (Int.toNat_of_nonneg (by omega)).symm | rfl) ?_) | refine hD _ _ ?_ | refine hL _ _ ?_ | (intro h; (try simp only [n1, n2, n3, n4, n5, n6] at h); first | (exfalso; omega) | (cases h; done) | skip)) <;> (conv => whnf))
    refine Ret.noneS rfl (fun _ _ => ?_) (fun g hg => by cases hg)
    rw [h]
    simp only [Bool.false_eq_true, if_false, N4.sv, den, denL_cons, denL_nil, pick_f _ _ g0, pick_f _ _ g1, pick_f _ _ g2, pick_f _ _ g3]
def N4.limb (x : N4) : Nat → Nat
  | 0 => x.a
  | 1 => x.b
  | 2 => x.c
  | _ => x.d
theorem limb_get (x : N4) {q : Nat} (h : q < 4) : ([.v (.int .u64 (x.a : Int)), .v (.int .u64 (x.b : Int)), .v (.int .u64 (x.c : Int)), .v (.int .u64 (x.d : Int))] : List SV)[0 + q * 1]? = some (.v (.int .u64 (x.limb q : Int))) := by
  match q, h with
  | 0, _ => rfl
  | 1, _ => rfl
  | 2, _ => rfl
  | 3, _ => rfl
def bitI (x i : Nat) : Int := if x.testBit i = true then 1 else 0
theorem and_one (n : Nat) (h : n < 18446744073709551616) : bitz .and .u64 (n : Int) 1 = ((n % 2 : Nat) : Int) := by
  have h := bits_and_u64_nat n 1 h (by omega)
  rw [Nat.and_one_is_mod] at h
  exact h
theorem limb_lt {x : N4} (h : x.Ok) (q : Nat) : x.limb q < 18446744073709551616 := by
  match q with
  | 0 => exact h.a
  | 1 => exact h.b
  | 2 => exact h.c
  | _ + 3 => exact h.d
theorem limb_bit {x : N4} (h : x.Ok) {i : Nat} (hi : i < 256) : ((x.limb (i / 64) / 2 ^ (i % 64) % 2 : Nat) : Int) = bitI x.val i := by
  have hr : i % 64 < 64 := Nat.mod_lt _ (by decide)
  have key : ∀ (B A r : Nat), A < 18446744073709551616 → r < 64 → (18446744073709551616 * B + A).testBit r = A.testBit r := fun B A r hA hr => by
    have := Nat.testBit_two_pow_mul_add (i := 64) B (b := A) hA r
    rw [if_pos hr] at this
    exact this
  have hi2 : (18446744073709551616 : Nat) = 2 ^ 64 := rfl
  have up : ∀ (B A r : Nat), A < 18446744073709551616 → (18446744073709551616 * B + A).testBit (64 + r) = B.testBit r := fun B A r hA => by
    have := Nat.testBit_two_pow_mul_add (i := 64) B (b := A) hA (64 + r)
    rw [if_neg (by omega)] at this
    rw [show 64 + r - 64 = r by omega] at this
    exact this
  have fin : ∀ A r : Nat, ((A / 2 ^ r % 2 : Nat) : Int) = if A.testBit r = true then 1 else 0 := fun A r => by
    rw [Nat.testBit_eq_decide_div_mod_eq]
    by_cases h : A / 2 ^ r % 2 = 1
    · simp [h]
    · have : A / 2 ^ r % 2 = 0 := by omega
      simp [this]
  rw [fin, bitI]
  have hv : x.val = 18446744073709551616 * (18446744073709551616 * (18446744073709551616 * x.d + x.c) + x.b) + x.a := by simp only [N4.val]; omega
  have hq : i / 64 = 0 ∨ i / 64 = 1 ∨ i / 64 = 2 ∨ i / 64 = 3 := by omega
  rw [hv]
  rcases hq with hq | hq | hq | hq
  · rw [hq, show i = i % 64 by omega, key _ _ _ h.a (by omega)]; simp [N4.limb]
  · rw [hq, show i = 64 + i % 64 by omega, up _ _ _ h.a, key _ _ _ h.b hr]; simp [N4.limb]
  · rw [hq, show i = 64 + (64 + i % 64) by omega, up _ _ _ h.a, up _ _ _ h.b, key _ _ _ h.c hr]; simp [N4.limb]
  · rw [hq, show i = 64 + (64 + (64 + i % 64)) by omega, up _ _ _ h.a, up _ _ _ h.b, up _ _ _ h.c]; simp [N4.limb]
set_option maxHeartbeats 1000000 in
theorem tBit (fx : List Fact) (x : N4) (hx : x.Ok) (i : Nat) (hi : i < 256) : Tri Tryd.prog 76 [x.sv, .v (.int .i64 i)] [] 0 fx (Ret 0 (.v (.int .i64 (bitI x.val i))) [] 0 []) := by
  have hq : ((i / 64 : Nat) : Int) = (i : Int) / 64 := by omega
  have hb : bitz .and .u64 (((x.limb (i / 64) : Nat) : Int) / ((pw .u64 ((i : Int) % 64) : Nat) : Int)) 1 = bitI x.val i := by
    have h1 : pw .u64 ((i : Int) % 64) = 2 ^ (i % 64) := by
      unfold pw
      rw [show ((i : Int) % 64).toNat = i % 64 by omega, show min (i % 64) IntKind.u64.bits = i % 64 from Nat.min_eq_left (by show i % 64 ≤ 64; omega)]
    rw [h1, ← Int.natCast_ediv, and_one _ (Nat.lt_of_le_of_lt (Nat.div_le_self _ _) (limb_lt hx _)), limb_bit hx hi]
  have hbb : 0 ≤ bitI x.val i ∧ bitI x.val i ≤ 1 := by unfold bitI; split <;> omega
  refine Tri.of_code tok Tryd.func76 rfl rfl rfl (by decide) rfl (Nat.le_of_ble_eq_true rfl) ?_
  conv => whnf
  repeat' ((first | (refine Exists.intro (i / 64) (And.intro hq.symm ?_)) | (refine Exists.intro _ (And.intro (limb_get x (by omega)) ?_)) | refine And.intro (by repeat' first | exact trivial | refine And.intro rfl ?_) (And.intro (by first | exact fun _ h => h | exact fun _ => List.mem_cons_of_mem _ | exact fun _ => List.mem_append_right _) ?_) | (refine And.intro (fun h => ?_) (fun h => ?_) <;> (try simp only [n1, n2, n3, n4, n5, n6] at h) <;> first | (exfalso; omega) | (cases h; done) | skip) | refine And.intro (by omega) ?_ | refine Exists.intro _ (And.intro (by first | exact And.intro rfl rfl | exact Pl.den (by repeat constructor) | with_reducible rfl | exact cast_succ _ | assumption | exact (Int.toNat_of_nonneg (by omega)).symm | rfl) ?_) | refine hD _ _ ?_ | refine hL _ _ ?_ | (intro h; (try simp only [n1, n2, n3, n4, n5, n6] at h); first | (exfalso; omega) | (cases h; done) | skip)) <;> (conv => whnf))
  exact Ret.noneS rfl (fun _ _ => by simp only [den, hb]) (fun g hg => by cases hg)
end Go.Proofs.YtekgjjanikicnaaDoor.Sx
