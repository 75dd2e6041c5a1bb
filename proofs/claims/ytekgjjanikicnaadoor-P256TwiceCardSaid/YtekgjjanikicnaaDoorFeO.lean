/- The reference's numbers modulo a number: folded, added, subtracted, multiplied. -/
import Derived.Test.YtekgjjanikicnaaDoorFeN
namespace Go.Proofs.YtekgjjanikicnaaDoor.Sx
open Go Go.Proofs.YtekgjjanikicnaaDoor.Pm
set_option maxRecDepth 100000
set_option linter.unusedSimpArgs false
set_option linter.unusedVariables false

def mN : N4 := ⟨17562291160714782033, 13611842547513532036, 18446744073709551615, 18446744069414584320⟩
theorem mN_ok : mN.Ok := N4.Ok.of (by decide) (by decide) (by decide) (by decide)
theorem mN_val : mN.val = nG := by decide
theorem tRModulus1 (fx : List Fact) : Tri Tryd.prog 28 [.k .i64 1] [] 0 fx (Ret 0 mN.sv [] 0 []) := by
  refine Tri.of_code tok Tryd.func28 rfl rfl rfl (by decide) rfl (Nat.le_of_ble_eq_true rfl) ?_
  conv => whnf
  repeat' ((first | refine And.intro (by repeat' first | exact trivial | refine And.intro rfl ?_) (And.intro (by first | exact fun _ h => h | exact fun _ => List.mem_cons_of_mem _ | exact fun _ => List.mem_append_right _) ?_) | (refine And.intro (fun h => ?_) (fun h => ?_) <;> (try simp only [n1, n2, n3, n4, n5, n6] at h) <;> first | (exfalso; omega) | (cases h; done) | skip) | refine And.intro (by omega) ?_ | refine Exists.intro _ (And.intro (by first | exact And.intro rfl rfl | exact Pl.den (by repeat constructor) | with_reducible rfl | exact cast_succ _ | assumption | exact (Int.toNat_of_nonneg (by omega)).symm | rfl) ?_) | refine hD _ _ ?_ | refine hL _ _ ?_ | (intro h; (try simp only [n1, n2, n3, n4, n5, n6] at h); first | (exfalso; omega) | (cases h; done) | skip)) <;> (conv => whnf))
  exact Ret.noneS rfl (fun _ _ => rfl) (fun g hg => by cases hg)
theorem less_t (fx : List Fact) (x y : N4) (hx : x.Ok) (hy : y.Ok) (h : x.val < y.val) : Tri Tryd.prog 77 [x.sv, y.sv] [] 0 fx (RetE (α := Unit) 0 (fun _ => True) (fun _ => .b true) (fun _ => []) 0 (fun _ => [])) :=
  (tLess fx x y hx hy).one.reval fun _ => by simp only [den, decide_eq_true h]
theorem less_f (fx : List Fact) (x y : N4) (hx : x.Ok) (hy : y.Ok) (h : ¬ x.val < y.val) : Tri Tryd.prog 77 [x.sv, y.sv] [] 0 fx (RetE (α := Unit) 0 (fun _ => True) (fun _ => .b false) (fun _ => []) 0 (fun _ => [])) :=
  (tLess fx x y hx hy).one.reval fun _ => by simp only [den, decide_eq_false h]
theorem sub01_val {a m r : Nat} {o : Bool} (h : r + m = a + (if o = true then 115792089237316195423570985008687907853269984665640564039457584007913129639936 else 0)) (hr : r < 115792089237316195423570985008687907853269984665640564039457584007913129639936) (hm : m ≤ a) : r = a - m := by
  cases o
  · simp only [Bool.false_eq_true, if_false] at h; omega
  · simp only [if_true] at h; omega
set_option maxHeartbeats 1000000 in
theorem tRPlusM (fx : List Fact) (m a b : N4) (hm : m.Ok) (ha : a.Ok) (hb : b.Ok) (ham : a.val < m.val) (hbm : b.val < m.val) : Tri Tryd.prog 79 [m.sv, a.sv, b.sv] [] 0 fx
    (RetE (α := N4) 0 (fun r => r.Ok ∧ r.val = (a.val + b.val) % m.val) (fun r => r.sv) (fun _ => []) 0 (fun _ => [])) := by
  have hml := N4.val_lt hm
  rw [add_mod_of ham hbm]
  refine Tri.of_code tok Tryd.func79 rfl rfl rfl (by decide) rfl (Nat.le_of_ble_eq_true rfl) ?_
  conv => whnf
  repeat' ((first | refine And.intro (by repeat' first | exact trivial | refine And.intro rfl ?_) (And.intro (by first | exact fun _ h => h | exact fun _ => List.mem_cons_of_mem _ | exact fun _ => List.mem_append_right _) ?_) | (refine And.intro (fun h => ?_) (fun h => ?_) <;> (try simp only [n1, n2, n3, n4, n5, n6] at h) <;> first | (exfalso; omega) | (cases h; done) | skip) | refine And.intro (by omega) ?_ | refine Exists.intro _ (And.intro (by first | exact And.intro rfl rfl | exact Pl.den (by repeat constructor) | with_reducible rfl | exact cast_succ _ | assumption | exact (Int.toNat_of_nonneg (by omega)).symm | rfl) ?_) | refine hD _ _ ?_ | refine hL _ _ ?_ | (intro h; (try simp only [n1, n2, n3, n4, n5, n6] at h); first | (exfalso; omega) | (cases h; done) | skip)) <;> (conv => whnf))
  refine Tri.use (tRAdd01 fx a b ha hb) [] rfl (fun _ _ _ => rfl) trivial (fun f hf => by first | exact hf | cases hf) (fun s hs => ?_)
  have s1 := hs.1
  have s2 := hs.2
  clear hs
  obtain ⟨z, o⟩ := s
  simp only at s1 s2
  have hz := N4.val_lt s1
  cases o with
  | true =>
    simp only [if_true] at s2
    conv => whnf
    repeat' ((first | refine And.intro (by repeat' first | exact trivial | refine And.intro rfl ?_) (And.intro (by first | exact fun _ h => h | exact fun _ => List.mem_cons_of_mem _ | exact fun _ => List.mem_append_right _) ?_) | (refine And.intro (fun h => ?_) (fun h => ?_) <;> (try simp only [n1, n2, n3, n4, n5, n6] at h) <;> first | (exfalso; omega) | (cases h; done) | skip) | refine And.intro (by omega) ?_ | refine Exists.intro _ (And.intro (by first | exact And.intro rfl rfl | exact Pl.den (by repeat constructor) | with_reducible rfl | exact cast_succ _ | assumption | exact (Int.toNat_of_nonneg (by omega)).symm | rfl) ?_) | refine hD _ _ ?_ | refine hL _ _ ?_ | (intro h; (try simp only [n1, n2, n3, n4, n5, n6] at h); first | (exfalso; omega) | (cases h; done) | skip)) <;> (conv => whnf))
    refine Tri.use (tRSub01 fx z m s1 hm) [] rfl (fun _ _ _ => rfl) trivial (fun f hf => by first | exact hf | cases hf) (fun t ht => ?_)
    have t1 := ht.1
    have t2 := ht.2
    clear ht
    obtain ⟨w, o⟩ := t
    simp only at t1 t2
    have hw := N4.val_lt t1
    conv => whnf
    repeat' ((first | refine And.intro (by repeat' first | exact trivial | refine And.intro rfl ?_) (And.intro (by first | exact fun _ h => h | exact fun _ => List.mem_cons_of_mem _ | exact fun _ => List.mem_append_right _) ?_) | (refine And.intro (fun h => ?_) (fun h => ?_) <;> (try simp only [n1, n2, n3, n4, n5, n6] at h) <;> first | (exfalso; omega) | (cases h; done) | skip) | refine And.intro (by omega) ?_ | refine Exists.intro _ (And.intro (by first | exact And.intro rfl rfl | exact Pl.den (by repeat constructor) | with_reducible rfl | exact cast_succ _ | assumption | exact (Int.toNat_of_nonneg (by omega)).symm | rfl) ?_) | refine hD _ _ ?_ | refine hL _ _ ?_ | (intro h; (try simp only [n1, n2, n3, n4, n5, n6] at h); first | (exfalso; omega) | (cases h; done) | skip)) <;> (conv => whnf))
    refine ⟨w, ⟨t1, ?_⟩, Ret.noneS rfl (fun _ _ => rfl) (fun g hg => by cases hg)⟩
    rw [if_pos (by omega)]
    cases o
    · simp only [Bool.false_eq_true, if_false] at t2; omega
    · simp only [if_true] at t2; omega
  | false =>
    simp only [Bool.false_eq_true, if_false] at s2
    by_cases hl : z.val < m.val
    · conv => whnf
      repeat' ((first | refine And.intro (by repeat' first | exact trivial | refine And.intro rfl ?_) (And.intro (by first | exact fun _ h => h | exact fun _ => List.mem_cons_of_mem _ | exact fun _ => List.mem_append_right _) ?_) | (refine And.intro (fun h => ?_) (fun h => ?_) <;> (try simp only [n1, n2, n3, n4, n5, n6] at h) <;> first | (exfalso; omega) | (cases h; done) | skip) | refine And.intro (by omega) ?_ | refine Exists.intro _ (And.intro (by first | exact And.intro rfl rfl | exact Pl.den (by repeat constructor) | with_reducible rfl | exact cast_succ _ | assumption | exact (Int.toNat_of_nonneg (by omega)).symm | rfl) ?_) | refine hD _ _ ?_ | refine hL _ _ ?_ | (intro h; (try simp only [n1, n2, n3, n4, n5, n6] at h); first | (exfalso; omega) | (cases h; done) | skip)) <;> (conv => whnf))
      refine Tri.use (less_t fx z m s1 hm hl) [] rfl (fun _ _ _ => rfl) trivial (fun f hf => by first | exact hf | cases hf) (fun u hu => ?_)
      conv => whnf
      repeat' ((first | refine And.intro (by repeat' first | exact trivial | refine And.intro rfl ?_) (And.intro (by first | exact fun _ h => h | exact fun _ => List.mem_cons_of_mem _ | exact fun _ => List.mem_append_right _) ?_) | (refine And.intro (fun h => ?_) (fun h => ?_) <;> (try simp only [n1, n2, n3, n4, n5, n6] at h) <;> first | (exfalso; omega) | (cases h; done) | skip) | refine And.intro (by omega) ?_ | refine Exists.intro _ (And.intro (by first | exact And.intro rfl rfl | exact Pl.den (by repeat constructor) | with_reducible rfl | exact cast_succ _ | assumption | exact (Int.toNat_of_nonneg (by omega)).symm | rfl) ?_) | refine hD _ _ ?_ | refine hL _ _ ?_ | (intro h; (try simp only [n1, n2, n3, n4, n5, n6] at h); first | (exfalso; omega) | (cases h; done) | skip)) <;> (conv => whnf))
      refine ⟨z, ⟨s1, ?_⟩, Ret.noneS rfl (fun _ _ => rfl) (fun g hg => by cases hg)⟩
      rw [if_neg (by omega)]; omega
    · conv => whnf
      repeat' ((first | refine And.intro (by repeat' first | exact trivial | refine And.intro rfl ?_) (And.intro (by first | exact fun _ h => h | exact fun _ => List.mem_cons_of_mem _ | exact fun _ => List.mem_append_right _) ?_) | (refine And.intro (fun h => ?_) (fun h => ?_) <;> (try simp only [n1, n2, n3, n4, n5, n6] at h) <;> first | (exfalso; omega) | (cases h; done) | skip) | refine And.intro (by omega) ?_ | refine Exists.intro _ (And.intro (by first | exact And.intro rfl rfl | exact Pl.den (by repeat constructor) | with_reducible rfl | exact cast_succ _ | assumption | exact (Int.toNat_of_nonneg (by omega)).symm | rfl) ?_) | refine hD _ _ ?_ | refine hL _ _ ?_ | (intro h; (try simp only [n1, n2, n3, n4, n5, n6] at h); first | (exfalso; omega) | (cases h; done) | skip)) <;> (conv => whnf))
      refine Tri.use (less_f fx z m s1 hm hl) [] rfl (fun _ _ _ => rfl) trivial (fun f hf => by first | exact hf | cases hf) (fun u hu => ?_)
      conv => whnf
      repeat' ((first | refine And.intro (by repeat' first | exact trivial | refine And.intro rfl ?_) (And.intro (by first | exact fun _ h => h | exact fun _ => List.mem_cons_of_mem _ | exact fun _ => List.mem_append_right _) ?_) | (refine And.intro (fun h => ?_) (fun h => ?_) <;> (try simp only [n1, n2, n3, n4, n5, n6] at h) <;> first | (exfalso; omega) | (cases h; done) | skip) | refine And.intro (by omega) ?_ | refine Exists.intro _ (And.intro (by first | exact And.intro rfl rfl | exact Pl.den (by repeat constructor) | with_reducible rfl | exact cast_succ _ | assumption | exact (Int.toNat_of_nonneg (by omega)).symm | rfl) ?_) | refine hD _ _ ?_ | refine hL _ _ ?_ | (intro h; (try simp only [n1, n2, n3, n4, n5, n6] at h); first | (exfalso; omega) | (cases h; done) | skip)) <;> (conv => whnf))
      refine Tri.use (tRSub01 fx z m s1 hm) [] rfl (fun _ _ _ => rfl) trivial (fun f hf => by first | exact hf | cases hf) (fun t ht => ?_)
      have t1 := ht.1
      have t2 := ht.2
      clear ht
      obtain ⟨w, o⟩ := t
      simp only at t1 t2
      have hw := N4.val_lt t1
      conv => whnf
      repeat' ((first | refine And.intro (by repeat' first | exact trivial | refine And.intro rfl ?_) (And.intro (by first | exact fun _ h => h | exact fun _ => List.mem_cons_of_mem _ | exact fun _ => List.mem_append_right _) ?_) | (refine And.intro (fun h => ?_) (fun h => ?_) <;> (try simp only [n1, n2, n3, n4, n5, n6] at h) <;> first | (exfalso; omega) | (cases h; done) | skip) | refine And.intro (by omega) ?_ | refine Exists.intro _ (And.intro (by first | exact And.intro rfl rfl | exact Pl.den (by repeat constructor) | with_reducible rfl | exact cast_succ _ | assumption | exact (Int.toNat_of_nonneg (by omega)).symm | rfl) ?_) | refine hD _ _ ?_ | refine hL _ _ ?_ | (intro h; (try simp only [n1, n2, n3, n4, n5, n6] at h); first | (exfalso; omega) | (cases h; done) | skip)) <;> (conv => whnf))
      refine ⟨w, ⟨t1, ?_⟩, Ret.noneS rfl (fun _ _ => rfl) (fun g hg => by cases hg)⟩
      rw [if_pos (by omega), sub01_val t2 hw (by omega)]; omega
/-- A modulus by its number. -/
structure Md (k : Int) (m : N4) : Prop where
  T : ∀ fx, Tri Tryd.prog 28 [.k .i64 k] [] 0 fx (Ret 0 m.sv [] 0 [])
  ok : m.Ok
  pos : 0 < m.val
theorem md0 : Md 0 M0.m := ⟨tRModulus0, M0_ok.m, by decide⟩
theorem md1 : Md 1 mN := ⟨tRModulus1, mN_ok, by decide⟩
set_option maxHeartbeats 1000000 in
theorem tRFold (fx : List Fact) (k : Int) (m : N4) (hM : Md k m) (x : N4) (hx : x.Ok) : Tri Tryd.prog 30 [.k .i64 k, x.sv] [] 0 fx
    (RetE (α := N4) 0 (fun r => r.Ok ∧ r.val = x.val % m.val) (fun r => r.sv) (fun _ => []) 0 (fun _ => [])) := by
  have hm := hM.ok
  have hpos := hM.pos
  refine Tri.of_code tok Tryd.func30 rfl rfl rfl (by decide) rfl (Nat.le_of_ble_eq_true rfl) ?_
  conv => whnf
  repeat' ((first | refine And.intro (by repeat' first | exact trivial | refine And.intro rfl ?_) (And.intro (by first | exact fun _ h => h | exact fun _ => List.mem_cons_of_mem _ | exact fun _ => List.mem_append_right _) ?_) | (refine And.intro (fun h => ?_) (fun h => ?_) <;> (try simp only [n1, n2, n3, n4, n5, n6] at h) <;> first | (exfalso; omega) | (cases h; done) | skip) | refine And.intro (by omega) ?_ | refine Exists.intro _ (And.intro (by first | exact And.intro rfl rfl | exact Pl.den (by repeat constructor) | with_reducible rfl | exact cast_succ _ | assumption | exact (Int.toNat_of_nonneg (by omega)).symm | rfl) ?_) | refine hD _ _ ?_ | refine hL _ _ ?_ | (intro h; (try simp only [n1, n2, n3, n4, n5, n6] at h); first | (exfalso; omega) | (cases h; done) | skip)) <;> (conv => whnf))
  refine Tri.use ((hM.T fx).one) [] rfl (fun _ _ _ => rfl) trivial (fun f hf => by first | exact hf | cases hf) (fun u hu => ?_)
  conv => whnf
  repeat' ((first | refine And.intro (by repeat' first | exact trivial | refine And.intro rfl ?_) (And.intro (by first | exact fun _ h => h | exact fun _ => List.mem_cons_of_mem _ | exact fun _ => List.mem_append_right _) ?_) | (refine And.intro (fun h => ?_) (fun h => ?_) <;> (try simp only [n1, n2, n3, n4, n5, n6] at h) <;> first | (exfalso; omega) | (cases h; done) | skip) | refine And.intro (by omega) ?_ | refine Exists.intro _ (And.intro (by first | exact And.intro rfl rfl | exact Pl.den (by repeat constructor) | with_reducible rfl | exact cast_succ _ | assumption | exact (Int.toNat_of_nonneg (by omega)).symm | rfl) ?_) | refine hD _ _ ?_ | refine hL _ _ ?_ | (intro h; (try simp only [n1, n2, n3, n4, n5, n6] at h); first | (exfalso; omega) | (cases h; done) | skip)) <;> (conv => whnf))
  refine Exists.intro false (And.intro (eqN m n40 false ⟨(fun h => nomatch h), fun h => by rw [(N4.zero_iff hm).1 h] at hpos; exact absurd hpos (by decide)⟩) ?_)
  conv => whnf
  repeat' ((first | refine And.intro (by repeat' first | exact trivial | refine And.intro rfl ?_) (And.intro (by first | exact fun _ h => h | exact fun _ => List.mem_cons_of_mem _ | exact fun _ => List.mem_append_right _) ?_) | (refine And.intro (fun h => ?_) (fun h => ?_) <;> (try simp only [n1, n2, n3, n4, n5, n6] at h) <;> first | (exfalso; omega) | (cases h; done) | skip) | refine And.intro (by omega) ?_ | refine Exists.intro _ (And.intro (by first | exact And.intro rfl rfl | exact Pl.den (by repeat constructor) | with_reducible rfl | exact cast_succ _ | assumption | exact (Int.toNat_of_nonneg (by omega)).symm | rfl) ?_) | refine hD _ _ ?_ | refine hL _ _ ?_ | (intro h; (try simp only [n1, n2, n3, n4, n5, n6] at h); first | (exfalso; omega) | (cases h; done) | skip)) <;> (conv => whnf))
  refine loop_by tok (α := N4) (fun a => ⟨[(3, .p 0 0), (4, .p 1 0), (5, .p 2 0)],
    [(2, .cells [.v (.int .u64 (m.a : Int)), .v (.int .u64 (m.b : Int)), .v (.int .u64 (m.c : Int)), .v (.int .u64 (m.d : Int))] 24), (1, .cells [.k .u64 0, .k .u64 0, .k .u64 0, .k .u64 0] 24),
    (0, .cells [.v (.int .u64 (a.a : Int)), .v (.int .u64 (a.b : Int)), .v (.int .u64 (a.c : Int)), .v (.int .u64 (a.d : Int))] 24)], 3, fx⟩)
    (fun a => a.Ok ∧ a.val % m.val = x.val % m.val) (fun a => a.val) x [0, 1, 2] ⟨hx, rfl⟩ ⟨rfl, ⟨SEq.nrm rfl rfl, SEq.nrm rfl rfl, SEq.nrm rfl rfl, trivial⟩, ⟨OSub.ren rfl rfl, OSub.ren rfl rfl, OSub.ren rfl rfl, trivial⟩, fun f hf => hf⟩ ?_
  rintro a ⟨ha, he⟩
  by_cases hl : a.val < m.val
  · conv => whnf
    repeat' ((first | refine And.intro (by repeat' first | exact trivial | refine And.intro rfl ?_) (And.intro (by first | exact fun _ h => h | exact fun _ => List.mem_cons_of_mem _ | exact fun _ => List.mem_append_right _) ?_) | (refine And.intro (fun h => ?_) (fun h => ?_) <;> (try simp only [n1, n2, n3, n4, n5, n6] at h) <;> first | (exfalso; omega) | (cases h; done) | skip) | refine And.intro (by omega) ?_ | refine Exists.intro _ (And.intro (by first | exact And.intro rfl rfl | exact Pl.den (by repeat constructor) | with_reducible rfl | exact cast_succ _ | assumption | exact (Int.toNat_of_nonneg (by omega)).symm | rfl) ?_) | refine hD _ _ ?_ | refine hL _ _ ?_ | (intro h; (try simp only [n1, n2, n3, n4, n5, n6] at h); first | (exfalso; omega) | (cases h; done) | skip)) <;> (conv => whnf))
    refine Tri.use (less_t fx a m ha hm hl) [] rfl (fun _ _ _ => rfl) trivial (fun f hf => by first | exact hf | cases hf) (fun u hu => ?_)
    conv => whnf
    repeat' ((first | refine And.intro (by repeat' first | exact trivial | refine And.intro rfl ?_) (And.intro (by first | exact fun _ h => h | exact fun _ => List.mem_cons_of_mem _ | exact fun _ => List.mem_append_right _) ?_) | (refine And.intro (fun h => ?_) (fun h => ?_) <;> (try simp only [n1, n2, n3, n4, n5, n6] at h) <;> first | (exfalso; omega) | (cases h; done) | skip) | refine And.intro (by omega) ?_ | refine Exists.intro _ (And.intro (by first | exact And.intro rfl rfl | exact Pl.den (by repeat constructor) | with_reducible rfl | exact cast_succ _ | assumption | exact (Int.toNat_of_nonneg (by omega)).symm | rfl) ?_) | refine hD _ _ ?_ | refine hL _ _ ?_ | (intro h; (try simp only [n1, n2, n3, n4, n5, n6] at h); first | (exfalso; omega) | (cases h; done) | skip)) <;> (conv => whnf))
    refine ⟨a, ⟨ha, ?_⟩, Ret.noneS rfl (fun _ _ => rfl) (fun g hg => by cases hg)⟩
    rw [← he, Nat.mod_eq_of_lt hl]
  · conv => whnf
    repeat' ((first | refine And.intro (by repeat' first | exact trivial | refine And.intro rfl ?_) (And.intro (by first | exact fun _ h => h | exact fun _ => List.mem_cons_of_mem _ | exact fun _ => List.mem_append_right _) ?_) | (refine And.intro (fun h => ?_) (fun h => ?_) <;> (try simp only [n1, n2, n3, n4, n5, n6] at h) <;> first | (exfalso; omega) | (cases h; done) | skip) | refine And.intro (by omega) ?_ | refine Exists.intro _ (And.intro (by first | exact And.intro rfl rfl | exact Pl.den (by repeat constructor) | with_reducible rfl | exact cast_succ _ | assumption | exact (Int.toNat_of_nonneg (by omega)).symm | rfl) ?_) | refine hD _ _ ?_ | refine hL _ _ ?_ | (intro h; (try simp only [n1, n2, n3, n4, n5, n6] at h); first | (exfalso; omega) | (cases h; done) | skip)) <;> (conv => whnf))
    refine Tri.use (less_f fx a m ha hm hl) [] rfl (fun _ _ _ => rfl) trivial (fun f hf => by first | exact hf | cases hf) (fun u hu => ?_)
    conv => whnf
    repeat' ((first | refine And.intro (by repeat' first | exact trivial | refine And.intro rfl ?_) (And.intro (by first | exact fun _ h => h | exact fun _ => List.mem_cons_of_mem _ | exact fun _ => List.mem_append_right _) ?_) | (refine And.intro (fun h => ?_) (fun h => ?_) <;> (try simp only [n1, n2, n3, n4, n5, n6] at h) <;> first | (exfalso; omega) | (cases h; done) | skip) | refine And.intro (by omega) ?_ | refine Exists.intro _ (And.intro (by first | exact And.intro rfl rfl | exact Pl.den (by repeat constructor) | with_reducible rfl | exact cast_succ _ | assumption | exact (Int.toNat_of_nonneg (by omega)).symm | rfl) ?_) | refine hD _ _ ?_ | refine hL _ _ ?_ | (intro h; (try simp only [n1, n2, n3, n4, n5, n6] at h); first | (exfalso; omega) | (cases h; done) | skip)) <;> (conv => whnf))
    refine Tri.use (tRSub01 fx a m ha hm) [] rfl (fun _ _ _ => rfl) trivial (fun f hf => by first | exact hf | cases hf) (fun t ht => ?_)
    have t1 := ht.1
    have t2 := ht.2
    clear ht
    obtain ⟨w, o⟩ := t
    simp only at t1 t2
    have hw := sub01_val t2 (N4.val_lt t1) (by omega)
    conv => whnf
    repeat' ((first | refine And.intro (by repeat' first | exact trivial | refine And.intro rfl ?_) (And.intro (by first | exact fun _ h => h | exact fun _ => List.mem_cons_of_mem _ | exact fun _ => List.mem_append_right _) ?_) | (refine And.intro (fun h => ?_) (fun h => ?_) <;> (try simp only [n1, n2, n3, n4, n5, n6] at h) <;> first | (exfalso; omega) | (cases h; done) | skip) | refine And.intro (by omega) ?_ | refine Exists.intro _ (And.intro (by first | exact And.intro rfl rfl | exact Pl.den (by repeat constructor) | with_reducible rfl | exact cast_succ _ | assumption | exact (Int.toNat_of_nonneg (by omega)).symm | rfl) ?_) | refine hD _ _ ?_ | refine hL _ _ ?_ | (intro h; (try simp only [n1, n2, n3, n4, n5, n6] at h); first | (exfalso; omega) | (cases h; done) | skip)) <;> (conv => whnf))
    refine ⟨w, [0, 1, 2], ⟨⟨t1, ?_⟩, by omega⟩, ⟨rfl, ⟨SEq.nrm rfl rfl, SEq.nrm rfl rfl, SEq.nrm rfl rfl, trivial⟩, ⟨OSub.ren rfl rfl, OSub.ren rfl rfl, OSub.ren rfl rfl, trivial⟩, fun f hf => by simpa using hf⟩⟩
    rw [hw, mod_sub (by omega), he]
set_option maxHeartbeats 1000000 in
theorem tRSubM (fx : List Fact) (k : Int) (m : N4) (hM : Md k m) (x y : N4) (hx : x.Ok) (hy : y.Ok) : Tri Tryd.prog 29 [.k .i64 k, x.sv, y.sv] [] 0 fx
    (RetE (α := N4) 0 (fun r => r.Ok ∧ r.val = (x.val % m.val + m.val - y.val % m.val) % m.val) (fun r => r.sv) (fun _ => []) 0 (fun _ => [])) := by
  have hm := hM.ok
  have hpos := hM.pos
  refine Tri.of_code tok Tryd.func29 rfl rfl rfl (by decide) rfl (Nat.le_of_ble_eq_true rfl) ?_
  conv => whnf
  repeat' ((first | refine And.intro (by repeat' first | exact trivial | refine And.intro rfl ?_) (And.intro (by first | exact fun _ h => h | exact fun _ => List.mem_cons_of_mem _ | exact fun _ => List.mem_append_right _) ?_) | (refine And.intro (fun h => ?_) (fun h => ?_) <;> (try simp only [n1, n2, n3, n4, n5, n6] at h) <;> first | (exfalso; omega) | (cases h; done) | skip) | refine And.intro (by omega) ?_ | refine Exists.intro _ (And.intro (by first | exact And.intro rfl rfl | exact Pl.den (by repeat constructor) | with_reducible rfl | exact cast_succ _ | assumption | exact (Int.toNat_of_nonneg (by omega)).symm | rfl) ?_) | refine hD _ _ ?_ | refine hL _ _ ?_ | (intro h; (try simp only [n1, n2, n3, n4, n5, n6] at h); first | (exfalso; omega) | (cases h; done) | skip)) <;> (conv => whnf))
  refine draw_opaque fun KD hD => ?_
  refine draw_all tok (by kernel_rfl) [.any 0, .any 3, .load 1, .load 4, .one 2, .one 5, .new 6, .new 7, .last 8, .last 9] [8, 9] (by kernel_rfl) rfl rfl (by repeat' (first | exact trivial | refine And.intro rfl ?_)) ?_
  conv => whnf
  repeat' ((first | refine And.intro (by repeat' first | exact trivial | refine And.intro rfl ?_) (And.intro (by first | exact fun _ h => h | exact fun _ => List.mem_cons_of_mem _ | exact fun _ => List.mem_append_right _) ?_) | (refine And.intro (fun h => ?_) (fun h => ?_) <;> (try simp only [n1, n2, n3, n4, n5, n6] at h) <;> first | (exfalso; omega) | (cases h; done) | skip) | refine And.intro (by omega) ?_ | refine Exists.intro _ (And.intro (by first | exact And.intro rfl rfl | exact Pl.den (by repeat constructor) | with_reducible rfl | exact cast_succ _ | assumption | exact (Int.toNat_of_nonneg (by omega)).symm | rfl) ?_) | refine hD _ _ ?_ | refine hL _ _ ?_ | (intro h; (try simp only [n1, n2, n3, n4, n5, n6] at h); first | (exfalso; omega) | (cases h; done) | skip)) <;> (conv => whnf))
  refine Tri.use (tRFold fx k m hM x hx) [] rfl (fun _ _ _ => rfl) trivial (fun f hf => by first | exact hf | cases hf) (fun a ha => ?_)
  have a1 := ha.1
  have a2 := ha.2
  clear ha
  conv => whnf
  repeat' ((first | refine And.intro (by repeat' first | exact trivial | refine And.intro rfl ?_) (And.intro (by first | exact fun _ h => h | exact fun _ => List.mem_cons_of_mem _ | exact fun _ => List.mem_append_right _) ?_) | (refine And.intro (fun h => ?_) (fun h => ?_) <;> (try simp only [n1, n2, n3, n4, n5, n6] at h) <;> first | (exfalso; omega) | (cases h; done) | skip) | refine And.intro (by omega) ?_ | refine Exists.intro _ (And.intro (by first | exact And.intro rfl rfl | exact Pl.den (by repeat constructor) | with_reducible rfl | exact cast_succ _ | assumption | exact (Int.toNat_of_nonneg (by omega)).symm | rfl) ?_) | refine hD _ _ ?_ | refine hL _ _ ?_ | (intro h; (try simp only [n1, n2, n3, n4, n5, n6] at h); first | (exfalso; omega) | (cases h; done) | skip)) <;> (conv => whnf))
  refine Tri.use (tRFold fx k m hM y hy) [] rfl (fun _ _ _ => rfl) trivial (fun f hf => by first | exact hf | cases hf) (fun b hb => ?_)
  have b1 := hb.1
  have b2 := hb.2
  clear hb
  have hal : a.val < m.val := by rw [a2]; exact Nat.mod_lt _ hpos
  have hbl : b.val < m.val := by rw [b2]; exact Nat.mod_lt _ hpos
  by_cases hl : a.val < b.val
  · conv => whnf
    repeat' ((first | refine And.intro (by repeat' first | exact trivial | refine And.intro rfl ?_) (And.intro (by first | exact fun _ h => h | exact fun _ => List.mem_cons_of_mem _ | exact fun _ => List.mem_append_right _) ?_) | (refine And.intro (fun h => ?_) (fun h => ?_) <;> (try simp only [n1, n2, n3, n4, n5, n6] at h) <;> first | (exfalso; omega) | (cases h; done) | skip) | refine And.intro (by omega) ?_ | refine Exists.intro _ (And.intro (by first | exact And.intro rfl rfl | exact Pl.den (by repeat constructor) | with_reducible rfl | exact cast_succ _ | assumption | exact (Int.toNat_of_nonneg (by omega)).symm | rfl) ?_) | refine hD _ _ ?_ | refine hL _ _ ?_ | (intro h; (try simp only [n1, n2, n3, n4, n5, n6] at h); first | (exfalso; omega) | (cases h; done) | skip)) <;> (conv => whnf))
    refine Tri.use (less_t fx a b a1 b1 hl) [] rfl (fun _ _ _ => rfl) trivial (fun f hf => by first | exact hf | cases hf) (fun u hu => ?_)
    conv => whnf
    repeat' ((first | refine And.intro (by repeat' first | exact trivial | refine And.intro rfl ?_) (And.intro (by first | exact fun _ h => h | exact fun _ => List.mem_cons_of_mem _ | exact fun _ => List.mem_append_right _) ?_) | (refine And.intro (fun h => ?_) (fun h => ?_) <;> (try simp only [n1, n2, n3, n4, n5, n6] at h) <;> first | (exfalso; omega) | (cases h; done) | skip) | refine And.intro (by omega) ?_ | refine Exists.intro _ (And.intro (by first | exact And.intro rfl rfl | exact Pl.den (by repeat constructor) | with_reducible rfl | exact cast_succ _ | assumption | exact (Int.toNat_of_nonneg (by omega)).symm | rfl) ?_) | refine hD _ _ ?_ | refine hL _ _ ?_ | (intro h; (try simp only [n1, n2, n3, n4, n5, n6] at h); first | (exfalso; omega) | (cases h; done) | skip)) <;> (conv => whnf))
    refine draw_opaque fun KD hD => ?_
    refine draw_all tok (by kernel_rfl) [.any 0, .load 2, .one 1, .one 3, .any 4, .any 5, .any 6, .new 7, .last 8, .any 9] [8] (by kernel_rfl) rfl rfl (by repeat' (first | exact trivial | refine And.intro rfl ?_)) ?_
    conv => whnf
    repeat' ((first | refine And.intro (by repeat' first | exact trivial | refine And.intro rfl ?_) (And.intro (by first | exact fun _ h => h | exact fun _ => List.mem_cons_of_mem _ | exact fun _ => List.mem_append_right _) ?_) | (refine And.intro (fun h => ?_) (fun h => ?_) <;> (try simp only [n1, n2, n3, n4, n5, n6] at h) <;> first | (exfalso; omega) | (cases h; done) | skip) | refine And.intro (by omega) ?_ | refine Exists.intro _ (And.intro (by first | exact And.intro rfl rfl | exact Pl.den (by repeat constructor) | with_reducible rfl | exact cast_succ _ | assumption | exact (Int.toNat_of_nonneg (by omega)).symm | rfl) ?_) | refine hD _ _ ?_ | refine hL _ _ ?_ | (intro h; (try simp only [n1, n2, n3, n4, n5, n6] at h); first | (exfalso; omega) | (cases h; done) | skip)) <;> (conv => whnf))
    refine Tri.use ((hM.T fx).one) [] rfl (fun _ _ _ => rfl) trivial (fun f hf => by first | exact hf | cases hf) (fun u hu => ?_)
    conv => whnf
    repeat' ((first | refine And.intro (by repeat' first | exact trivial | refine And.intro rfl ?_) (And.intro (by first | exact fun _ h => h | exact fun _ => List.mem_cons_of_mem _ | exact fun _ => List.mem_append_right _) ?_) | (refine And.intro (fun h => ?_) (fun h => ?_) <;> (try simp only [n1, n2, n3, n4, n5, n6] at h) <;> first | (exfalso; omega) | (cases h; done) | skip) | refine And.intro (by omega) ?_ | refine Exists.intro _ (And.intro (by first | exact And.intro rfl rfl | exact Pl.den (by repeat constructor) | with_reducible rfl | exact cast_succ _ | assumption | exact (Int.toNat_of_nonneg (by omega)).symm | rfl) ?_) | refine hD _ _ ?_ | refine hL _ _ ?_ | (intro h; (try simp only [n1, n2, n3, n4, n5, n6] at h); first | (exfalso; omega) | (cases h; done) | skip)) <;> (conv => whnf))
    refine Tri.use (tRSub01 fx m b hm b1) [] rfl (fun _ _ _ => rfl) trivial (fun f hf => by first | exact hf | cases hf) (fun t ht => ?_)
    have t1 := ht.1
    have t2 := ht.2
    clear ht
    obtain ⟨w, o⟩ := t
    simp only at t1 t2
    have hw := sub01_val t2 (N4.val_lt t1) (by omega)
    conv => whnf
    repeat' ((first | refine And.intro (by repeat' first | exact trivial | refine And.intro rfl ?_) (And.intro (by first | exact fun _ h => h | exact fun _ => List.mem_cons_of_mem _ | exact fun _ => List.mem_append_right _) ?_) | (refine And.intro (fun h => ?_) (fun h => ?_) <;> (try simp only [n1, n2, n3, n4, n5, n6] at h) <;> first | (exfalso; omega) | (cases h; done) | skip) | refine And.intro (by omega) ?_ | refine Exists.intro _ (And.intro (by first | exact And.intro rfl rfl | exact Pl.den (by repeat constructor) | with_reducible rfl | exact cast_succ _ | assumption | exact (Int.toNat_of_nonneg (by omega)).symm | rfl) ?_) | refine hD _ _ ?_ | refine hL _ _ ?_ | (intro h; (try simp only [n1, n2, n3, n4, n5, n6] at h); first | (exfalso; omega) | (cases h; done) | skip)) <;> (conv => whnf))
    refine draw_opaque fun KD hD => ?_
    refine draw_all tok (by kernel_rfl) [.any 0, .load 2, .load 3, .one 1, .one 4, .last 5] [5] (by kernel_rfl) rfl rfl (by repeat' (first | exact trivial | refine And.intro rfl ?_)) ?_
    conv => whnf
    repeat' ((first | refine And.intro (by repeat' first | exact trivial | refine And.intro rfl ?_) (And.intro (by first | exact fun _ h => h | exact fun _ => List.mem_cons_of_mem _ | exact fun _ => List.mem_append_right _) ?_) | (refine And.intro (fun h => ?_) (fun h => ?_) <;> (try simp only [n1, n2, n3, n4, n5, n6] at h) <;> first | (exfalso; omega) | (cases h; done) | skip) | refine And.intro (by omega) ?_ | refine Exists.intro _ (And.intro (by first | exact And.intro rfl rfl | exact Pl.den (by repeat constructor) | with_reducible rfl | exact cast_succ _ | assumption | exact (Int.toNat_of_nonneg (by omega)).symm | rfl) ?_) | refine hD _ _ ?_ | refine hL _ _ ?_ | (intro h; (try simp only [n1, n2, n3, n4, n5, n6] at h); first | (exfalso; omega) | (cases h; done) | skip)) <;> (conv => whnf))
    refine Tri.use ((hM.T fx).one) [] rfl (fun _ _ _ => rfl) trivial (fun f hf => by first | exact hf | cases hf) (fun u hu => ?_)
    conv => whnf
    repeat' ((first | refine And.intro (by repeat' first | exact trivial | refine And.intro rfl ?_) (And.intro (by first | exact fun _ h => h | exact fun _ => List.mem_cons_of_mem _ | exact fun _ => List.mem_append_right _) ?_) | (refine And.intro (fun h => ?_) (fun h => ?_) <;> (try simp only [n1, n2, n3, n4, n5, n6] at h) <;> first | (exfalso; omega) | (cases h; done) | skip) | refine And.intro (by omega) ?_ | refine Exists.intro _ (And.intro (by first | exact And.intro rfl rfl | exact Pl.den (by repeat constructor) | with_reducible rfl | exact cast_succ _ | assumption | exact (Int.toNat_of_nonneg (by omega)).symm | rfl) ?_) | refine hD _ _ ?_ | refine hL _ _ ?_ | (intro h; (try simp only [n1, n2, n3, n4, n5, n6] at h); first | (exfalso; omega) | (cases h; done) | skip)) <;> (conv => whnf))
    by_cases hb0 : b.val = 0
    · omega
    refine Tri.use (tRPlusM fx m a w hm a1 t1 hal (by omega)) [] rfl (fun _ _ _ => rfl) trivial (fun f hf => by first | exact hf | cases hf) (fun r hr => ?_)
    have r1 := hr.1
    have r2 := hr.2
    clear hr
    conv => whnf
    repeat' ((first | refine And.intro (by repeat' first | exact trivial | refine And.intro rfl ?_) (And.intro (by first | exact fun _ h => h | exact fun _ => List.mem_cons_of_mem _ | exact fun _ => List.mem_append_right _) ?_) | (refine And.intro (fun h => ?_) (fun h => ?_) <;> (try simp only [n1, n2, n3, n4, n5, n6] at h) <;> first | (exfalso; omega) | (cases h; done) | skip) | refine And.intro (by omega) ?_ | refine Exists.intro _ (And.intro (by first | exact And.intro rfl rfl | exact Pl.den (by repeat constructor) | with_reducible rfl | exact cast_succ _ | assumption | exact (Int.toNat_of_nonneg (by omega)).symm | rfl) ?_) | refine hD _ _ ?_ | refine hL _ _ ?_ | (intro h; (try simp only [n1, n2, n3, n4, n5, n6] at h); first | (exfalso; omega) | (cases h; done) | skip)) <;> (conv => whnf))
    refine ⟨r, ⟨r1, ?_⟩, Ret.noneS rfl (fun _ _ => rfl) (fun g hg => by cases hg)⟩
    rw [← a2, ← b2, sub_mod_of hal hbl, r2, hw, if_neg (by omega), show a.val + (m.val - b.val) = a.val + m.val - b.val by omega, Nat.mod_eq_of_lt (by omega)]
  · conv => whnf
    repeat' ((first | refine And.intro (by repeat' first | exact trivial | refine And.intro rfl ?_) (And.intro (by first | exact fun _ h => h | exact fun _ => List.mem_cons_of_mem _ | exact fun _ => List.mem_append_right _) ?_) | (refine And.intro (fun h => ?_) (fun h => ?_) <;> (try simp only [n1, n2, n3, n4, n5, n6] at h) <;> first | (exfalso; omega) | (cases h; done) | skip) | refine And.intro (by omega) ?_ | refine Exists.intro _ (And.intro (by first | exact And.intro rfl rfl | exact Pl.den (by repeat constructor) | with_reducible rfl | exact cast_succ _ | assumption | exact (Int.toNat_of_nonneg (by omega)).symm | rfl) ?_) | refine hD _ _ ?_ | refine hL _ _ ?_ | (intro h; (try simp only [n1, n2, n3, n4, n5, n6] at h); first | (exfalso; omega) | (cases h; done) | skip)) <;> (conv => whnf))
    refine Tri.use (less_f fx a b a1 b1 hl) [] rfl (fun _ _ _ => rfl) trivial (fun f hf => by first | exact hf | cases hf) (fun u hu => ?_)
    conv => whnf
    repeat' ((first | refine And.intro (by repeat' first | exact trivial | refine And.intro rfl ?_) (And.intro (by first | exact fun _ h => h | exact fun _ => List.mem_cons_of_mem _ | exact fun _ => List.mem_append_right _) ?_) | (refine And.intro (fun h => ?_) (fun h => ?_) <;> (try simp only [n1, n2, n3, n4, n5, n6] at h) <;> first | (exfalso; omega) | (cases h; done) | skip) | refine And.intro (by omega) ?_ | refine Exists.intro _ (And.intro (by first | exact And.intro rfl rfl | exact Pl.den (by repeat constructor) | with_reducible rfl | exact cast_succ _ | assumption | exact (Int.toNat_of_nonneg (by omega)).symm | rfl) ?_) | refine hD _ _ ?_ | refine hL _ _ ?_ | (intro h; (try simp only [n1, n2, n3, n4, n5, n6] at h); first | (exfalso; omega) | (cases h; done) | skip)) <;> (conv => whnf))
    refine Tri.use (tRSub01 fx a b a1 b1) [] rfl (fun _ _ _ => rfl) trivial (fun f hf => by first | exact hf | cases hf) (fun t ht => ?_)
    have t1 := ht.1
    have t2 := ht.2
    clear ht
    obtain ⟨w, o⟩ := t
    simp only at t1 t2
    have hw := sub01_val t2 (N4.val_lt t1) (by omega)
    conv => whnf
    repeat' ((first | refine And.intro (by repeat' first | exact trivial | refine And.intro rfl ?_) (And.intro (by first | exact fun _ h => h | exact fun _ => List.mem_cons_of_mem _ | exact fun _ => List.mem_append_right _) ?_) | (refine And.intro (fun h => ?_) (fun h => ?_) <;> (try simp only [n1, n2, n3, n4, n5, n6] at h) <;> first | (exfalso; omega) | (cases h; done) | skip) | refine And.intro (by omega) ?_ | refine Exists.intro _ (And.intro (by first | exact And.intro rfl rfl | exact Pl.den (by repeat constructor) | with_reducible rfl | exact cast_succ _ | assumption | exact (Int.toNat_of_nonneg (by omega)).symm | rfl) ?_) | refine hD _ _ ?_ | refine hL _ _ ?_ | (intro h; (try simp only [n1, n2, n3, n4, n5, n6] at h); first | (exfalso; omega) | (cases h; done) | skip)) <;> (conv => whnf))
    refine ⟨w, ⟨t1, ?_⟩, Ret.noneS rfl (fun _ _ => rfl) (fun g hg => by cases hg)⟩
    rw [← a2, ← b2, sub_mod_of hal hbl, hw, if_pos (by omega)]
structure MuS where
  j : Nat
  o : N4
theorem bit_pos {j : Nat} : 0 < 2 ^ j / 2 ↔ 1 ≤ j := by
  cases j with
  | zero => decide
  | succ j => rw [Nat.pow_succ, Nat.mul_div_cancel _ (by decide)]; have := Nat.two_pow_pos j; omega
theorem bit_half {j : Nat} (h : 1 ≤ j) : 2 ^ j / 2 = 2 ^ (j - 1) := by
  obtain ⟨i, rfl⟩ : ∃ i, j = i + 1 := ⟨j - 1, by omega⟩
  rw [Nat.pow_succ, Nat.mul_div_cancel _ (by decide)]; rfl
theorem and_pow_ne {n i : Nat} : n &&& 2 ^ i ≠ 0 ↔ n.testBit i = true := by
  constructor
  · intro h
    refine Classical.byContradiction fun hb => h (Nat.eq_of_testBit_eq fun k => ?_)
    rw [Nat.testBit_and, Nat.zero_testBit, Nat.testBit_two_pow]
    by_cases e : i = k
    · subst e; simp [hb]
    · simp [e]
  · intro h e
    have : (n &&& 2 ^ i).testBit i = true := by rw [Nat.testBit_and, h, Nat.testBit_two_pow]; simp
    rw [e] at this; simp at this
theorem h63 : ((2 ^ 64 / 2 : Nat) : Int) = 9223372036854775808 := by decide
theorem limb_and {x : N4} (hx : x.Ok) {q j : Nat} (hq : q < 4) (h1 : 1 ≤ j) (h2 : j ≤ 64) : bitz .and .u64 ((x.limb q : Nat) : Int) ((2 ^ j / 2 : Nat) : Int) ≠ 0 ↔ x.val.testBit (64 * q + (j - 1)) = true := by
  have hlt : 2 ^ (j - 1) < 18446744073709551616 := Nat.lt_of_lt_of_le (Nat.pow_lt_pow_right (by decide) (show j - 1 < 64 by omega)) (by decide)
  have e := bits_and_u64_nat (x.limb q) (2 ^ (j - 1)) (limb_lt hx q) hlt
  have e' : bitz .and .u64 ((x.limb q : Nat) : Int) ((2 ^ (j - 1) : Nat) : Int) = ((x.limb q &&& 2 ^ (j - 1) : Nat) : Int) := e
  rw [bit_half h1, e']
  have hb := limb_bit hx (i := 64 * q + (j - 1)) (by omega)
  rw [show (64 * q + (j - 1)) / 64 = q by omega, show (64 * q + (j - 1)) % 64 = j - 1 by omega] at hb
  unfold bitI at hb
  have hn : ∀ n : Nat, ((n : Nat) : Int) ≠ 0 ↔ n ≠ 0 := fun n => by omega
  rw [hn, and_pow_ne, Nat.testBit_eq_decide_div_mod_eq, decide_eq_true_iff]
  by_cases h : x.val.testBit (64 * q + (j - 1)) = true
  · rw [if_pos h] at hb
    simp only [h, iff_true]; exact Int.ofNat_inj.1 hb
  · rw [if_neg h] at hb
    constructor
    · intro e; rw [e] at hb; exact absurd hb (by decide)
    · intro e; exact absurd e h
theorem mul_dbl {A b m o : Nat} (h : o = A * b % m) : (o + o) % m = 2 * A * b % m := by
  rw [h, ← Nat.add_mod, Nat.two_mul, Nat.add_mul]
theorem mul_inc {X b m o : Nat} (h : o = X * b % m) : (o + b) % m = (X + 1) * b % m := by
  rw [h, Nat.mod_add_mod, Nat.add_mul, Nat.one_mul]
set_option maxHeartbeats 2000000 in
theorem tRMulM (fx : List Fact) (k : Int) (m : N4) (hM : Md k m) (x y : N4) (hx : x.Ok) (hy : y.Ok) : Tri Tryd.prog 31 [.k .i64 k, x.sv, y.sv] [] 0 fx
    (RetE (α := N4) 0 (fun r => r.Ok ∧ r.val = ((x.val % m.val) * (y.val % m.val)) % m.val) (fun r => r.sv) (fun _ => []) 0 (fun _ => [])) := by
  have hm := hM.ok
  have hpos := hM.pos
  refine Tri.of_code tok Tryd.func31 rfl rfl rfl (by decide) rfl (Nat.le_of_ble_eq_true rfl) ?_
  conv => whnf
  repeat' ((first | refine And.intro (by repeat' first | exact trivial | refine And.intro rfl ?_) (And.intro (by first | exact fun _ h => h | exact fun _ => List.mem_cons_of_mem _ | exact fun _ => List.mem_append_right _) ?_) | (refine And.intro (fun h => ?_) (fun h => ?_) <;> (try simp only [n1, n2, n3, n4, n5, n6] at h) <;> first | (exfalso; omega) | (cases h; done) | skip) | refine And.intro (by omega) ?_ | refine Exists.intro _ (And.intro (by first | exact And.intro rfl rfl | exact Pl.den (by repeat constructor) | with_reducible rfl | exact cast_succ _ | assumption | exact (Int.toNat_of_nonneg (by omega)).symm | rfl) ?_) | refine hD _ _ ?_ | refine hL _ _ ?_ | (intro h; (try simp only [n1, n2, n3, n4, n5, n6] at h); first | (exfalso; omega) | (cases h; done) | skip)) <;> (conv => whnf))
  refine Tri.use ((hM.T fx).one) [] rfl (fun _ _ _ => rfl) trivial (fun f hf => by first | exact hf | cases hf) (fun u hu => ?_)
  conv => whnf
  repeat' ((first | refine And.intro (by repeat' first | exact trivial | refine And.intro rfl ?_) (And.intro (by first | exact fun _ h => h | exact fun _ => List.mem_cons_of_mem _ | exact fun _ => List.mem_append_right _) ?_) | (refine And.intro (fun h => ?_) (fun h => ?_) <;> (try simp only [n1, n2, n3, n4, n5, n6] at h) <;> first | (exfalso; omega) | (cases h; done) | skip) | refine And.intro (by omega) ?_ | refine Exists.intro _ (And.intro (by first | exact And.intro rfl rfl | exact Pl.den (by repeat constructor) | with_reducible rfl | exact cast_succ _ | assumption | exact (Int.toNat_of_nonneg (by omega)).symm | rfl) ?_) | refine hD _ _ ?_ | refine hL _ _ ?_ | (intro h; (try simp only [n1, n2, n3, n4, n5, n6] at h); first | (exfalso; omega) | (cases h; done) | skip)) <;> (conv => whnf))
  refine draw_opaque fun KD hD => ?_
  refine draw_all tok (by kernel_rfl) [.any 0, .any 3, .load 1, .load 4, .one 2, .one 5, .new 6, .new 7, .last 8, .last 9] [8, 9] (by kernel_rfl) rfl rfl (by repeat' (first | exact trivial | refine And.intro rfl ?_)) ?_
  conv => whnf
  repeat' ((first | refine And.intro (by repeat' first | exact trivial | refine And.intro rfl ?_) (And.intro (by first | exact fun _ h => h | exact fun _ => List.mem_cons_of_mem _ | exact fun _ => List.mem_append_right _) ?_) | (refine And.intro (fun h => ?_) (fun h => ?_) <;> (try simp only [n1, n2, n3, n4, n5, n6] at h) <;> first | (exfalso; omega) | (cases h; done) | skip) | refine And.intro (by omega) ?_ | refine Exists.intro _ (And.intro (by first | exact And.intro rfl rfl | exact Pl.den (by repeat constructor) | with_reducible rfl | exact cast_succ _ | assumption | exact (Int.toNat_of_nonneg (by omega)).symm | rfl) ?_) | refine hD _ _ ?_ | refine hL _ _ ?_ | (intro h; (try simp only [n1, n2, n3, n4, n5, n6] at h); first | (exfalso; omega) | (cases h; done) | skip)) <;> (conv => whnf))
  refine Tri.use (tRFold fx k m hM x hx) [] rfl (fun _ _ _ => rfl) trivial (fun f hf => by first | exact hf | cases hf) (fun a ha => ?_)
  have a1 := ha.1
  have a2 := ha.2
  clear ha
  conv => whnf
  repeat' ((first | refine And.intro (by repeat' first | exact trivial | refine And.intro rfl ?_) (And.intro (by first | exact fun _ h => h | exact fun _ => List.mem_cons_of_mem _ | exact fun _ => List.mem_append_right _) ?_) | (refine And.intro (fun h => ?_) (fun h => ?_) <;> (try simp only [n1, n2, n3, n4, n5, n6] at h) <;> first | (exfalso; omega) | (cases h; done) | skip) | refine And.intro (by omega) ?_ | refine Exists.intro _ (And.intro (by first | exact And.intro rfl rfl | exact Pl.den (by repeat constructor) | with_reducible rfl | exact cast_succ _ | assumption | exact (Int.toNat_of_nonneg (by omega)).symm | rfl) ?_) | refine hD _ _ ?_ | refine hL _ _ ?_ | (intro h; (try simp only [n1, n2, n3, n4, n5, n6] at h); first | (exfalso; omega) | (cases h; done) | skip)) <;> (conv => whnf))
  refine Tri.use (tRFold fx k m hM y hy) [] rfl (fun _ _ _ => rfl) trivial (fun f hf => by first | exact hf | cases hf) (fun b hb => ?_)
  have b1 := hb.1
  have b2 := hb.2
  clear hb
  have hal : a.val < m.val := by rw [a2]; exact Nat.mod_lt _ hpos
  have hbl : b.val < m.val := by rw [b2]; exact Nat.mod_lt _ hpos
  conv => whnf
  repeat' ((first | refine And.intro (by repeat' first | exact trivial | refine And.intro rfl ?_) (And.intro (by first | exact fun _ h => h | exact fun _ => List.mem_cons_of_mem _ | exact fun _ => List.mem_append_right _) ?_) | (refine And.intro (fun h => ?_) (fun h => ?_) <;> (try simp only [n1, n2, n3, n4, n5, n6] at h) <;> first | (exfalso; omega) | (cases h; done) | skip) | refine And.intro (by omega) ?_ | refine Exists.intro _ (And.intro (by first | exact And.intro rfl rfl | exact Pl.den (by repeat constructor) | with_reducible rfl | exact cast_succ _ | assumption | exact (Int.toNat_of_nonneg (by omega)).symm | rfl) ?_) | refine hD _ _ ?_ | refine hL _ _ ?_ | (intro h; (try simp only [n1, n2, n3, n4, n5, n6] at h); first | (exfalso; omega) | (cases h; done) | skip)) <;> (conv => whnf))
  have hav := N4.val_lt a1
  refine loop_by tok (α := PwS) (fun s => ⟨[(6, .p 2 0), (7, .p 3 0), (8, .p 4 0), (9, .p 5 0), (10, .p 6 0), (11, .v (.int .i64 ((s.k : Int) - 1)))], [(6, .cells [.v (.int .u64 (s.o.a : Int)), .v (.int .u64 (s.o.b : Int)), .v (.int .u64 (s.o.c : Int)), .v (.int .u64 (s.o.d : Int))] 24), (5, .cells [.v (.int .u64 (b.a : Int)), .v (.int .u64 (b.b : Int)), .v (.int .u64 (b.c : Int)), .v (.int .u64 (b.d : Int))] 24), (4, .cells [.v (.int .u64 (a.a : Int)), .v (.int .u64 (a.b : Int)), .v (.int .u64 (a.c : Int)), .v (.int .u64 (a.d : Int))] 24), (3, .cells [.v (.int .u64 (m.a : Int)), .v (.int .u64 (m.b : Int)), .v (.int .u64 (m.c : Int)), .v (.int .u64 (m.d : Int))] 24), (2, .cells [.k .u64 0, .k .u64 0, .k .u64 0, .k .u64 0] 24)], 7, fx⟩)
    (fun s => s.k ≤ 4 ∧ s.o.Ok ∧ s.o.val < m.val ∧ s.o.val = a.val / 2 ^ (64 * s.k) * b.val % m.val) (fun s => s.k) ⟨4, n40⟩ [0, 1, 2, 3, 4, 5, 6] ?_ ?_ ?_
  · refine ⟨Nat.le_refl _, n40_ok, hpos, ?_⟩
    simp only
    rw [Nat.div_eq_of_lt (by simpa using hav), Nat.zero_mul, Nat.zero_mod]; rfl
  · exact ⟨rfl, ⟨SEq.nrm rfl rfl, SEq.nrm rfl rfl, SEq.nrm rfl rfl, SEq.nrm rfl rfl, SEq.nrm rfl rfl, (fun _ _ _ => rfl), trivial⟩, ⟨OSub.dens (fun _ _ => rfl), OSub.ren rfl rfl, OSub.ren rfl rfl, OSub.ren rfl rfl, OSub.ren rfl rfl, trivial⟩, fun f hf => hf⟩
  rintro s ⟨hk, ho, hom, hoe⟩
  conv => whnf
  repeat' ((first | refine And.intro (by repeat' first | exact trivial | refine And.intro rfl ?_) (And.intro (by first | exact fun _ h => h | exact fun _ => List.mem_cons_of_mem _ | exact fun _ => List.mem_append_right _) ?_) | (refine And.intro (fun h => ?_) (fun h => ?_) <;> (try simp only [n1, n2, n3, n4, n5, n6] at h) <;> first | (exfalso; omega) | (cases h; done) | skip) | refine And.intro (by omega) ?_ | refine Exists.intro _ (And.intro (by first | exact And.intro rfl rfl | exact Pl.den (by repeat constructor) | with_reducible rfl | exact cast_succ _ | assumption | exact (Int.toNat_of_nonneg (by omega)).symm | rfl) ?_) | refine hD _ _ ?_ | refine hL _ _ ?_ | (intro h; (try simp only [n1, n2, n3, n4, n5, n6] at h); first | (exfalso; omega) | (cases h; done) | skip)) <;> (conv => whnf))
  · have hk1 : 1 ≤ s.k := by omega
    have hki : ((s.k : Int) - 1) = ((s.k - 1 : Nat) : Int) := by omega
    refine loop_by tok (α := MuS) (fun r => ⟨[(6, .p 2 0), (7, .p 3 0), (8, .p 4 0), (9, .p 5 0), (10, .p 6 0), (11, .v (.int .i64 ((s.k : Int) - 1))), (12, .v (.int .u64 ((2 ^ r.j / 2 : Nat) : Int)))], [(6, .cells [.v (.int .u64 (r.o.a : Int)), .v (.int .u64 (r.o.b : Int)), .v (.int .u64 (r.o.c : Int)), .v (.int .u64 (r.o.d : Int))] 24), (5, .cells [.v (.int .u64 (b.a : Int)), .v (.int .u64 (b.b : Int)), .v (.int .u64 (b.c : Int)), .v (.int .u64 (b.d : Int))] 24), (4, .cells [.v (.int .u64 (a.a : Int)), .v (.int .u64 (a.b : Int)), .v (.int .u64 (a.c : Int)), .v (.int .u64 (a.d : Int))] 24), (3, .cells [.v (.int .u64 (m.a : Int)), .v (.int .u64 (m.b : Int)), .v (.int .u64 (m.c : Int)), .v (.int .u64 (m.d : Int))] 24), (2, .cells [.k .u64 0, .k .u64 0, .k .u64 0, .k .u64 0] 24)], 7, fx⟩)
      (fun r => r.j ≤ 64 ∧ r.o.Ok ∧ r.o.val < m.val ∧ r.o.val = a.val / 2 ^ (64 * (s.k - 1) + r.j) * b.val % m.val) (fun r => r.j) ⟨64, s.o⟩ [0, 1, 2, 3, 4, 5, 6] ?_ ?_ ?_
    · refine ⟨Nat.le_refl _, ho, hom, ?_⟩
      simp only
      rw [show 64 * (s.k - 1) + 64 = 64 * s.k by omega]; exact hoe
    · exact ⟨rfl, ⟨SEq.nrm rfl rfl, SEq.nrm rfl rfl, SEq.nrm rfl rfl, SEq.nrm rfl rfl, SEq.nrm rfl rfl, (fun _ _ _ => rfl), (fun _ _ _ => by simp only [den, h63]), trivial⟩, ⟨OSub.ren rfl rfl, OSub.ren rfl rfl, OSub.ren rfl rfl, OSub.ren rfl rfl, OSub.ren rfl rfl, trivial⟩, fun f hf => hf⟩
    rintro r ⟨hj, hr, hrm, hre⟩
    have hjp := bit_pos (j := r.j)
    have hb2 : 2 ^ r.j / 2 < 18446744073709551616 := by
      have : 2 ^ r.j ≤ 2 ^ 64 := Nat.pow_le_pow_right (by decide) hj
      omega
    by_cases hj0 : r.j = 0
    · have hz : 2 ^ r.j / 2 = 0 := by rw [hj0]
      conv => whnf
      repeat' ((first | refine And.intro (by repeat' first | exact trivial | refine And.intro rfl ?_) (And.intro (by first | exact fun _ h => h | exact fun _ => List.mem_cons_of_mem _ | exact fun _ => List.mem_append_right _) ?_) | (refine And.intro (fun h => ?_) (fun h => ?_) <;> (try simp only [n1, n2, n3, n4, n5, n6] at h) <;> first | (exfalso; omega) | (cases h; done) | skip) | refine And.intro (by omega) ?_ | refine Exists.intro _ (And.intro (by first | exact And.intro rfl rfl | exact Pl.den (by repeat constructor) | with_reducible rfl | exact cast_succ _ | assumption | exact (Int.toNat_of_nonneg (by omega)).symm | rfl) ?_) | refine hD _ _ ?_ | refine hL _ _ ?_ | (intro h; (try simp only [n1, n2, n3, n4, n5, n6] at h); first | (exfalso; omega) | (cases h; done) | skip)) <;> (conv => whnf))
      refine ⟨⟨s.k - 1, r.o⟩, [0, 1, 2, 3, 4, 5, 6], ⟨⟨Nat.le_trans (Nat.sub_le _ _) hk, hr, hrm, ?_⟩, Nat.sub_lt hk1 (by decide)⟩, ⟨rfl, ⟨SEq.nrm rfl rfl, SEq.nrm rfl rfl, SEq.nrm rfl rfl, SEq.nrm rfl rfl, SEq.nrm rfl rfl, (fun _ _ _ => by simp only [den, hki]), trivial⟩, ⟨OSub.ren rfl rfl, OSub.ren rfl rfl, OSub.ren rfl rfl, OSub.ren rfl rfl, OSub.ren rfl rfl, trivial⟩, fun f hf => by simpa using hf⟩⟩
      have hre' := hre
      simp only [hj0, Nat.add_zero] at hre'
      exact hre'
    · have hj1 : 1 ≤ r.j := by omega
      have hpo : 0 < 2 ^ r.j / 2 := hjp.2 hj1
      have hand := limb_and a1 (q := s.k - 1) (by omega) hj1 hj
      have hdb := div_bit a.val (64 * (s.k - 1) + (r.j - 1))
      rw [show 64 * (s.k - 1) + (r.j - 1) + 1 = 64 * (s.k - 1) + r.j by omega] at hdb
      have hnx : ((2 ^ r.j / 2 : Nat) : Int) / 2 = ((2 ^ (r.j - 1) / 2 : Nat) : Int) := by rw [bit_half hj1]; omega
      conv => whnf
      repeat' ((first | refine And.intro (by repeat' first | exact trivial | refine And.intro rfl ?_) (And.intro (by first | exact fun _ h => h | exact fun _ => List.mem_cons_of_mem _ | exact fun _ => List.mem_append_right _) ?_) | (refine And.intro (fun h => ?_) (fun h => ?_) <;> (try simp only [n1, n2, n3, n4, n5, n6] at h) <;> first | (exfalso; omega) | (cases h; done) | skip) | refine And.intro (by omega) ?_ | refine Exists.intro _ (And.intro (by first | exact And.intro rfl rfl | exact Pl.den (by repeat constructor) | with_reducible rfl | exact cast_succ _ | assumption | exact (Int.toNat_of_nonneg (by omega)).symm | rfl) ?_) | refine hD _ _ ?_ | refine hL _ _ ?_ | (intro h; (try simp only [n1, n2, n3, n4, n5, n6] at h); first | (exfalso; omega) | (cases h; done) | skip)) <;> (conv => whnf))
      refine Tri.use (tRPlusM fx m r.o r.o hm hr hr hrm hrm) [] rfl (fun _ _ _ => rfl) trivial (fun f hf => by first | exact hf | cases hf) (fun o2 ho2 => ?_)
      have g1 := ho2.1
      have g2 := ho2.2
      clear ho2
      have g3 : o2.val < m.val := by rw [g2]; exact Nat.mod_lt _ hpos
      rw [mul_dbl hre] at g2
      conv => whnf
      repeat' ((first | (refine Exists.intro (s.k - 1) (And.intro hki ?_)) | (refine Exists.intro _ (And.intro (limb_get a (by omega)) ?_)) | refine And.intro (by repeat' first | exact trivial | refine And.intro rfl ?_) (And.intro (by first | exact fun _ h => h | exact fun _ => List.mem_cons_of_mem _ | exact fun _ => List.mem_append_right _) ?_) | (refine And.intro (fun h => ?_) (fun h => ?_) <;> (try simp only [n1, n2, n3, n4, n5, n6] at h) <;> first | (exfalso; omega) | (cases h; done) | skip) | refine And.intro (by omega) ?_ | refine Exists.intro _ (And.intro (by first | exact And.intro rfl rfl | exact Pl.den (by repeat constructor) | with_reducible rfl | exact cast_succ _ | assumption | exact (Int.toNat_of_nonneg (by omega)).symm | rfl) ?_) | refine hD _ _ ?_ | refine hL _ _ ?_ | (intro h; (try simp only [n1, n2, n3, n4, n5, n6] at h); first | (exfalso; omega) | (cases h; done) | skip)) <;> (conv => whnf))
      · refine Tri.use (tRPlusM fx m o2 b hm g1 b1 g3 hbl) [] rfl (fun _ _ _ => rfl) trivial (fun f hf => by first | exact hf | cases hf) (fun o3 ho3 => ?_)
        have k1 := ho3.1
        have k2 := ho3.2
        clear ho3
        have k3 : o3.val < m.val := by rw [k2]; exact Nat.mod_lt _ hpos
        conv => whnf
        repeat' ((first | refine And.intro (by repeat' first | exact trivial | refine And.intro rfl ?_) (And.intro (by first | exact fun _ h => h | exact fun _ => List.mem_cons_of_mem _ | exact fun _ => List.mem_append_right _) ?_) | (refine And.intro (fun h => ?_) (fun h => ?_) <;> (try simp only [n1, n2, n3, n4, n5, n6] at h) <;> first | (exfalso; omega) | (cases h; done) | skip) | refine And.intro (by omega) ?_ | refine Exists.intro _ (And.intro (by first | exact And.intro rfl rfl | exact Pl.den (by repeat constructor) | with_reducible rfl | exact cast_succ _ | assumption | exact (Int.toNat_of_nonneg (by omega)).symm | rfl) ?_) | refine hD _ _ ?_ | refine hL _ _ ?_ | (intro h; (try simp only [n1, n2, n3, n4, n5, n6] at h); first | (exfalso; omega) | (cases h; done) | skip)) <;> (conv => whnf))
        refine ⟨⟨r.j - 1, o3⟩, [0, 1, 2, 3, 4, 5, 6], ⟨⟨Nat.le_trans (Nat.sub_le _ _) hj, k1, k3, ?_⟩, Nat.sub_lt hj1 (by decide)⟩, ⟨rfl, ⟨SEq.nrm rfl rfl, SEq.nrm rfl rfl, SEq.nrm rfl rfl, SEq.nrm rfl rfl, SEq.nrm rfl rfl, (fun _ _ _ => rfl), (fun _ _ _ => by simp only [den, hnx]), trivial⟩, ⟨OSub.ren rfl rfl, OSub.ren rfl rfl, OSub.ren rfl rfl, OSub.ren rfl rfl, OSub.ren rfl rfl, trivial⟩, fun f hf => by simpa using hf⟩⟩
        rw [k2, mul_inc g2, hdb, hand.1 h]; rfl
      · have hbf : a.val.testBit (64 * (s.k - 1) + (r.j - 1)) = false := by
          cases h0 : a.val.testBit (64 * (s.k - 1) + (r.j - 1)) with
          | false => rfl
          | true => exact absurd (hand.2 h0) h
        refine ⟨⟨r.j - 1, o2⟩, [0, 1, 2, 3, 4, 5, 6], ⟨⟨Nat.le_trans (Nat.sub_le _ _) hj, g1, g3, ?_⟩, Nat.sub_lt hj1 (by decide)⟩, ⟨rfl, ⟨SEq.nrm rfl rfl, SEq.nrm rfl rfl, SEq.nrm rfl rfl, SEq.nrm rfl rfl, SEq.nrm rfl rfl, (fun _ _ _ => rfl), (fun _ _ _ => by simp only [den, hnx]), trivial⟩, ⟨OSub.ren rfl rfl, OSub.ren rfl rfl, OSub.ren rfl rfl, OSub.ren rfl rfl, OSub.ren rfl rfl, trivial⟩, fun f hf => by simpa using hf⟩⟩
        rw [g2, hdb, hbf]; rfl
  · have hk0 : s.k = 0 := by omega
    rw [hk0, Nat.mul_zero, Nat.pow_zero, Nat.div_one] at hoe
    exact ⟨s.o, ⟨ho, by rw [hoe, a2, b2]⟩, Ret.noneS rfl (fun _ _ => rfl) (fun g hg => by cases hg)⟩
end Go.Proofs.YtekgjjanikicnaaDoor.Sx
