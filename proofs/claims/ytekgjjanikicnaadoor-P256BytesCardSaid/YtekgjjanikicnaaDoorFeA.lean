/- What is below the modulus; the points, plainly. -/
import Derived.Test.YtekgjjanikicnaaDoorFe9
import Derived.Laws.StructEq
import Derived.Test.YtekgjjanikicnaaDoorPm5
namespace Go.Proofs.YtekgjjanikicnaaDoor.Sx
open Go Go.Proofs.YtekgjjanikicnaaDoor.Pm
set_option maxRecDepth 100000
set_option linter.unusedSimpArgs false
set_option linter.unusedVariables false

theorem tModulus0 (fx : List Fact) (hg : glob ∈ fx) : Tri Tryd.prog 101 [.k .i64 0] [] 0 fx (Ret 0 M0.m.sv [] 0 []) := by
  refine Tri.of_code tok Tryd.func101 rfl rfl rfl (by decide) rfl (Nat.le_of_ble_eq_true rfl) ?_
  conv => whnf
  repeat' ((first | refine And.intro (by repeat' first | exact trivial | refine And.intro rfl ?_) (And.intro (by first | exact fun _ h => h | exact fun _ => List.mem_cons_of_mem _ | exact fun _ => List.mem_append_right _) ?_) | (refine And.intro (fun h => ?_) (fun h => ?_) <;> (try simp only [n1, n2, n3, n4, n5, n6] at h) <;> first | (exfalso; omega) | (cases h; done) | skip) | refine And.intro (by omega) ?_ | refine Exists.intro _ (And.intro (by first | exact And.intro rfl rfl | exact Pl.den (by repeat constructor) | with_reducible rfl | exact cast_succ _ | assumption | exact (Int.toNat_of_nonneg (by omega)).symm | rfl) ?_) | refine hD _ _ ?_ | refine hL _ _ ?_ | (intro h; (try simp only [n1, n2, n3, n4, n5, n6] at h); first | (exfalso; omega) | (cases h; done) | skip)) <;> (conv => whnf))
  refine Tri.use ((tOf fx hg).one) [] rfl (fun _ _ _ => rfl) trivial (fun f hf => by first | exact hf | cases hf) (fun u hu => ?_)
  conv => whnf
  repeat' ((first | refine And.intro (by repeat' first | exact trivial | refine And.intro rfl ?_) (And.intro (by first | exact fun _ h => h | exact fun _ => List.mem_cons_of_mem _ | exact fun _ => List.mem_append_right _) ?_) | (refine And.intro (fun h => ?_) (fun h => ?_) <;> (try simp only [n1, n2, n3, n4, n5, n6] at h) <;> first | (exfalso; omega) | (cases h; done) | skip) | refine And.intro (by omega) ?_ | refine Exists.intro _ (And.intro (by first | exact And.intro rfl rfl | exact Pl.den (by repeat constructor) | with_reducible rfl | exact cast_succ _ | assumption | exact (Int.toNat_of_nonneg (by omega)).symm | rfl) ?_) | refine hD _ _ ?_ | refine hL _ _ ?_ | (intro h; (try simp only [n1, n2, n3, n4, n5, n6] at h); first | (exfalso; omega) | (cases h; done) | skip)) <;> (conv => whnf))
  exact Ret.noneS rfl (fun _ _ => rfl) (fun g hg => by cases hg)
theorem cmpI_neg {x y : Nat} : (cmpI x y < 0) ↔ x < y := by
  unfold cmpI
  split
  · simp; assumption
  · split <;> simp <;> omega
theorem tBelow0 (fx : List Fact) (hg : glob ∈ fx) (x : N4) (hx : x.Ok) : Tri Tryd.prog 58 [.k .i64 0, x.sv] [] 0 fx (Ret 0 (.v (.bool (decide (x.val < Pf)))) [] 0 []) := by
  refine Tri.of_code tok Tryd.func58 rfl rfl rfl (by decide) rfl (Nat.le_of_ble_eq_true rfl) ?_
  conv => whnf
  repeat' ((first | refine And.intro (by repeat' first | exact trivial | refine And.intro rfl ?_) (And.intro (by first | exact fun _ h => h | exact fun _ => List.mem_cons_of_mem _ | exact fun _ => List.mem_append_right _) ?_) | (refine And.intro (fun h => ?_) (fun h => ?_) <;> (try simp only [n1, n2, n3, n4, n5, n6] at h) <;> first | (exfalso; omega) | (cases h; done) | skip) | refine And.intro (by omega) ?_ | refine Exists.intro _ (And.intro (by first | exact And.intro rfl rfl | exact Pl.den (by repeat constructor) | with_reducible rfl | exact cast_succ _ | assumption | exact (Int.toNat_of_nonneg (by omega)).symm | rfl) ?_) | refine hD _ _ ?_ | refine hL _ _ ?_ | (intro h; (try simp only [n1, n2, n3, n4, n5, n6] at h); first | (exfalso; omega) | (cases h; done) | skip)) <;> (conv => whnf))
  refine draw_opaque fun KD hD => ?_
  refine draw_all tok (by kernel_rfl) [.any 1, .load 0, .one 2, .one 3, .any 4, .any 5] [] (by kernel_rfl) rfl rfl (by repeat' (first | exact trivial | refine And.intro rfl ?_)) ?_
  conv => whnf
  repeat' ((first | refine And.intro (by repeat' first | exact trivial | refine And.intro rfl ?_) (And.intro (by first | exact fun _ h => h | exact fun _ => List.mem_cons_of_mem _ | exact fun _ => List.mem_append_right _) ?_) | (refine And.intro (fun h => ?_) (fun h => ?_) <;> (try simp only [n1, n2, n3, n4, n5, n6] at h) <;> first | (exfalso; omega) | (cases h; done) | skip) | refine And.intro (by omega) ?_ | refine Exists.intro _ (And.intro (by first | exact And.intro rfl rfl | exact Pl.den (by repeat constructor) | with_reducible rfl | exact cast_succ _ | assumption | exact (Int.toNat_of_nonneg (by omega)).symm | rfl) ?_) | refine hD _ _ ?_ | refine hL _ _ ?_ | (intro h; (try simp only [n1, n2, n3, n4, n5, n6] at h); first | (exfalso; omega) | (cases h; done) | skip)) <;> (conv => whnf))
  refine Tri.use ((tModulus0 fx hg).one) [] rfl (fun _ _ _ => rfl) trivial (fun f hf => by first | exact hf | cases hf) (fun u hu => ?_)
  conv => whnf
  repeat' ((first | refine And.intro (by repeat' first | exact trivial | refine And.intro rfl ?_) (And.intro (by first | exact fun _ h => h | exact fun _ => List.mem_cons_of_mem _ | exact fun _ => List.mem_append_right _) ?_) | (refine And.intro (fun h => ?_) (fun h => ?_) <;> (try simp only [n1, n2, n3, n4, n5, n6] at h) <;> first | (exfalso; omega) | (cases h; done) | skip) | refine And.intro (by omega) ?_ | refine Exists.intro _ (And.intro (by first | exact And.intro rfl rfl | exact Pl.den (by repeat constructor) | with_reducible rfl | exact cast_succ _ | assumption | exact (Int.toNat_of_nonneg (by omega)).symm | rfl) ?_) | refine hD _ _ ?_ | refine hL _ _ ?_ | (intro h; (try simp only [n1, n2, n3, n4, n5, n6] at h); first | (exfalso; omega) | (cases h; done) | skip)) <;> (conv => whnf))
  refine Tri.use ((tCmp fx x M0.m hx M0_ok.m).one) [] rfl (fun _ _ _ => rfl) trivial (fun f hf => by first | exact hf | cases hf) (fun u hu => ?_)
  conv => whnf
  repeat' ((first | refine And.intro (by repeat' first | exact trivial | refine And.intro rfl ?_) (And.intro (by first | exact fun _ h => h | exact fun _ => List.mem_cons_of_mem _ | exact fun _ => List.mem_append_right _) ?_) | (refine And.intro (fun h => ?_) (fun h => ?_) <;> (try simp only [n1, n2, n3, n4, n5, n6] at h) <;> first | (exfalso; omega) | (cases h; done) | skip) | refine And.intro (by omega) ?_ | refine Exists.intro _ (And.intro (by first | exact And.intro rfl rfl | exact Pl.den (by repeat constructor) | with_reducible rfl | exact cast_succ _ | assumption | exact (Int.toNat_of_nonneg (by omega)).symm | rfl) ?_) | refine hD _ _ ?_ | refine hL _ _ ?_ | (intro h; (try simp only [n1, n2, n3, n4, n5, n6] at h); first | (exfalso; omega) | (cases h; done) | skip)) <;> (conv => whnf))
  refine Ret.noneS rfl (fun _ _ => ?_) (fun g hg => by cases hg)
  simp only [den, cmpI_neg, M0_val]
theorem tRModulus0 (fx : List Fact) : Tri Tryd.prog 28 [.k .i64 0] [] 0 fx (Ret 0 M0.m.sv [] 0 []) := by
  refine Tri.of_code tok Tryd.func28 rfl rfl rfl (by decide) rfl (Nat.le_of_ble_eq_true rfl) ?_
  conv => whnf
  repeat' ((first | refine And.intro (by repeat' first | exact trivial | refine And.intro rfl ?_) (And.intro (by first | exact fun _ h => h | exact fun _ => List.mem_cons_of_mem _ | exact fun _ => List.mem_append_right _) ?_) | (refine And.intro (fun h => ?_) (fun h => ?_) <;> (try simp only [n1, n2, n3, n4, n5, n6] at h) <;> first | (exfalso; omega) | (cases h; done) | skip) | refine And.intro (by omega) ?_ | refine Exists.intro _ (And.intro (by first | exact And.intro rfl rfl | exact Pl.den (by repeat constructor) | with_reducible rfl | exact cast_succ _ | assumption | exact (Int.toNat_of_nonneg (by omega)).symm | rfl) ?_) | refine hD _ _ ?_ | refine hL _ _ ?_ | (intro h; (try simp only [n1, n2, n3, n4, n5, n6] at h); first | (exfalso; omega) | (cases h; done) | skip)) <;> (conv => whnf))
  exact Ret.noneS rfl (fun _ _ => rfl) (fun g hg => by cases hg)
theorem lt_d {x y : N4} (hx : x.Ok) (hy : y.Ok) (h : x.d ≠ y.d) : x.val < y.val ↔ x.d < y.d := by
  obtain ⟨h0, h1, h2, h3⟩ := hx
  obtain ⟨g0, g1, g2, g3⟩ := hy
  simp only [N4.val]; omega
theorem lt_c {x y : N4} (hx : x.Ok) (hy : y.Ok) (hd : x.d = y.d) (h : x.c ≠ y.c) : x.val < y.val ↔ x.c < y.c := by
  obtain ⟨h0, h1, h2, h3⟩ := hx
  obtain ⟨g0, g1, g2, g3⟩ := hy
  simp only [N4.val]; omega
theorem lt_b {x y : N4} (hx : x.Ok) (hy : y.Ok) (hd : x.d = y.d) (hc : x.c = y.c) (h : x.b ≠ y.b) : x.val < y.val ↔ x.b < y.b := by
  obtain ⟨h0, h1, h2, h3⟩ := hx
  obtain ⟨g0, g1, g2, g3⟩ := hy
  simp only [N4.val]; omega
theorem lt_a {x y : N4} (hd : x.d = y.d) (hc : x.c = y.c) (hb : x.b = y.b) : x.val < y.val ↔ x.a < y.a := by
  simp only [N4.val]; omega
set_option maxHeartbeats 1000000 in
theorem tLess (fx : List Fact) (x y : N4) (hx : x.Ok) (hy : y.Ok) : Tri Tryd.prog 77 [x.sv, y.sv] [] 0 fx (Ret 0 (.v (.bool (decide (x.val < y.val)))) [] 0 []) := by
  refine Tri.of_code tok Tryd.func77 rfl rfl rfl (by decide) rfl (Nat.le_of_ble_eq_true rfl) ?_
  conv => whnf
  repeat' ((first | refine And.intro (by repeat' first | exact trivial | refine And.intro rfl ?_) (And.intro (by first | exact fun _ h => h | exact fun _ => List.mem_cons_of_mem _ | exact fun _ => List.mem_append_right _) ?_) | (refine And.intro (fun h => ?_) (fun h => ?_) <;> (try simp only [n1, n2, n3, n4, n5, n6] at h) <;> first | (exfalso; omega) | (cases h; done) | skip) | refine And.intro (by omega) ?_ | refine Exists.intro _ (And.intro (by first | exact And.intro rfl rfl | exact Pl.den (by repeat constructor) | with_reducible rfl | exact cast_succ _ | assumption | exact (Int.toNat_of_nonneg (by omega)).symm | rfl) ?_) | refine hD _ _ ?_ | refine hL _ _ ?_ | (intro h; (try simp only [n1, n2, n3, n4, n5, n6] at h); first | (exfalso; omega) | (cases h; done) | skip)) <;> (conv => whnf))
  refine loop_opaque fun KL hL => ?_
  refine loop_rounds 5 (round_next tok ?_)
  conv => whnf
  repeat' ((first | refine And.intro (by repeat' first | exact trivial | refine And.intro rfl ?_) (And.intro (by first | exact fun _ h => h | exact fun _ => List.mem_cons_of_mem _ | exact fun _ => List.mem_append_right _) ?_) | (refine And.intro (fun h => ?_) (fun h => ?_) <;> (try simp only [n1, n2, n3, n4, n5, n6] at h) <;> first | (exfalso; omega) | (cases h; done) | skip) | refine And.intro (by omega) ?_ | refine Exists.intro _ (And.intro (by first | exact And.intro rfl rfl | exact Pl.den (by repeat constructor) | with_reducible rfl | exact cast_succ _ | assumption | exact (Int.toNat_of_nonneg (by omega)).symm | rfl) ?_) | refine hD _ _ ?_ | refine hL _ _ ?_ | (intro h; (try simp only [n1, n2, n3, n4, n5, n6] at h); first | (exfalso; omega) | (cases h; done) | skip)) <;> (conv => whnf))
  refine draw_opaque fun KD hD => ?_
  refine draw_all tok (by kernel_rfl) [.any 0, .any 1, .any 3, .any 4, .load 2, .one 5, .any 6] [] (by kernel_rfl) rfl rfl (by repeat' (first | exact trivial | refine And.intro rfl ?_)) ?_
  conv => whnf
  repeat' ((first | refine And.intro (by repeat' first | exact trivial | refine And.intro rfl ?_) (And.intro (by first | exact fun _ h => h | exact fun _ => List.mem_cons_of_mem _ | exact fun _ => List.mem_append_right _) ?_) | (refine And.intro (fun h => ?_) (fun h => ?_) <;> (try simp only [n1, n2, n3, n4, n5, n6] at h) <;> first | (exfalso; omega) | (cases h; done) | skip) | refine And.intro (by omega) ?_ | refine Exists.intro _ (And.intro (by first | exact And.intro rfl rfl | exact Pl.den (by repeat constructor) | with_reducible rfl | exact cast_succ _ | assumption | exact (Int.toNat_of_nonneg (by omega)).symm | rfl) ?_) | refine hD _ _ ?_ | refine hL _ _ ?_ | (intro h; (try simp only [n1, n2, n3, n4, n5, n6] at h); first | (exfalso; omega) | (cases h; done) | skip)) <;> (conv => whnf))
  · refine draw_opaque fun KD hD => ?_
    refine draw_all tok (by kernel_rfl) [.any 0, .any 1, .any 3, .any 4, .load 2, .one 5, .any 6, .any 7] [] (by kernel_rfl) rfl rfl (by repeat' (first | exact trivial | refine And.intro rfl ?_)) ?_
    conv => whnf
    repeat' ((first | refine And.intro (by repeat' first | exact trivial | refine And.intro rfl ?_) (And.intro (by first | exact fun _ h => h | exact fun _ => List.mem_cons_of_mem _ | exact fun _ => List.mem_append_right _) ?_) | (refine And.intro (fun h => ?_) (fun h => ?_) <;> (try simp only [n1, n2, n3, n4, n5, n6] at h) <;> first | (exfalso; omega) | (cases h; done) | skip) | refine And.intro (by omega) ?_ | refine Exists.intro _ (And.intro (by first | exact And.intro rfl rfl | exact Pl.den (by repeat constructor) | with_reducible rfl | exact cast_succ _ | assumption | exact (Int.toNat_of_nonneg (by omega)).symm | rfl) ?_) | refine hD _ _ ?_ | refine hL _ _ ?_ | (intro h; (try simp only [n1, n2, n3, n4, n5, n6] at h); first | (exfalso; omega) | (cases h; done) | skip)) <;> (conv => whnf))
    exact Ret.noneS rfl (fun _ _ => by simp only [den, lt_d hx hy (show x.d ≠ y.d by omega), Int.ofNat_lt]) (fun g hg => by cases hg)
  have hd : x.d = y.d := by omega
  refine round_next tok ?_
  conv => whnf
  repeat' ((first | refine And.intro (by repeat' first | exact trivial | refine And.intro rfl ?_) (And.intro (by first | exact fun _ h => h | exact fun _ => List.mem_cons_of_mem _ | exact fun _ => List.mem_append_right _) ?_) | (refine And.intro (fun h => ?_) (fun h => ?_) <;> (try simp only [n1, n2, n3, n4, n5, n6] at h) <;> first | (exfalso; omega) | (cases h; done) | skip) | refine And.intro (by omega) ?_ | refine Exists.intro _ (And.intro (by first | exact And.intro rfl rfl | exact Pl.den (by repeat constructor) | with_reducible rfl | exact cast_succ _ | assumption | exact (Int.toNat_of_nonneg (by omega)).symm | rfl) ?_) | refine hD _ _ ?_ | refine hL _ _ ?_ | (intro h; (try simp only [n1, n2, n3, n4, n5, n6] at h); first | (exfalso; omega) | (cases h; done) | skip)) <;> (conv => whnf))
  refine draw_opaque fun KD hD => ?_
  refine draw_all tok (by kernel_rfl) [.any 0, .any 1, .any 3, .any 4, .load 2, .one 5, .any 6] [] (by kernel_rfl) rfl rfl (by repeat' (first | exact trivial | refine And.intro rfl ?_)) ?_
  conv => whnf
  repeat' ((first | refine And.intro (by repeat' first | exact trivial | refine And.intro rfl ?_) (And.intro (by first | exact fun _ h => h | exact fun _ => List.mem_cons_of_mem _ | exact fun _ => List.mem_append_right _) ?_) | (refine And.intro (fun h => ?_) (fun h => ?_) <;> (try simp only [n1, n2, n3, n4, n5, n6] at h) <;> first | (exfalso; omega) | (cases h; done) | skip) | refine And.intro (by omega) ?_ | refine Exists.intro _ (And.intro (by first | exact And.intro rfl rfl | exact Pl.den (by repeat constructor) | with_reducible rfl | exact cast_succ _ | assumption | exact (Int.toNat_of_nonneg (by omega)).symm | rfl) ?_) | refine hD _ _ ?_ | refine hL _ _ ?_ | (intro h; (try simp only [n1, n2, n3, n4, n5, n6] at h); first | (exfalso; omega) | (cases h; done) | skip)) <;> (conv => whnf))
  · refine draw_opaque fun KD hD => ?_
    refine draw_all tok (by kernel_rfl) [.any 0, .any 1, .any 3, .any 4, .load 2, .one 5, .any 6, .any 7] [] (by kernel_rfl) rfl rfl (by repeat' (first | exact trivial | refine And.intro rfl ?_)) ?_
    conv => whnf
    repeat' ((first | refine And.intro (by repeat' first | exact trivial | refine And.intro rfl ?_) (And.intro (by first | exact fun _ h => h | exact fun _ => List.mem_cons_of_mem _ | exact fun _ => List.mem_append_right _) ?_) | (refine And.intro (fun h => ?_) (fun h => ?_) <;> (try simp only [n1, n2, n3, n4, n5, n6] at h) <;> first | (exfalso; omega) | (cases h; done) | skip) | refine And.intro (by omega) ?_ | refine Exists.intro _ (And.intro (by first | exact And.intro rfl rfl | exact Pl.den (by repeat constructor) | with_reducible rfl | exact cast_succ _ | assumption | exact (Int.toNat_of_nonneg (by omega)).symm | rfl) ?_) | refine hD _ _ ?_ | refine hL _ _ ?_ | (intro h; (try simp only [n1, n2, n3, n4, n5, n6] at h); first | (exfalso; omega) | (cases h; done) | skip)) <;> (conv => whnf))
    exact Ret.noneS rfl (fun _ _ => by simp only [den, lt_c hx hy hd (show x.c ≠ y.c by omega), Int.ofNat_lt]) (fun g hg => by cases hg)
  have hc : x.c = y.c := by omega
  refine round_next tok ?_
  conv => whnf
  repeat' ((first | refine And.intro (by repeat' first | exact trivial | refine And.intro rfl ?_) (And.intro (by first | exact fun _ h => h | exact fun _ => List.mem_cons_of_mem _ | exact fun _ => List.mem_append_right _) ?_) | (refine And.intro (fun h => ?_) (fun h => ?_) <;> (try simp only [n1, n2, n3, n4, n5, n6] at h) <;> first | (exfalso; omega) | (cases h; done) | skip) | refine And.intro (by omega) ?_ | refine Exists.intro _ (And.intro (by first | exact And.intro rfl rfl | exact Pl.den (by repeat constructor) | with_reducible rfl | exact cast_succ _ | assumption | exact (Int.toNat_of_nonneg (by omega)).symm | rfl) ?_) | refine hD _ _ ?_ | refine hL _ _ ?_ | (intro h; (try simp only [n1, n2, n3, n4, n5, n6] at h); first | (exfalso; omega) | (cases h; done) | skip)) <;> (conv => whnf))
  refine draw_opaque fun KD hD => ?_
  refine draw_all tok (by kernel_rfl) [.any 0, .any 1, .any 3, .any 4, .load 2, .one 5, .any 6] [] (by kernel_rfl) rfl rfl (by repeat' (first | exact trivial | refine And.intro rfl ?_)) ?_
  conv => whnf
  repeat' ((first | refine And.intro (by repeat' first | exact trivial | refine And.intro rfl ?_) (And.intro (by first | exact fun _ h => h | exact fun _ => List.mem_cons_of_mem _ | exact fun _ => List.mem_append_right _) ?_) | (refine And.intro (fun h => ?_) (fun h => ?_) <;> (try simp only [n1, n2, n3, n4, n5, n6] at h) <;> first | (exfalso; omega) | (cases h; done) | skip) | refine And.intro (by omega) ?_ | refine Exists.intro _ (And.intro (by first | exact And.intro rfl rfl | exact Pl.den (by repeat constructor) | with_reducible rfl | exact cast_succ _ | assumption | exact (Int.toNat_of_nonneg (by omega)).symm | rfl) ?_) | refine hD _ _ ?_ | refine hL _ _ ?_ | (intro h; (try simp only [n1, n2, n3, n4, n5, n6] at h); first | (exfalso; omega) | (cases h; done) | skip)) <;> (conv => whnf))
  · refine draw_opaque fun KD hD => ?_
    refine draw_all tok (by kernel_rfl) [.any 0, .any 1, .any 3, .any 4, .load 2, .one 5, .any 6, .any 7] [] (by kernel_rfl) rfl rfl (by repeat' (first | exact trivial | refine And.intro rfl ?_)) ?_
    conv => whnf
    repeat' ((first | refine And.intro (by repeat' first | exact trivial | refine And.intro rfl ?_) (And.intro (by first | exact fun _ h => h | exact fun _ => List.mem_cons_of_mem _ | exact fun _ => List.mem_append_right _) ?_) | (refine And.intro (fun h => ?_) (fun h => ?_) <;> (try simp only [n1, n2, n3, n4, n5, n6] at h) <;> first | (exfalso; omega) | (cases h; done) | skip) | refine And.intro (by omega) ?_ | refine Exists.intro _ (And.intro (by first | exact And.intro rfl rfl | exact Pl.den (by repeat constructor) | with_reducible rfl | exact cast_succ _ | assumption | exact (Int.toNat_of_nonneg (by omega)).symm | rfl) ?_) | refine hD _ _ ?_ | refine hL _ _ ?_ | (intro h; (try simp only [n1, n2, n3, n4, n5, n6] at h); first | (exfalso; omega) | (cases h; done) | skip)) <;> (conv => whnf))
    exact Ret.noneS rfl (fun _ _ => by simp only [den, lt_b hx hy hd hc (show x.b ≠ y.b by omega), Int.ofNat_lt]) (fun g hg => by cases hg)
  have hb : x.b = y.b := by omega
  refine round_next tok ?_
  conv => whnf
  repeat' ((first | refine And.intro (by repeat' first | exact trivial | refine And.intro rfl ?_) (And.intro (by first | exact fun _ h => h | exact fun _ => List.mem_cons_of_mem _ | exact fun _ => List.mem_append_right _) ?_) | (refine And.intro (fun h => ?_) (fun h => ?_) <;> (try simp only [n1, n2, n3, n4, n5, n6] at h) <;> first | (exfalso; omega) | (cases h; done) | skip) | refine And.intro (by omega) ?_ | refine Exists.intro _ (And.intro (by first | exact And.intro rfl rfl | exact Pl.den (by repeat constructor) | with_reducible rfl | exact cast_succ _ | assumption | exact (Int.toNat_of_nonneg (by omega)).symm | rfl) ?_) | refine hD _ _ ?_ | refine hL _ _ ?_ | (intro h; (try simp only [n1, n2, n3, n4, n5, n6] at h); first | (exfalso; omega) | (cases h; done) | skip)) <;> (conv => whnf))
  refine draw_opaque fun KD hD => ?_
  refine draw_all tok (by kernel_rfl) [.any 0, .any 1, .any 3, .any 4, .load 2, .one 5, .any 6] [] (by kernel_rfl) rfl rfl (by repeat' (first | exact trivial | refine And.intro rfl ?_)) ?_
  conv => whnf
  repeat' ((first | refine And.intro (by repeat' first | exact trivial | refine And.intro rfl ?_) (And.intro (by first | exact fun _ h => h | exact fun _ => List.mem_cons_of_mem _ | exact fun _ => List.mem_append_right _) ?_) | (refine And.intro (fun h => ?_) (fun h => ?_) <;> (try simp only [n1, n2, n3, n4, n5, n6] at h) <;> first | (exfalso; omega) | (cases h; done) | skip) | refine And.intro (by omega) ?_ | refine Exists.intro _ (And.intro (by first | exact And.intro rfl rfl | exact Pl.den (by repeat constructor) | with_reducible rfl | exact cast_succ _ | assumption | exact (Int.toNat_of_nonneg (by omega)).symm | rfl) ?_) | refine hD _ _ ?_ | refine hL _ _ ?_ | (intro h; (try simp only [n1, n2, n3, n4, n5, n6] at h); first | (exfalso; omega) | (cases h; done) | skip)) <;> (conv => whnf))
  · refine draw_opaque fun KD hD => ?_
    refine draw_all tok (by kernel_rfl) [.any 0, .any 1, .any 3, .any 4, .load 2, .one 5, .any 6, .any 7] [] (by kernel_rfl) rfl rfl (by repeat' (first | exact trivial | refine And.intro rfl ?_)) ?_
    conv => whnf
    repeat' ((first | refine And.intro (by repeat' first | exact trivial | refine And.intro rfl ?_) (And.intro (by first | exact fun _ h => h | exact fun _ => List.mem_cons_of_mem _ | exact fun _ => List.mem_append_right _) ?_) | (refine And.intro (fun h => ?_) (fun h => ?_) <;> (try simp only [n1, n2, n3, n4, n5, n6] at h) <;> first | (exfalso; omega) | (cases h; done) | skip) | refine And.intro (by omega) ?_ | refine Exists.intro _ (And.intro (by first | exact And.intro rfl rfl | exact Pl.den (by repeat constructor) | with_reducible rfl | exact cast_succ _ | assumption | exact (Int.toNat_of_nonneg (by omega)).symm | rfl) ?_) | refine hD _ _ ?_ | refine hL _ _ ?_ | (intro h; (try simp only [n1, n2, n3, n4, n5, n6] at h); first | (exfalso; omega) | (cases h; done) | skip)) <;> (conv => whnf))
    exact Ret.noneS rfl (fun _ _ => by simp only [den, lt_a hd hc hb, Int.ofNat_lt]) (fun g hg => by cases hg)
  have ha : x.a = y.a := by omega
  refine round_next tok ?_
  conv => whnf
  repeat' ((first | refine And.intro (by repeat' first | exact trivial | refine And.intro rfl ?_) (And.intro (by first | exact fun _ h => h | exact fun _ => List.mem_cons_of_mem _ | exact fun _ => List.mem_append_right _) ?_) | (refine And.intro (fun h => ?_) (fun h => ?_) <;> (try simp only [n1, n2, n3, n4, n5, n6] at h) <;> first | (exfalso; omega) | (cases h; done) | skip) | refine And.intro (by omega) ?_ | refine Exists.intro _ (And.intro (by first | exact And.intro rfl rfl | exact Pl.den (by repeat constructor) | with_reducible rfl | exact cast_succ _ | assumption | exact (Int.toNat_of_nonneg (by omega)).symm | rfl) ?_) | refine hD _ _ ?_ | refine hL _ _ ?_ | (intro h; (try simp only [n1, n2, n3, n4, n5, n6] at h); first | (exfalso; omega) | (cases h; done) | skip)) <;> (conv => whnf))
  exact Ret.noneS rfl (fun _ _ => by simp only [den, lt_a hd hc hb, ha]; simp) (fun g hg => by cases hg)
theorem tRBelow0 (fx : List Fact) (x : N4) (hx : x.Ok) : Tri Tryd.prog 63 [.k .i64 0, x.sv] [] 0 fx (Ret 0 (.v (.bool (decide (x.val < Pf)))) [] 0 []) := by
  refine Tri.of_code tok Tryd.func63 rfl rfl rfl (by decide) rfl (Nat.le_of_ble_eq_true rfl) ?_
  conv => whnf
  repeat' ((first | refine And.intro (by repeat' first | exact trivial | refine And.intro rfl ?_) (And.intro (by first | exact fun _ h => h | exact fun _ => List.mem_cons_of_mem _ | exact fun _ => List.mem_append_right _) ?_) | (refine And.intro (fun h => ?_) (fun h => ?_) <;> (try simp only [n1, n2, n3, n4, n5, n6] at h) <;> first | (exfalso; omega) | (cases h; done) | skip) | refine And.intro (by omega) ?_ | refine Exists.intro _ (And.intro (by first | exact And.intro rfl rfl | exact Pl.den (by repeat constructor) | with_reducible rfl | exact cast_succ _ | assumption | exact (Int.toNat_of_nonneg (by omega)).symm | rfl) ?_) | refine hD _ _ ?_ | refine hL _ _ ?_ | (intro h; (try simp only [n1, n2, n3, n4, n5, n6] at h); first | (exfalso; omega) | (cases h; done) | skip)) <;> (conv => whnf))
  refine draw_opaque fun KD hD => ?_
  refine draw_all tok (by kernel_rfl) [.any 1, .load 0, .one 2, .one 3, .any 4] [] (by kernel_rfl) rfl rfl (by repeat' (first | exact trivial | refine And.intro rfl ?_)) ?_
  conv => whnf
  repeat' ((first | refine And.intro (by repeat' first | exact trivial | refine And.intro rfl ?_) (And.intro (by first | exact fun _ h => h | exact fun _ => List.mem_cons_of_mem _ | exact fun _ => List.mem_append_right _) ?_) | (refine And.intro (fun h => ?_) (fun h => ?_) <;> (try simp only [n1, n2, n3, n4, n5, n6] at h) <;> first | (exfalso; omega) | (cases h; done) | skip) | refine And.intro (by omega) ?_ | refine Exists.intro _ (And.intro (by first | exact And.intro rfl rfl | exact Pl.den (by repeat constructor) | with_reducible rfl | exact cast_succ _ | assumption | exact (Int.toNat_of_nonneg (by omega)).symm | rfl) ?_) | refine hD _ _ ?_ | refine hL _ _ ?_ | (intro h; (try simp only [n1, n2, n3, n4, n5, n6] at h); first | (exfalso; omega) | (cases h; done) | skip)) <;> (conv => whnf))
  refine Tri.use ((tRModulus0 fx).one) [] rfl (fun _ _ _ => rfl) trivial (fun f hf => by first | exact hf | cases hf) (fun u hu => ?_)
  conv => whnf
  repeat' ((first | refine And.intro (by repeat' first | exact trivial | refine And.intro rfl ?_) (And.intro (by first | exact fun _ h => h | exact fun _ => List.mem_cons_of_mem _ | exact fun _ => List.mem_append_right _) ?_) | (refine And.intro (fun h => ?_) (fun h => ?_) <;> (try simp only [n1, n2, n3, n4, n5, n6] at h) <;> first | (exfalso; omega) | (cases h; done) | skip) | refine And.intro (by omega) ?_ | refine Exists.intro _ (And.intro (by first | exact And.intro rfl rfl | exact Pl.den (by repeat constructor) | with_reducible rfl | exact cast_succ _ | assumption | exact (Int.toNat_of_nonneg (by omega)).symm | rfl) ?_) | refine hD _ _ ?_ | refine hL _ _ ?_ | (intro h; (try simp only [n1, n2, n3, n4, n5, n6] at h); first | (exfalso; omega) | (cases h; done) | skip)) <;> (conv => whnf))
  refine Tri.use ((tLess fx x M0.m hx M0_ok.m).one) [] rfl (fun _ _ _ => rfl) trivial (fun f hf => by first | exact hf | cases hf) (fun u hu => ?_)
  conv => whnf
  repeat' ((first | refine And.intro (by repeat' first | exact trivial | refine And.intro rfl ?_) (And.intro (by first | exact fun _ h => h | exact fun _ => List.mem_cons_of_mem _ | exact fun _ => List.mem_append_right _) ?_) | (refine And.intro (fun h => ?_) (fun h => ?_) <;> (try simp only [n1, n2, n3, n4, n5, n6] at h) <;> first | (exfalso; omega) | (cases h; done) | skip) | refine And.intro (by omega) ?_ | refine Exists.intro _ (And.intro (by first | exact And.intro rfl rfl | exact Pl.den (by repeat constructor) | with_reducible rfl | exact cast_succ _ | assumption | exact (Int.toNat_of_nonneg (by omega)).symm | rfl) ?_) | refine hD _ _ ?_ | refine hL _ _ ?_ | (intro h; (try simp only [n1, n2, n3, n4, n5, n6] at h); first | (exfalso; omega) | (cases h; done) | skip)) <;> (conv => whnf))
  exact Ret.noneS rfl (fun _ _ => by simp only [den, M0_val]) (fun g hg => by cases hg)
end Go.Proofs.YtekgjjanikicnaaDoor.Sx
namespace Go.Proofs.YtekgjjanikicnaaDoor.Sx
open Go Go.Proofs.YtekgjjanikicnaaDoor.Pm
set_option maxRecDepth 100000
set_option linter.unusedSimpArgs false
set_option linter.unusedVariables false

theorem eqIn26 (dd : Nat) (a b c d e f g h a' b' c' d' e' f' g' h' : Int) (n n' : Bool) (w : World) :
    (Op.equalIn (dd + 3) 26 (.agg #[.int .u64 a, .int .u64 b, .int .u64 c, .int .u64 d, .int .u64 e, .int .u64 f, .int .u64 g, .int .u64 h, .bool n]) (.agg #[.int .u64 a', .int .u64 b', .int .u64 c', .int .u64 d', .int .u64 e', .int .u64 f', .int .u64 g', .int .u64 h', .bool n'])).run Tryd.prog w
      = .ok (decide ((a = a' ∧ b = b' ∧ c = c' ∧ d = d') ∧ (e = e' ∧ f = f' ∧ g = g' ∧ h = h') ∧ n = n')) w := by
  have h26 : Tryd.prog.underlying 26 = some (.struct (Tryd.prog.fieldsOf 26)) := by kernel_rfl
  have hf : (Tryd.prog.fieldsOf 26).toList.map (fun f => (f.name, f.type, f.offset)) = [("X", 24, 0), ("Y", 24, 4), ("None", 4, 8)] := by kernel_rfl
  have hst : Tryd.prog.stoodInHeld 26 = false := by kernel_rfl
  have h24 : Tryd.prog.underlying 24 = some (.array 4 22) := by kernel_rfl
  have h4 : Tryd.prog.underlying 4 = some .bool := by kernel_rfl
  obtain ⟨i, hi⟩ := info_of_underlying h24
  have hc : Tryd.prog.cellsOf 24 = 4 := by kernel_rfl
  have hag : ∀ w, (isAgg 24).run Tryd.prog w = .ok true w := fun w => by simp [isAgg, run_underlying h24]
  have hag4 : ∀ w, (isAgg 4).run Tryd.prog w = .ok false w := fun w => by simp [isAgg, run_underlying h4]
  have hsz : ∀ w, (sizeOf 24).run Tryd.prog w = .ok 4 w := fun w => by rw [run_sizeOf w hi, hc]
  have px : ∀ (q0 q1 q2 q3 q4 q5 q6 q7 q8 : Value) w, (part 24 #[q0, q1, q2, q3, q4, q5, q6, q7, q8] 0).run Tryd.prog w = .ok (.agg #[q0, q1, q2, q3]) w := fun q0 q1 q2 q3 q4 q5 q6 q7 q8 w => by simp [part, hag, hsz]
  have py : ∀ (q0 q1 q2 q3 q4 q5 q6 q7 q8 : Value) w, (part 24 #[q0, q1, q2, q3, q4, q5, q6, q7, q8] 4).run Tryd.prog w = .ok (.agg #[q4, q5, q6, q7]) w := fun q0 q1 q2 q3 q4 q5 q6 q7 q8 w => by simp [part, hag, hsz]
  have pn : ∀ (q0 q1 q2 q3 q4 q5 q6 q7 q8 : Value) w, (part 4 #[q0, q1, q2, q3, q4, q5, q6, q7, q8] 8).run Tryd.prog w = .ok q8 w := fun q0 q1 q2 q3 q4 q5 q6 q7 q8 w => by simp [part, hag4]
  have hb : ∀ (x y : Bool) w, (Op.equalIn (dd + 2) 4 (.bool x) (.bool y)).run Tryd.prog w = .ok (x == y) w := fun x y w => run_equalIn_bool' w (dd + 1) 4 x y h4
  rw [show dd + 3 = (dd + 2) + 1 from rfl, run_equalIn_struct w (dd + 2) 26 _ _ h26 hst]
  generalize (Tryd.prog.fieldsOf 26).toList = fs at hf
  obtain ⟨f0, r0, rfl, e0, hf⟩ := List.map_eq_cons_iff.1 hf
  obtain ⟨f1, r1, rfl, e1, hf⟩ := List.map_eq_cons_iff.1 hf
  obtain ⟨f2, r2, rfl, e2, hf⟩ := List.map_eq_cons_iff.1 hf
  obtain rfl := List.map_eq_nil_iff.1 hf
  simp only [Prod.mk.injEq] at e0 e1 e2
  obtain ⟨n0, t0, o0⟩ := e0
  obtain ⟨n1, t1, o1⟩ := e1
  obtain ⟨n2, t2, o2⟩ := e2
  simp only [Op.eqFields, n0, n1, n2, t0, t1, t2, o0, o1, o2, Sem.run_bind, px, py, pn, Result.andThen_ok, eqIn24, hb]
  by_cases k1 : a = a' ∧ b = b' ∧ c = c' ∧ d = d' <;> by_cases k2 : e = e' ∧ f = f' ∧ g = g' ∧ h = h' <;> by_cases k3 : n = n' <;> simp [k1, k2, k3, px, py, pn, eqIn24, hb]
theorem guard26 (o : BinOp) (x y : Operand) (xs ys : Array Value) (w : World) : (eqGuard o 26 x y (.agg xs) (.agg ys)).run Tryd.prog w = .ok () w := by
  have h : Tryd.prog.eqGuardType Tryd.prog.depth 26 = false := by kernel_rfl
  unfold eqGuard
  cases o <;> simp [h]
theorem eq26 (a b c d e f g h a' b' c' d' e' f' g' h' : Int) (n n' : Bool) : AggEq Tryd.prog 26 [.int .u64 a, .int .u64 b, .int .u64 c, .int .u64 d, .int .u64 e, .int .u64 f, .int .u64 g, .int .u64 h, .bool n] [.int .u64 a', .int .u64 b', .int .u64 c', .int .u64 d', .int .u64 e', .int .u64 f', .int .u64 g', .int .u64 h', .bool n']
    (decide ((a = a' ∧ b = b' ∧ c = c' ∧ d = d') ∧ (e = e' ∧ f = f' ∧ g = g' ∧ h = h') ∧ n = n')) :=
  fun w => ⟨eqIn26 9997 a b c d e f g h a' b' c' d' e' f' g' h' n n' w, fun o x y => guard26 o x y _ _ w⟩
end Go.Proofs.YtekgjjanikicnaaDoor.Sx
namespace Go.Proofs.YtekgjjanikicnaaDoor.Sx
open Go Go.Proofs.YtekgjjanikicnaaDoor.Pm
set_option maxRecDepth 100000
set_option linter.unusedSimpArgs false
set_option linter.unusedVariables false

structure Pt4 where
  x : N4
  y : N4
  n : Bool
structure Pt4.Ok (p : Pt4) : Prop where
  x : p.x.Ok
  y : p.y.Ok
def Pt4.vs (p : Pt4) : List Value := [.int .u64 (p.x.a : Int), .int .u64 (p.x.b : Int), .int .u64 (p.x.c : Int), .int .u64 (p.x.d : Int), .int .u64 (p.y.a : Int), .int .u64 (p.y.b : Int), .int .u64 (p.y.c : Int), .int .u64 (p.y.d : Int), .bool p.n]
def ptS (p : Pt4) : SV := .agg [.v (.int .u64 (p.x.a : Int)), .v (.int .u64 (p.x.b : Int)), .v (.int .u64 (p.x.c : Int)), .v (.int .u64 (p.x.d : Int)), .v (.int .u64 (p.y.a : Int)), .v (.int .u64 (p.y.b : Int)), .v (.int .u64 (p.y.c : Int)), .v (.int .u64 (p.y.d : Int)), .v (.bool p.n)]
def n40 : N4 := ⟨0, 0, 0, 0⟩
theorem n40_ok : n40.Ok := ⟨by decide, by decide, by decide, by decide⟩
theorem eK_0 : eK 0 = n40 := rfl
theorem eK_1 : eK 1 = ⟨1, 0, 0, 0⟩ := rfl
theorem N4.zero_iff {x : N4} (h : x.Ok) : x = n40 ↔ x.val = 0 := by
  constructor
  · rintro rfl; rfl
  · intro e; exact N4.ext h n40_ok (by rw [e]; rfl)
def inf : Pt4 := ⟨n40, n40, true⟩
theorem inf_ok : inf.Ok := ⟨n40_ok, n40_ok⟩
/-- The point that a formed one is, else the neutral one. -/
def pv : Pt → Pt4
  | none => inf
  | some (x, y) => ⟨eK x, eK y, false⟩
theorem pv_ok (p : Pt) : (pv p).Ok := by
  match p with
  | none => exact inf_ok
  | some (x, y) => exact ⟨eK_ok x, eK_ok y⟩
theorem pv_inj {p q : Pt} (h : pv p = pv q) : p = q := by
  match p, q, h with
  | none, none, _ => rfl
  | none, some (x, y), h => exact absurd (congrArg Pt4.n h) (by simp [pv, inf])
  | some (x, y), none, h => exact absurd (congrArg Pt4.n h) (by simp [pv, inf])
  | some (x, y), some (x', y'), h =>
    have h1 := eK_inj (congrArg Pt4.x h)
    have h2 := eK_inj (congrArg Pt4.y h)
    rw [h1, h2]
open Classical in
/-- Formed: it is some point of the curve's. -/
noncomputable def un (p : Pt4) : Pt := if h : ∃ q, OnP q ∧ p = pv q then h.choose else none
def Formed (p : Pt4) : Prop := ∃ q, OnP q ∧ p = pv q
theorem un_pv {q : Pt} (h : OnP q) : un (pv q) = q := by
  have hx : ∃ q', OnP q' ∧ pv q = pv q' := ⟨q, h, rfl⟩
  unfold un
  rw [dif_pos hx]
  exact (pv_inj hx.choose_spec.2).symm
theorem un_on (p : Pt4) : OnP (un p) := by
  unfold un
  split
  · next h => exact h.choose_spec.1
  · trivial
theorem pv_un {p : Pt4} (h : Formed p) : pv (un p) = p := by
  unfold un
  have h' : ∃ q, OnP q ∧ p = pv q := h
  rw [dif_pos h']
  exact h'.choose_spec.2.symm
theorem un_not {p : Pt4} (h : ¬ Formed p) : un p = none := by
  have h' : ¬ ∃ q, OnP q ∧ p = pv q := h
  unfold un
  rw [dif_neg h']
theorem formed_pv {q : Pt} (h : OnP q) : Formed (pv q) := ⟨q, h, rfl⟩
theorem formed_iff (p : Pt4) : Formed p ↔ pv (un p) = p := ⟨pv_un, fun h => ⟨un p, un_on p, h.symm⟩⟩
/-- A number below the modulus is one of the field's. -/
theorem eK_kof {x : N4} (h : x.Ok) (hl : x.val < Pf) : eK (kof x.val) = x := (eK_of h _ (by show x.val = x.val % Pf; rw [Nat.mod_eq_of_lt hl])).symm
theorem formed_none {p : Pt4} (hn : p.n = true) : Formed p ↔ p = inf := by
  constructor
  · rintro ⟨q, hq, rfl⟩
    match q with
    | none => rfl
    | some (x, y) => cases hn
  · intro e; exact ⟨none, trivial, e⟩
theorem formed_some {x y : K} : Formed ⟨eK x, eK y, false⟩ ↔ y * y = x * x * x - 3 * x + cb := by
  constructor
  · rintro ⟨q, hq, e⟩
    match q, hq, e with
    | none, _, e => exact absurd (congrArg Pt4.n e) (by simp [pv, inf])
    | some (x', y'), hq, e =>
      obtain rfl := eK_inj (congrArg Pt4.x e)
      obtain rfl := eK_inj (congrArg Pt4.y e)
      exact hq
  · intro h; exact ⟨some (x, y), h, rfl⟩
theorem formed_big {p : Pt4} (hn : p.n = false) (h : ¬ (p.x.val < Pf ∧ p.y.val < Pf)) : ¬ Formed p := by
  rintro ⟨q, hq, rfl⟩
  match q with
  | none => cases hn
  | some (x, y) => exact h ⟨by show (eK x).val < Pf; rw [eK_val]; exact x.isLt, by show (eK y).val < Pf; rw [eK_val]; exact y.isLt⟩
/-- All points, by kinds. -/
theorem pt4_cases (p : Pt4) (hp : p.Ok) : p.n = true ∨ (p.n = false ∧ ¬ p.x.val < Pf) ∨ (p.n = false ∧ p.x.val < Pf ∧ ¬ p.y.val < Pf) ∨ ∃ x y, p = ⟨eK x, eK y, false⟩ := by
  cases hn : p.n with
  | true => exact .inl rfl
  | false =>
    by_cases h1 : p.x.val < Pf
    · by_cases h2 : p.y.val < Pf
      · refine .inr (.inr (.inr ⟨kof p.x.val, kof p.y.val, ?_⟩))
        rw [eK_kof hp.x h1, eK_kof hp.y h2, ← hn]
      · exact .inr (.inr (.inl ⟨rfl, h1, h2⟩))
    · exact .inr (.inl ⟨rfl, h1⟩)
theorem Pt4.ext' {p q : Pt4} (hx : p.x = q.x) (hy : p.y = q.y) (hn : p.n = q.n) : p = q := by
  obtain ⟨_, _, _⟩ := p; obtain ⟨_, _, _⟩ := q; simp only at hx hy hn; subst hx hy hn; rfl
theorem N4.ext' {x y : N4} (h : (x.a : Int) = y.a ∧ (x.b : Int) = y.b ∧ (x.c : Int) = y.c ∧ (x.d : Int) = y.d) : x = y := by
  obtain ⟨a, b, c, d⟩ := x; obtain ⟨a', b', c', d'⟩ := y
  simp only [Int.ofNat_inj] at h
  obtain ⟨rfl, rfl, rfl, rfl⟩ := h; rfl
theorem N4.ext_iff' {x y : N4} : ((x.a : Int) = y.a ∧ (x.b : Int) = y.b ∧ (x.c : Int) = y.c ∧ (x.d : Int) = y.d) ↔ x = y := ⟨N4.ext', fun h => by subst h; exact ⟨rfl, rfl, rfl, rfl⟩⟩
/-- Two points are the same. -/
theorem pt_eq_iff {p q : Pt4} : (((p.x.a : Int) = q.x.a ∧ (p.x.b : Int) = q.x.b ∧ (p.x.c : Int) = q.x.c ∧ (p.x.d : Int) = q.x.d) ∧ ((p.y.a : Int) = q.y.a ∧ (p.y.b : Int) = q.y.b ∧ (p.y.c : Int) = q.y.c ∧ (p.y.d : Int) = q.y.d) ∧ p.n = q.n) ↔ p = q := by
  rw [N4.ext_iff', N4.ext_iff']
  exact ⟨fun h => Pt4.ext' h.1 h.2.1 h.2.2, fun h => by subst h; exact ⟨rfl, rfl, rfl⟩⟩
/-- Two points, compared by the program. -/
theorem eqPt (p q : Pt4) (r : Bool) (h : r = true ↔ p = q) : AggEq Tryd.prog 26 p.vs q.vs r := by
  have e := eq26 p.x.a p.x.b p.x.c p.x.d p.y.a p.y.b p.y.c p.y.d q.x.a q.x.b q.x.c q.x.d q.y.a q.y.b q.y.c q.y.d p.n q.n
  have : r = decide ((((p.x.a : Int) = q.x.a ∧ (p.x.b : Int) = q.x.b ∧ (p.x.c : Int) = q.x.c ∧ (p.x.d : Int) = q.x.d) ∧ ((p.y.a : Int) = q.y.a ∧ (p.y.b : Int) = q.y.b ∧ (p.y.c : Int) = q.y.c ∧ (p.y.d : Int) = q.y.d) ∧ p.n = q.n)) := by
    rw [Bool.eq_iff_iff, decide_eq_true_iff, pt_eq_iff]; exact h
  rw [this]; exact e
/-- Two numbers, compared by the program. -/
theorem eqN (x y : N4) (r : Bool) (h : r = true ↔ x = y) : AggEq Tryd.prog 24 [.int .u64 (x.a : Int), .int .u64 (x.b : Int), .int .u64 (x.c : Int), .int .u64 (x.d : Int)] [.int .u64 (y.a : Int), .int .u64 (y.b : Int), .int .u64 (y.c : Int), .int .u64 (y.d : Int)] r := by
  have : r = decide ((x.a : Int) = y.a ∧ (x.b : Int) = y.b ∧ (x.c : Int) = y.c ∧ (x.d : Int) = y.d) := by
    rw [Bool.eq_iff_iff, decide_eq_true_iff, N4.ext_iff']; exact h
  rw [this]; exact eq24 _ _ _ _ _ _ _ _
end Go.Proofs.YtekgjjanikicnaaDoor.Sx
