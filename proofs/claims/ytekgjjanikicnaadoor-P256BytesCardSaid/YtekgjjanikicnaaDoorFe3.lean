/- The field's functions: a modulus and its numbers. -/
import Derived.Test.YtekgjjanikicnaaDoorFe1
namespace Go.Proofs.YtekgjjanikicnaaDoor.Sx
open Go
set_option maxRecDepth 100000
set_option linter.unusedSimpArgs false
set_option linter.unusedVariables false

structure Mo where
  m : N4
  sq : N4
  inv : Nat
def Mo.sv (M : Mo) : SV := .agg [.v (.int .u64 (M.m.a : Int)), .v (.int .u64 (M.m.b : Int)), .v (.int .u64 (M.m.c : Int)), .v (.int .u64 (M.m.d : Int)), .v (.int .u64 (M.sq.a : Int)), .v (.int .u64 (M.sq.b : Int)), .v (.int .u64 (M.sq.c : Int)), .v (.int .u64 (M.sq.d : Int)), .v (.int .u64 (M.inv : Int))]
structure Mo.Ok (M : Mo) : Prop where
  m : M.m.Ok
  sq : M.sq.Ok
  inv : M.inv < 18446744073709551616
  pos : 1 < M.m.val
  neg : (M.m.a * M.inv + 1) % 18446744073709551616 = 0
  sqr : M.sq.val = (115792089237316195423570985008687907853269984665640564039457584007913129639936 * 115792089237316195423570985008687907853269984665640564039457584007913129639936) % M.m.val
  unit : ∃ u, (115792089237316195423570985008687907853269984665640564039457584007913129639936 * u) % M.m.val = 1
theorem mod_sub {a m : Nat} (h : m ≤ a) : (a - m) % m = a % m := (Nat.mod_eq_sub_mod h).symm
theorem cmpI_ge {x y : Nat} (h : 0 ≤ cmpI x y) : y ≤ x := by
  unfold cmpI at h
  split at h <;> omega
theorem cmpI_lt {x y : Nat} (h : ¬ 0 ≤ cmpI x y) : x < y := by
  unfold cmpI at h
  split at h
  · assumption
  · split at h <;> omega
set_option maxHeartbeats 1000000 in
theorem tMFold (fx : List Fact) (M : Mo) (hM : M.Ok) (x : N4) (hx : x.Ok) : Tri Tryd.prog 136 [M.sv, x.sv] [] 0 fx
    (RetE (α := N4) 0 (fun r => r.Ok ∧ r.val = x.val % M.m.val) (fun r => r.sv) (fun _ => []) 0 (fun _ => [])) := by
  have hpos := hM.pos
  refine Tri.of_code tok Tryd.func136 rfl rfl rfl (by decide) rfl (Nat.le_of_ble_eq_true rfl) ?_
  conv => whnf
  repeat' ((first | refine And.intro (by repeat' first | exact trivial | refine And.intro rfl ?_) (And.intro (by first | exact fun _ h => h | exact fun _ => List.mem_cons_of_mem _ | exact fun _ => List.mem_append_right _) ?_) | (refine And.intro (fun h => ?_) (fun h => ?_) <;> (try simp only [n1, n2, n3, n4, n5, n6] at h) <;> first | (exfalso; omega) | (cases h; done) | skip) | refine And.intro (by omega) ?_ | refine Exists.intro _ (And.intro (by first | exact And.intro rfl rfl | exact Pl.den (by repeat constructor) | with_reducible rfl | exact cast_succ _ | assumption | exact (Int.toNat_of_nonneg (by omega)).symm | rfl) ?_) | refine hD _ _ ?_ | refine hL _ _ ?_ | (intro h; (try simp only [n1, n2, n3, n4, n5, n6] at h); first | (exfalso; omega) | (cases h; done) | skip)) <;> (conv => whnf))
  refine loop_by tok (α := N4) (fun a => ⟨[(2, .p 0 0), (3, .p 1 0), (4, .p 2 0)], [(2, .cells [.k .u64 0, .k .u64 0, .k .u64 0, .k .u64 0] 24), (1, .cells [.v (.int .u64 (a.a : Int)), .v (.int .u64 (a.b : Int)), .v (.int .u64 (a.c : Int)), .v (.int .u64 (a.d : Int))] 24),
    (0, .cells [.v (.int .u64 (M.m.a : Int)), .v (.int .u64 (M.m.b : Int)), .v (.int .u64 (M.m.c : Int)), .v (.int .u64 (M.m.d : Int)), .v (.int .u64 (M.sq.a : Int)), .v (.int .u64 (M.sq.b : Int)), .v (.int .u64 (M.sq.c : Int)), .v (.int .u64 (M.sq.d : Int)), .v (.int .u64 (M.inv : Int))] 161)], 3, fx⟩)
    (fun a => a.Ok ∧ a.val % M.m.val = x.val % M.m.val) (fun a => a.val) x [0, 1, 2] ⟨hx, rfl⟩ ⟨rfl, ⟨SEq.nrm rfl rfl, SEq.nrm rfl rfl, SEq.nrm rfl rfl, trivial⟩, ⟨OSub.ren rfl rfl, OSub.ren rfl rfl, OSub.ren rfl rfl, trivial⟩, fun f hf => hf⟩ ?_
  rintro a ⟨ha, he⟩
  conv => whnf
  repeat' ((first | refine And.intro (by repeat' first | exact trivial | refine And.intro rfl ?_) (And.intro (by first | exact fun _ h => h | exact fun _ => List.mem_cons_of_mem _ | exact fun _ => List.mem_append_right _) ?_) | (refine And.intro (fun h => ?_) (fun h => ?_) <;> (try simp only [n1, n2, n3, n4, n5, n6] at h) <;> first | (exfalso; omega) | (cases h; done) | skip) | refine And.intro (by omega) ?_ | refine Exists.intro _ (And.intro (by first | exact And.intro rfl rfl | exact Pl.den (by repeat constructor) | with_reducible rfl | exact cast_succ _ | assumption | exact (Int.toNat_of_nonneg (by omega)).symm | rfl) ?_) | refine hD _ _ ?_ | refine hL _ _ ?_ | (intro h; (try simp only [n1, n2, n3, n4, n5, n6] at h); first | (exfalso; omega) | (cases h; done) | skip)) <;> (conv => whnf))
  refine Tri.use ((tCmp fx a M.m ha hM.m).one) [] rfl (fun _ _ _ => rfl) trivial (fun f hf => by first | exact hf | cases hf) (fun u hu => ?_)
  conv => whnf
  repeat' ((first | refine And.intro (by repeat' first | exact trivial | refine And.intro rfl ?_) (And.intro (by first | exact fun _ h => h | exact fun _ => List.mem_cons_of_mem _ | exact fun _ => List.mem_append_right _) ?_) | (refine And.intro (fun h => ?_) (fun h => ?_) <;> (try simp only [n1, n2, n3, n4, n5, n6] at h) <;> first | (exfalso; omega) | (cases h; done) | skip) | refine And.intro (by omega) ?_ | refine Exists.intro _ (And.intro (by first | exact And.intro rfl rfl | exact Pl.den (by repeat constructor) | with_reducible rfl | exact cast_succ _ | assumption | exact (Int.toNat_of_nonneg (by omega)).symm | rfl) ?_) | refine hD _ _ ?_ | refine hL _ _ ?_ | (intro h; (try simp only [n1, n2, n3, n4, n5, n6] at h); first | (exfalso; omega) | (cases h; done) | skip)) <;> (conv => whnf))
  · have hge := cmpI_ge h
    refine Tri.use (tLSub fx a M.m ha hM.m) [] rfl (fun _ _ _ => rfl) trivial (fun f hf => by first | exact hf | cases hf) (fun u hu => ?_)
    obtain ⟨z, o⟩ := u
    obtain ⟨h1, h2⟩ := hu
    simp only at h1 h2
    conv => whnf
    repeat' ((first | refine And.intro (by repeat' first | exact trivial | refine And.intro rfl ?_) (And.intro (by first | exact fun _ h => h | exact fun _ => List.mem_cons_of_mem _ | exact fun _ => List.mem_append_right _) ?_) | (refine And.intro (fun h => ?_) (fun h => ?_) <;> (try simp only [n1, n2, n3, n4, n5, n6] at h) <;> first | (exfalso; omega) | (cases h; done) | skip) | refine And.intro (by omega) ?_ | refine Exists.intro _ (And.intro (by first | exact And.intro rfl rfl | exact Pl.den (by repeat constructor) | with_reducible rfl | exact cast_succ _ | assumption | exact (Int.toNat_of_nonneg (by omega)).symm | rfl) ?_) | refine hD _ _ ?_ | refine hL _ _ ?_ | (intro h; (try simp only [n1, n2, n3, n4, n5, n6] at h); first | (exfalso; omega) | (cases h; done) | skip)) <;> (conv => whnf))
    have hlt := N4.val_lt h1
    have hz : z.val = a.val - M.m.val := by
      cases o
      · simp at h2; omega
      · simp at h2; have := N4.val_lt ha; omega
    refine ⟨z, [0, 1, 2], ⟨⟨h1, ?_⟩, by omega⟩, ⟨rfl, ⟨SEq.nrm rfl rfl, SEq.nrm rfl rfl, SEq.nrm rfl rfl, trivial⟩, ⟨OSub.ren rfl rfl, OSub.ren rfl rfl, OSub.ren rfl rfl, trivial⟩, fun f hf => by simpa using hf⟩⟩
    rw [hz, mod_sub hge, he]
  · have hlt := cmpI_lt h
    refine ⟨a, ⟨ha, ?_⟩, Ret.noneS rfl (fun _ _ => rfl) (fun g hg => by cases hg)⟩
    rw [← he, Nat.mod_eq_of_lt hlt]
theorem add_mod_of {a b m : Nat} (ha : a < m) (hb : b < m) : (a + b) % m = if m ≤ a + b then a + b - m else a + b := by
  split
  · rw [Nat.mod_eq_sub_mod (by assumption), Nat.mod_eq_of_lt (by omega)]
  · exact Nat.mod_eq_of_lt (by omega)
theorem sub_mod_of {a b m : Nat} (ha : a < m) (hb : b < m) : (a + m - b) % m = if b ≤ a then a - b else a + m - b := by
  split
  · rw [show a + m - b = a - b + m by omega, Nat.add_mod_right, Nat.mod_eq_of_lt (by omega)]
  · exact Nat.mod_eq_of_lt (by omega)
set_option maxHeartbeats 1000000 in
theorem tMAdd (fx : List Fact) (M : Mo) (hM : M.Ok) (x y : N4) (hx : x.Ok) (hy : y.Ok) (hxm : x.val < M.m.val) (hym : y.val < M.m.val) : Tri Tryd.prog 137 [M.sv, x.sv, y.sv] [] 0 fx
    (RetE (α := N4) 0 (fun r => r.Ok ∧ r.val = (x.val + y.val) % M.m.val) (fun r => r.sv) (fun _ => []) 0 (fun _ => [])) := by
  have hml := N4.val_lt hM.m
  rw [add_mod_of hxm hym]
  refine Tri.of_code tok Tryd.func137 rfl rfl rfl (by decide) rfl (Nat.le_of_ble_eq_true rfl) ?_
  conv => whnf
  repeat' ((first | refine And.intro (by repeat' first | exact trivial | refine And.intro rfl ?_) (And.intro (by first | exact fun _ h => h | exact fun _ => List.mem_cons_of_mem _ | exact fun _ => List.mem_append_right _) ?_) | (refine And.intro (fun h => ?_) (fun h => ?_) <;> (try simp only [n1, n2, n3, n4, n5, n6] at h) <;> first | (exfalso; omega) | (cases h; done) | skip) | refine And.intro (by omega) ?_ | refine Exists.intro _ (And.intro (by first | exact And.intro rfl rfl | exact Pl.den (by repeat constructor) | with_reducible rfl | exact cast_succ _ | assumption | exact (Int.toNat_of_nonneg (by omega)).symm | rfl) ?_) | refine hD _ _ ?_ | refine hL _ _ ?_ | (intro h; (try simp only [n1, n2, n3, n4, n5, n6] at h); first | (exfalso; omega) | (cases h; done) | skip)) <;> (conv => whnf))
  refine Tri.use (tLAdd fx x y hx hy) [] rfl (fun _ _ _ => rfl) trivial (fun f hf => by first | exact hf | cases hf) (fun u hu => ?_)
  obtain ⟨z, o⟩ := u
  obtain ⟨h1, h2⟩ := hu
  simp only at h1 h2
  have hz := N4.val_lt h1
  conv => whnf
  repeat' ((first | refine And.intro (by repeat' first | exact trivial | refine And.intro rfl ?_) (And.intro (by first | exact fun _ h => h | exact fun _ => List.mem_cons_of_mem _ | exact fun _ => List.mem_append_right _) ?_) | (refine And.intro (fun h => ?_) (fun h => ?_) <;> (try simp only [n1, n2, n3, n4, n5, n6] at h) <;> first | (exfalso; omega) | (cases h; done) | skip) | refine And.intro (by omega) ?_ | refine Exists.intro _ (And.intro (by first | exact And.intro rfl rfl | exact Pl.den (by repeat constructor) | with_reducible rfl | exact cast_succ _ | assumption | exact (Int.toNat_of_nonneg (by omega)).symm | rfl) ?_) | refine hD _ _ ?_ | refine hL _ _ ?_ | (intro h; (try simp only [n1, n2, n3, n4, n5, n6] at h); first | (exfalso; omega) | (cases h; done) | skip)) <;> (conv => whnf))
  refine Tri.use (tLSub fx z M.m h1 hM.m) [] rfl (fun _ _ _ => rfl) trivial (fun f hf => by first | exact hf | cases hf) (fun u hu => ?_)
  obtain ⟨t, v⟩ := u
  obtain ⟨h3, h4⟩ := hu
  simp only at h3 h4
  have ht := N4.val_lt h3
  conv => whnf
  repeat' ((first | refine And.intro (by repeat' first | exact trivial | refine And.intro rfl ?_) (And.intro (by first | exact fun _ h => h | exact fun _ => List.mem_cons_of_mem _ | exact fun _ => List.mem_append_right _) ?_) | (refine And.intro (fun h => ?_) (fun h => ?_) <;> (try simp only [n1, n2, n3, n4, n5, n6] at h) <;> first | (exfalso; omega) | (cases h; done) | skip) | refine And.intro (by omega) ?_ | refine Exists.intro _ (And.intro (by first | exact And.intro rfl rfl | exact Pl.den (by repeat constructor) | with_reducible rfl | exact cast_succ _ | assumption | exact (Int.toNat_of_nonneg (by omega)).symm | rfl) ?_) | refine hD _ _ ?_ | refine hL _ _ ?_ | (intro h; (try simp only [n1, n2, n3, n4, n5, n6] at h); first | (exfalso; omega) | (cases h; done) | skip)) <;> (conv => whnf))
  · subst h
    refine Tri.use ((tPick fx true t z h3 h1).one) [] rfl (fun _ _ _ => rfl) trivial (fun f hf => by first | exact hf | cases hf) (fun u hu => ?_)
    conv => whnf
    repeat' ((first | refine And.intro (by repeat' first | exact trivial | refine And.intro rfl ?_) (And.intro (by first | exact fun _ h => h | exact fun _ => List.mem_cons_of_mem _ | exact fun _ => List.mem_append_right _) ?_) | (refine And.intro (fun h => ?_) (fun h => ?_) <;> (try simp only [n1, n2, n3, n4, n5, n6] at h) <;> first | (exfalso; omega) | (cases h; done) | skip) | refine And.intro (by omega) ?_ | refine Exists.intro _ (And.intro (by first | exact And.intro rfl rfl | exact Pl.den (by repeat constructor) | with_reducible rfl | exact cast_succ _ | assumption | exact (Int.toNat_of_nonneg (by omega)).symm | rfl) ?_) | refine hD _ _ ?_ | refine hL _ _ ?_ | (intro h; (try simp only [n1, n2, n3, n4, n5, n6] at h); first | (exfalso; omega) | (cases h; done) | skip)) <;> (conv => whnf))
    refine ⟨t, ⟨h3, ?_⟩, Ret.noneS rfl (fun _ _ => rfl) (fun g hg => by cases hg)⟩
    cases v <;> simp at h2 h4 <;> split <;> omega
  · subst h
    refine Tri.use ((tPick fx (!v) t z h3 h1).one) [] rfl (fun _ _ _ => rfl) trivial (fun f hf => by first | exact hf | cases hf) (fun u hu => ?_)
    conv => whnf
    repeat' ((first | refine And.intro (by repeat' first | exact trivial | refine And.intro rfl ?_) (And.intro (by first | exact fun _ h => h | exact fun _ => List.mem_cons_of_mem _ | exact fun _ => List.mem_append_right _) ?_) | (refine And.intro (fun h => ?_) (fun h => ?_) <;> (try simp only [n1, n2, n3, n4, n5, n6] at h) <;> first | (exfalso; omega) | (cases h; done) | skip) | refine And.intro (by omega) ?_ | refine Exists.intro _ (And.intro (by first | exact And.intro rfl rfl | exact Pl.den (by repeat constructor) | with_reducible rfl | exact cast_succ _ | assumption | exact (Int.toNat_of_nonneg (by omega)).symm | rfl) ?_) | refine hD _ _ ?_ | refine hL _ _ ?_ | (intro h; (try simp only [n1, n2, n3, n4, n5, n6] at h); first | (exfalso; omega) | (cases h; done) | skip)) <;> (conv => whnf))
    cases v
    · refine ⟨t, ⟨h3, ?_⟩, Ret.noneS rfl (fun _ _ => rfl) (fun g hg => by cases hg)⟩
      simp at h2 h4
      split <;> omega
    · refine ⟨z, ⟨h1, ?_⟩, Ret.noneS rfl (fun _ _ => rfl) (fun g hg => by cases hg)⟩
      simp at h2 h4
      split <;> omega
set_option maxHeartbeats 1000000 in
theorem tMSub (fx : List Fact) (M : Mo) (hM : M.Ok) (x y : N4) (hx : x.Ok) (hy : y.Ok) (hxm : x.val < M.m.val) (hym : y.val < M.m.val) : Tri Tryd.prog 138 [M.sv, x.sv, y.sv] [] 0 fx
    (RetE (α := N4) 0 (fun r => r.Ok ∧ r.val = (x.val + M.m.val - y.val) % M.m.val) (fun r => r.sv) (fun _ => []) 0 (fun _ => [])) := by
  have hml := N4.val_lt hM.m
  rw [sub_mod_of hxm hym]
  refine Tri.of_code tok Tryd.func138 rfl rfl rfl (by decide) rfl (Nat.le_of_ble_eq_true rfl) ?_
  conv => whnf
  repeat' ((first | refine And.intro (by repeat' first | exact trivial | refine And.intro rfl ?_) (And.intro (by first | exact fun _ h => h | exact fun _ => List.mem_cons_of_mem _ | exact fun _ => List.mem_append_right _) ?_) | (refine And.intro (fun h => ?_) (fun h => ?_) <;> (try simp only [n1, n2, n3, n4, n5, n6] at h) <;> first | (exfalso; omega) | (cases h; done) | skip) | refine And.intro (by omega) ?_ | refine Exists.intro _ (And.intro (by first | exact And.intro rfl rfl | exact Pl.den (by repeat constructor) | with_reducible rfl | exact cast_succ _ | assumption | exact (Int.toNat_of_nonneg (by omega)).symm | rfl) ?_) | refine hD _ _ ?_ | refine hL _ _ ?_ | (intro h; (try simp only [n1, n2, n3, n4, n5, n6] at h); first | (exfalso; omega) | (cases h; done) | skip)) <;> (conv => whnf))
  refine Tri.use (tLSub fx x y hx hy) [] rfl (fun _ _ _ => rfl) trivial (fun f hf => by first | exact hf | cases hf) (fun u hu => ?_)
  obtain ⟨z, o⟩ := u
  obtain ⟨h1, h2⟩ := hu
  simp only at h1 h2
  have hz := N4.val_lt h1
  conv => whnf
  repeat' ((first | refine And.intro (by repeat' first | exact trivial | refine And.intro rfl ?_) (And.intro (by first | exact fun _ h => h | exact fun _ => List.mem_cons_of_mem _ | exact fun _ => List.mem_append_right _) ?_) | (refine And.intro (fun h => ?_) (fun h => ?_) <;> (try simp only [n1, n2, n3, n4, n5, n6] at h) <;> first | (exfalso; omega) | (cases h; done) | skip) | refine And.intro (by omega) ?_ | refine Exists.intro _ (And.intro (by first | exact And.intro rfl rfl | exact Pl.den (by repeat constructor) | with_reducible rfl | exact cast_succ _ | assumption | exact (Int.toNat_of_nonneg (by omega)).symm | rfl) ?_) | refine hD _ _ ?_ | refine hL _ _ ?_ | (intro h; (try simp only [n1, n2, n3, n4, n5, n6] at h); first | (exfalso; omega) | (cases h; done) | skip)) <;> (conv => whnf))
  refine Tri.use (tLAdd fx z M.m h1 hM.m) [] rfl (fun _ _ _ => rfl) trivial (fun f hf => by first | exact hf | cases hf) (fun u hu => ?_)
  obtain ⟨t, v⟩ := u
  obtain ⟨h3, h4⟩ := hu
  simp only at h3 h4
  have ht := N4.val_lt h3
  conv => whnf
  repeat' ((first | refine And.intro (by repeat' first | exact trivial | refine And.intro rfl ?_) (And.intro (by first | exact fun _ h => h | exact fun _ => List.mem_cons_of_mem _ | exact fun _ => List.mem_append_right _) ?_) | (refine And.intro (fun h => ?_) (fun h => ?_) <;> (try simp only [n1, n2, n3, n4, n5, n6] at h) <;> first | (exfalso; omega) | (cases h; done) | skip) | refine And.intro (by omega) ?_ | refine Exists.intro _ (And.intro (by first | exact And.intro rfl rfl | exact Pl.den (by repeat constructor) | with_reducible rfl | exact cast_succ _ | assumption | exact (Int.toNat_of_nonneg (by omega)).symm | rfl) ?_) | refine hD _ _ ?_ | refine hL _ _ ?_ | (intro h; (try simp only [n1, n2, n3, n4, n5, n6] at h); first | (exfalso; omega) | (cases h; done) | skip)) <;> (conv => whnf))
  refine Tri.use ((tPick fx o t z h3 h1).one) [] rfl (fun _ _ _ => rfl) trivial (fun f hf => by first | exact hf | cases hf) (fun u hu => ?_)
  conv => whnf
  repeat' ((first | refine And.intro (by repeat' first | exact trivial | refine And.intro rfl ?_) (And.intro (by first | exact fun _ h => h | exact fun _ => List.mem_cons_of_mem _ | exact fun _ => List.mem_append_right _) ?_) | (refine And.intro (fun h => ?_) (fun h => ?_) <;> (try simp only [n1, n2, n3, n4, n5, n6] at h) <;> first | (exfalso; omega) | (cases h; done) | skip) | refine And.intro (by omega) ?_ | refine Exists.intro _ (And.intro (by first | exact And.intro rfl rfl | exact Pl.den (by repeat constructor) | with_reducible rfl | exact cast_succ _ | assumption | exact (Int.toNat_of_nonneg (by omega)).symm | rfl) ?_) | refine hD _ _ ?_ | refine hL _ _ ?_ | (intro h; (try simp only [n1, n2, n3, n4, n5, n6] at h); first | (exfalso; omega) | (cases h; done) | skip)) <;> (conv => whnf))
  cases o
  · refine ⟨z, ⟨h1, ?_⟩, Ret.noneS rfl (fun _ _ => rfl) (fun g hg => by cases hg)⟩
    cases v <;> simp at h2 h4 <;> split <;> omega
  · refine ⟨t, ⟨h3, ?_⟩, Ret.noneS rfl (fun _ _ => rfl) (fun g hg => by cases hg)⟩
    cases v <;> simp at h2 h4 <;> split <;> omega
end Go.Proofs.YtekgjjanikicnaaDoor.Sx
namespace Go.Proofs.YtekgjjanikicnaaDoor.Sx
open Go
set_option maxRecDepth 100000
set_option linter.unusedSimpArgs false
set_option linter.unusedVariables false

theorem limb_get' (x : N4) {q : Nat} (h : q < 4) : ([.v (.int .u64 (x.a : Int)), .v (.int .u64 (x.b : Int)), .v (.int .u64 (x.c : Int)), .v (.int .u64 (x.d : Int))] : List SV)[q * 1]? = some (.v (.int .u64 (x.limb q : Int))) := by
  have := limb_get x h
  rwa [Nat.zero_add] at this
def N4.low (x : N4) : Nat → Nat
  | 0 => 0
  | 1 => x.a
  | 2 => x.a + 18446744073709551616 * x.b
  | 3 => x.a + 18446744073709551616 * x.b + 340282366920938463463374607431768211456 * x.c
  | _ => x.val
theorem low_succ (x : N4) {i : Nat} (h : i < 4) : x.low (i + 1) = x.low i + 18446744073709551616 ^ i * x.limb i := by
  match i, h with
  | 0, _ => simp [N4.low, N4.limb]
  | 1, _ => simp [N4.low, N4.limb]
  | 2, _ => simp [N4.low, N4.limb]
  | 3, _ => simp [N4.low, N4.limb, N4.val]
theorem mont_low {l m0 inv w d : Nat} (hn : (m0 * inv + 1) % 18446744073709551616 = 0) (hw : w < 18446744073709551616) (h : w + 18446744073709551616 * d = l + (l * inv % 18446744073709551616) * m0 + 0) : w = 0 := by
  have h1 : (l + (l * inv % 18446744073709551616) * m0) % 18446744073709551616 = 0 := by
    rw [Nat.add_mod, Nat.mod_mul_mod, ← Nat.add_mod]
    have : l + l * inv * m0 = l * (m0 * inv + 1) := by rw [Nat.mul_add, Nat.mul_one, Nat.add_comm, Nat.mul_assoc, Nat.mul_comm inv]
    rw [this, Nat.mul_mod, hn, Nat.mul_zero, Nat.zero_mod]
  omega
theorem mul_val (y : Nat) (b : N4) : y * b.val = y * b.a + 18446744073709551616 * (y * b.b) + 340282366920938463463374607431768211456 * (y * b.c) + 6277101735386680763835789423207666416102355444464034512896 * (y * b.d) := by
  simp only [N4.val, Nat.mul_add, Nat.mul_left_comm y]
theorem mont_round {T T' B q m W Wi lowi low' li : Nat} (hk : T' * W = T + li * B + q * m) (he : (T * Wi) % m = (lowi * B) % m) (hl : low' = lowi + Wi * li) : (T' * (Wi * W)) % m = (low' * B) % m := by
  have h1 : T' * (Wi * W) = T * Wi + li * B * Wi + m * (q * Wi) := by
    calc T' * (Wi * W) = (T' * W) * Wi := by ac_rfl
      _ = (T + li * B + q * m) * Wi := by rw [hk]
      _ = T * Wi + li * B * Wi + m * (q * Wi) := by rw [Nat.add_mul, Nat.add_mul]; ac_rfl
  have h2 : low' * B = lowi * B + li * B * Wi := by rw [hl, Nat.add_mul]; ac_rfl
  rw [h1, h2, Nat.add_mul_mod_self_left, Nat.add_mod, he, ← Nat.add_mod]
theorem round_eq {t0 t1 t2 t3 t4 A0 A1 A2 A3 Q0 Q1 Q2 Q3 l0 c0 l1 c1 l2 c2 l3 c3 l4 l5 w d0 n0 d1 n1 d2 n2 d3 n3 cc : Nat}
    (e0 : l0 + 18446744073709551616 * c0 = t0 + A0 + 0) (e1 : l1 + 18446744073709551616 * c1 = t1 + A1 + c0) (e2 : l2 + 18446744073709551616 * c2 = t2 + A2 + c1) (e3 : l3 + 18446744073709551616 * c3 = t3 + A3 + c2)
    (e4 : l4 + 18446744073709551616 * l5 = t4 + c3 + 0) (hw : w = 0) (f0 : w + 18446744073709551616 * d0 = l0 + Q0 + 0) (f1 : n0 + 18446744073709551616 * d1 = l1 + Q1 + d0) (f2 : n1 + 18446744073709551616 * d2 = l2 + Q2 + d1)
    (f3 : n2 + 18446744073709551616 * d3 = l3 + Q3 + d2) (f4 : n3 + 18446744073709551616 * cc = l4 + d3 + 0) :
    (n0 + 18446744073709551616 * n1 + 340282366920938463463374607431768211456 * n2 + 6277101735386680763835789423207666416102355444464034512896 * n3 + 115792089237316195423570985008687907853269984665640564039457584007913129639936 * (l5 + cc)) * 18446744073709551616 =
      (t0 + 18446744073709551616 * t1 + 340282366920938463463374607431768211456 * t2 + 6277101735386680763835789423207666416102355444464034512896 * t3 + 115792089237316195423570985008687907853269984665640564039457584007913129639936 * t4) +
      (A0 + 18446744073709551616 * A1 + 340282366920938463463374607431768211456 * A2 + 6277101735386680763835789423207666416102355444464034512896 * A3) +
      (Q0 + 18446744073709551616 * Q1 + 340282366920938463463374607431768211456 * Q2 + 6277101735386680763835789423207666416102355444464034512896 * Q3) := by
  omega
theorem round_lt {T T' L B q m : Nat} (hL : L < 18446744073709551616) (hq : q < 18446744073709551616) (hT : T < B + m) (hk : T' * 18446744073709551616 = T + L * B + q * m) : T' < B + m := by
  have h1 : L * B ≤ 18446744073709551615 * B := Nat.mul_le_mul_right _ (by omega)
  have h2 : q * m ≤ 18446744073709551615 * m := Nat.mul_le_mul_right _ (by omega)
  generalize L * B = X at *
  generalize q * m = Y at *
  omega
theorem half_end {s t4 m z : Nat} {v : Bool} (hs : s < 115792089237316195423570985008687907853269984665640564039457584007913129639936) (hz : z < 115792089237316195423570985008687907853269984665640564039457584007913129639936) (hT : s + 115792089237316195423570985008687907853269984665640564039457584007913129639936 * t4 < 2 * m) (hm : m < 115792089237316195423570985008687907853269984665640564039457584007913129639936)
    (hsub : z + m = s + if v = true then 115792089237316195423570985008687907853269984665640564039457584007913129639936 else 0) (hc : t4 ≠ 0 ∨ v = false) : z < m ∧ z + m = s + 115792089237316195423570985008687907853269984665640564039457584007913129639936 * t4 := by
  cases v
  · simp at hsub
    rcases Nat.eq_zero_or_pos t4 with h | h
    · subst h; omega
    · have : t4 = 1 := by omega
      subst this; omega
  · simp at hsub hc
    have : t4 = 1 := by omega
    subst this; omega
structure T5 where
  i : Nat
  t0 : Nat
  t1 : Nat
  t2 : Nat
  t3 : Nat
  t4 : Nat
  e4 : Int
  e5 : Int
def T5.val (t : T5) : Nat := t.t0 + 18446744073709551616 * t.t1 + 340282366920938463463374607431768211456 * t.t2 + 6277101735386680763835789423207666416102355444464034512896 * t.t3 + 115792089237316195423570985008687907853269984665640564039457584007913129639936 * t.t4
structure T5.Ok (t : T5) (x y m : N4) : Prop where
  i : t.i ≤ 4
  h0 : t.t0 < 18446744073709551616
  h1 : t.t1 < 18446744073709551616
  h2 : t.t2 < 18446744073709551616
  h3 : t.t3 < 18446744073709551616
  h4 : t.e4 = (t.t4 : Int)
  lt : t.val < y.val + m.val
  eq : (t.val * 18446744073709551616 ^ t.i) % m.val = (x.low t.i * y.val) % m.val
set_option maxHeartbeats 4000000 in
theorem tHalf (fx : List Fact) (M : Mo) (hM : M.Ok) (x y : N4) (hx : x.Ok) (hy : y.Ok) (hym : y.val < M.m.val) : Tri Tryd.prog 163 [M.sv, x.sv, y.sv] [] 0 fx
    (RetE (α := N4) 0 (fun r => r.Ok ∧ r.val < M.m.val ∧ (r.val * 115792089237316195423570985008687907853269984665640564039457584007913129639936) % M.m.val = (x.val * y.val) % M.m.val) (fun r => r.sv) (fun _ => []) 0 (fun _ => [])) := by
  have hml := N4.val_lt hM.m
  refine Tri.of_code tok Tryd.func163 rfl rfl rfl (by decide) rfl (Nat.le_of_ble_eq_true rfl) ?_
  conv => whnf
  repeat' ((first | refine And.intro (by repeat' first | exact trivial | refine And.intro rfl ?_) (And.intro (by first | exact fun _ h => h | exact fun _ => List.mem_cons_of_mem _ | exact fun _ => List.mem_append_right _) ?_) | (refine And.intro (fun h => ?_) (fun h => ?_) <;> (try simp only [n1, n2, n3, n4, n5, n6] at h) <;> first | (exfalso; omega) | (cases h; done) | skip) | refine And.intro (by omega) ?_ | refine Exists.intro _ (And.intro (by first | exact And.intro rfl rfl | exact Pl.den (by repeat constructor) | with_reducible rfl | exact cast_succ _ | assumption | exact (Int.toNat_of_nonneg (by omega)).symm | rfl) ?_) | refine hD _ _ ?_ | refine hL _ _ ?_ | (intro h; (try simp only [n1, n2, n3, n4, n5, n6] at h); first | (exfalso; omega) | (cases h; done) | skip)) <;> (conv => whnf))
  refine loop_by tok (α := T5) (fun t => ⟨[(3, .p 0 0), (5, .p 2 0), (6, .p 3 0), (7, .p 4 0), (18, x.sv), (19, .v (.int .i64 (t.i : Int)))],
    [(4, .cells [.v (.int .u64 (t.t0 : Int)), .v (.int .u64 (t.t1 : Int)), .v (.int .u64 (t.t2 : Int)), .v (.int .u64 (t.t3 : Int)), .v (.int .u64 t.e4), .v (.int .u64 t.e5)] 207), (3, .cells [.k .u64 0, .k .u64 0, .k .u64 0, .k .u64 0] 24),
    (2, .cells [.v (.int .u64 (y.a : Int)), .v (.int .u64 (y.b : Int)), .v (.int .u64 (y.c : Int)), .v (.int .u64 (y.d : Int))] 24),
    (1, .cells [.v (.int .u64 (x.a : Int)), .v (.int .u64 (x.b : Int)), .v (.int .u64 (x.c : Int)), .v (.int .u64 (x.d : Int))] 24),
    (0, .cells [.v (.int .u64 (M.m.a : Int)), .v (.int .u64 (M.m.b : Int)), .v (.int .u64 (M.m.c : Int)), .v (.int .u64 (M.m.d : Int)), .v (.int .u64 (M.sq.a : Int)), .v (.int .u64 (M.sq.b : Int)), .v (.int .u64 (M.sq.c : Int)), .v (.int .u64 (M.sq.d : Int)), .v (.int .u64 (M.inv : Int))] 161)], 5, fx⟩)
    (fun t => t.Ok x y M.m) (fun t => 4 - t.i) ⟨0, 0, 0, 0, 0, 0, 0, 0⟩ [0, 1, 2, 3, 4] ⟨by decide, by decide, by decide, by decide, by decide, rfl, by simp [T5.val]; omega, by simp [T5.val, N4.low]⟩
    ⟨rfl, ⟨SEq.nrm rfl rfl, SEq.nrm rfl rfl, SEq.nrm rfl rfl, SEq.nrm rfl rfl, SEq.nrm rfl rfl, (fun _ _ _ => rfl), trivial⟩, ⟨(fun _ _ _ _ _ _ h => ⟨fun k => (h.1 k), h.2⟩), OSub.ren rfl rfl, OSub.ren rfl rfl, OSub.ren rfl rfl, OSub.ren rfl rfl, trivial⟩, fun f hf => hf⟩ ?_
  rintro t ⟨hi, h0, h1, h2, h3, h4, hlt, heq⟩
  have hlim := limb_lt hx t.i
  have ht4 : t.t4 ≤ 1 := by
    have := N4.val_lt hy
    simp only [T5.val] at hlt; omega
  conv => whnf
  repeat' ((first | (refine Exists.intro _ (And.intro (limb_get' x (by omega)) ?_)) | refine And.intro (by repeat' first | exact trivial | refine And.intro rfl ?_) (And.intro (by first | exact fun _ h => h | exact fun _ => List.mem_cons_of_mem _ | exact fun _ => List.mem_append_right _) ?_) | (refine And.intro (fun h => ?_) (fun h => ?_) <;> (try simp only [n1, n2, n3, n4, n5, n6] at h) <;> first | (exfalso; omega) | (cases h; done) | skip) | refine And.intro (by omega) ?_ | refine Exists.intro _ (And.intro (by first | exact And.intro rfl rfl | exact Pl.den (by repeat constructor) | with_reducible rfl | exact cast_succ _ | assumption | exact (Int.toNat_of_nonneg (by omega)).symm | rfl) ?_) | refine hD _ _ ?_ | refine hL _ _ ?_ | (intro h; (try simp only [n1, n2, n3, n4, n5, n6] at h); first | (exfalso; omega) | (cases h; done) | skip)) <;> (conv => whnf))
  · have hi4 : t.i < 4 := by omega
    refine loop_opaque fun KL hL => ?_
    refine loop_rounds 5 (round_next tok ?_)
    conv => whnf
    repeat' ((first | refine And.intro (by repeat' first | exact trivial | refine And.intro rfl ?_) (And.intro (by first | exact fun _ h => h | exact fun _ => List.mem_cons_of_mem _ | exact fun _ => List.mem_append_right _) ?_) | (refine And.intro (fun h => ?_) (fun h => ?_) <;> (try simp only [n1, n2, n3, n4, n5, n6] at h) <;> first | (exfalso; omega) | (cases h; done) | skip) | refine And.intro (by omega) ?_ | refine Exists.intro _ (And.intro (by first | exact And.intro rfl rfl | exact Pl.den (by repeat constructor) | with_reducible rfl | exact cast_succ _ | assumption | exact (Int.toNat_of_nonneg (by omega)).symm | rfl) ?_) | refine hD _ _ ?_ | refine hL _ _ ?_ | (intro h; (try simp only [n1, n2, n3, n4, n5, n6] at h); first | (exfalso; omega) | (cases h; done) | skip)) <;> (conv => whnf))
    refine draw_opaque fun KD hD => ?_
    refine draw_all tok (by kernel_rfl) [.any 0, .any 1, .any 2, .any 4, .any 5, .any 6, .any 8, .load 3, .one 7, .one 9, .any 10, .any 11, .any 12, .any 13, .last 14, .any 15] [14] (by kernel_rfl) rfl rfl (by repeat' (first | exact trivial | refine And.intro rfl ?_)) ?_
    conv => whnf
    repeat' ((first | refine And.intro (by repeat' first | exact trivial | refine And.intro rfl ?_) (And.intro (by first | exact fun _ h => h | exact fun _ => List.mem_cons_of_mem _ | exact fun _ => List.mem_append_right _) ?_) | (refine And.intro (fun h => ?_) (fun h => ?_) <;> (try simp only [n1, n2, n3, n4, n5, n6] at h) <;> first | (exfalso; omega) | (cases h; done) | skip) | refine And.intro (by omega) ?_ | refine Exists.intro _ (And.intro (by first | exact And.intro rfl rfl | exact Pl.den (by repeat constructor) | with_reducible rfl | exact cast_succ _ | assumption | exact (Int.toNat_of_nonneg (by omega)).symm | rfl) ?_) | refine hD _ _ ?_ | refine hL _ _ ?_ | (intro h; (try simp only [n1, n2, n3, n4, n5, n6] at h); first | (exfalso; omega) | (cases h; done) | skip)) <;> (conv => whnf))
    refine Tri.use (tMore fx t.t0 (x.limb t.i) y.a 0 h0 hlim hy.a (by decide)) [] rfl (fun _ _ _ => rfl) trivial (fun f hf => by first | exact hf | cases hf) (fun r0 hr0 => ?_)
    have lr0 := hr0.1
    have kr0 := hr0.2.1
    have er0 := hr0.2.2
    clear hr0
    try simp only at lr0 kr0 er0
    conv => whnf
    repeat' ((first | refine And.intro (by repeat' first | exact trivial | refine And.intro rfl ?_) (And.intro (by first | exact fun _ h => h | exact fun _ => List.mem_cons_of_mem _ | exact fun _ => List.mem_append_right _) ?_) | (refine And.intro (fun h => ?_) (fun h => ?_) <;> (try simp only [n1, n2, n3, n4, n5, n6] at h) <;> first | (exfalso; omega) | (cases h; done) | skip) | refine And.intro (by omega) ?_ | refine Exists.intro _ (And.intro (by first | exact And.intro rfl rfl | exact Pl.den (by repeat constructor) | with_reducible rfl | exact cast_succ _ | assumption | exact (Int.toNat_of_nonneg (by omega)).symm | rfl) ?_) | refine hD _ _ ?_ | refine hL _ _ ?_ | (intro h; (try simp only [n1, n2, n3, n4, n5, n6] at h); first | (exfalso; omega) | (cases h; done) | skip)) <;> (conv => whnf))
    refine round_next tok ?_
    conv => whnf
    repeat' ((first | refine And.intro (by repeat' first | exact trivial | refine And.intro rfl ?_) (And.intro (by first | exact fun _ h => h | exact fun _ => List.mem_cons_of_mem _ | exact fun _ => List.mem_append_right _) ?_) | (refine And.intro (fun h => ?_) (fun h => ?_) <;> (try simp only [n1, n2, n3, n4, n5, n6] at h) <;> first | (exfalso; omega) | (cases h; done) | skip) | refine And.intro (by omega) ?_ | refine Exists.intro _ (And.intro (by first | exact And.intro rfl rfl | exact Pl.den (by repeat constructor) | with_reducible rfl | exact cast_succ _ | assumption | exact (Int.toNat_of_nonneg (by omega)).symm | rfl) ?_) | refine hD _ _ ?_ | refine hL _ _ ?_ | (intro h; (try simp only [n1, n2, n3, n4, n5, n6] at h); first | (exfalso; omega) | (cases h; done) | skip)) <;> (conv => whnf))
    refine draw_opaque fun KD hD => ?_
    refine draw_all tok (by kernel_rfl) [.any 0, .any 1, .any 2, .any 4, .any 5, .any 6, .any 8, .load 3, .one 7, .one 9, .any 10, .any 11, .any 12, .any 13, .last 14, .any 15] [14] (by kernel_rfl) rfl rfl (by repeat' (first | exact trivial | refine And.intro rfl ?_)) ?_
    conv => whnf
    repeat' ((first | refine And.intro (by repeat' first | exact trivial | refine And.intro rfl ?_) (And.intro (by first | exact fun _ h => h | exact fun _ => List.mem_cons_of_mem _ | exact fun _ => List.mem_append_right _) ?_) | (refine And.intro (fun h => ?_) (fun h => ?_) <;> (try simp only [n1, n2, n3, n4, n5, n6] at h) <;> first | (exfalso; omega) | (cases h; done) | skip) | refine And.intro (by omega) ?_ | refine Exists.intro _ (And.intro (by first | exact And.intro rfl rfl | exact Pl.den (by repeat constructor) | with_reducible rfl | exact cast_succ _ | assumption | exact (Int.toNat_of_nonneg (by omega)).symm | rfl) ?_) | refine hD _ _ ?_ | refine hL _ _ ?_ | (intro h; (try simp only [n1, n2, n3, n4, n5, n6] at h); first | (exfalso; omega) | (cases h; done) | skip)) <;> (conv => whnf))
    refine Tri.use (tMore fx t.t1 (x.limb t.i) y.b r0.2 h1 hlim hy.b kr0) [] rfl (fun _ _ _ => rfl) trivial (fun f hf => by first | exact hf | cases hf) (fun r1 hr1 => ?_)
    have lr1 := hr1.1
    have kr1 := hr1.2.1
    have er1 := hr1.2.2
    clear hr1
    try simp only at lr1 kr1 er1
    conv => whnf
    repeat' ((first | refine And.intro (by repeat' first | exact trivial | refine And.intro rfl ?_) (And.intro (by first | exact fun _ h => h | exact fun _ => List.mem_cons_of_mem _ | exact fun _ => List.mem_append_right _) ?_) | (refine And.intro (fun h => ?_) (fun h => ?_) <;> (try simp only [n1, n2, n3, n4, n5, n6] at h) <;> first | (exfalso; omega) | (cases h; done) | skip) | refine And.intro (by omega) ?_ | refine Exists.intro _ (And.intro (by first | exact And.intro rfl rfl | exact Pl.den (by repeat constructor) | with_reducible rfl | exact cast_succ _ | assumption | exact (Int.toNat_of_nonneg (by omega)).symm | rfl) ?_) | refine hD _ _ ?_ | refine hL _ _ ?_ | (intro h; (try simp only [n1, n2, n3, n4, n5, n6] at h); first | (exfalso; omega) | (cases h; done) | skip)) <;> (conv => whnf))
    refine round_next tok ?_
    conv => whnf
    repeat' ((first | refine And.intro (by repeat' first | exact trivial | refine And.intro rfl ?_) (And.intro (by first | exact fun _ h => h | exact fun _ => List.mem_cons_of_mem _ | exact fun _ => List.mem_append_right _) ?_) | (refine And.intro (fun h => ?_) (fun h => ?_) <;> (try simp only [n1, n2, n3, n4, n5, n6] at h) <;> first | (exfalso; omega) | (cases h; done) | skip) | refine And.intro (by omega) ?_ | refine Exists.intro _ (And.intro (by first | exact And.intro rfl rfl | exact Pl.den (by repeat constructor) | with_reducible rfl | exact cast_succ _ | assumption | exact (Int.toNat_of_nonneg (by omega)).symm | rfl) ?_) | refine hD _ _ ?_ | refine hL _ _ ?_ | (intro h; (try simp only [n1, n2, n3, n4, n5, n6] at h); first | (exfalso; omega) | (cases h; done) | skip)) <;> (conv => whnf))
    refine draw_opaque fun KD hD => ?_
    refine draw_all tok (by kernel_rfl) [.any 0, .any 1, .any 2, .any 4, .any 5, .any 6, .any 8, .load 3, .one 7, .one 9, .any 10, .any 11, .any 12, .any 13, .last 14, .any 15] [14] (by kernel_rfl) rfl rfl (by repeat' (first | exact trivial | refine And.intro rfl ?_)) ?_
    conv => whnf
    repeat' ((first | refine And.intro (by repeat' first | exact trivial | refine And.intro rfl ?_) (And.intro (by first | exact fun _ h => h | exact fun _ => List.mem_cons_of_mem _ | exact fun _ => List.mem_append_right _) ?_) | (refine And.intro (fun h => ?_) (fun h => ?_) <;> (try simp only [n1, n2, n3, n4, n5, n6] at h) <;> first | (exfalso; omega) | (cases h; done) | skip) | refine And.intro (by omega) ?_ | refine Exists.intro _ (And.intro (by first | exact And.intro rfl rfl | exact Pl.den (by repeat constructor) | with_reducible rfl | exact cast_succ _ | assumption | exact (Int.toNat_of_nonneg (by omega)).symm | rfl) ?_) | refine hD _ _ ?_ | refine hL _ _ ?_ | (intro h; (try simp only [n1, n2, n3, n4, n5, n6] at h); first | (exfalso; omega) | (cases h; done) | skip)) <;> (conv => whnf))
    refine Tri.use (tMore fx t.t2 (x.limb t.i) y.c r1.2 h2 hlim hy.c kr1) [] rfl (fun _ _ _ => rfl) trivial (fun f hf => by first | exact hf | cases hf) (fun r2 hr2 => ?_)
    have lr2 := hr2.1
    have kr2 := hr2.2.1
    have er2 := hr2.2.2
    clear hr2
    try simp only at lr2 kr2 er2
    conv => whnf
    repeat' ((first | refine And.intro (by repeat' first | exact trivial | refine And.intro rfl ?_) (And.intro (by first | exact fun _ h => h | exact fun _ => List.mem_cons_of_mem _ | exact fun _ => List.mem_append_right _) ?_) | (refine And.intro (fun h => ?_) (fun h => ?_) <;> (try simp only [n1, n2, n3, n4, n5, n6] at h) <;> first | (exfalso; omega) | (cases h; done) | skip) | refine And.intro (by omega) ?_ | refine Exists.intro _ (And.intro (by first | exact And.intro rfl rfl | exact Pl.den (by repeat constructor) | with_reducible rfl | exact cast_succ _ | assumption | exact (Int.toNat_of_nonneg (by omega)).symm | rfl) ?_) | refine hD _ _ ?_ | refine hL _ _ ?_ | (intro h; (try simp only [n1, n2, n3, n4, n5, n6] at h); first | (exfalso; omega) | (cases h; done) | skip)) <;> (conv => whnf))
    refine round_next tok ?_
    conv => whnf
    repeat' ((first | refine And.intro (by repeat' first | exact trivial | refine And.intro rfl ?_) (And.intro (by first | exact fun _ h => h | exact fun _ => List.mem_cons_of_mem _ | exact fun _ => List.mem_append_right _) ?_) | (refine And.intro (fun h => ?_) (fun h => ?_) <;> (try simp only [n1, n2, n3, n4, n5, n6] at h) <;> first | (exfalso; omega) | (cases h; done) | skip) | refine And.intro (by omega) ?_ | refine Exists.intro _ (And.intro (by first | exact And.intro rfl rfl | exact Pl.den (by repeat constructor) | with_reducible rfl | exact cast_succ _ | assumption | exact (Int.toNat_of_nonneg (by omega)).symm | rfl) ?_) | refine hD _ _ ?_ | refine hL _ _ ?_ | (intro h; (try simp only [n1, n2, n3, n4, n5, n6] at h); first | (exfalso; omega) | (cases h; done) | skip)) <;> (conv => whnf))
    refine draw_opaque fun KD hD => ?_
    refine draw_all tok (by kernel_rfl) [.any 0, .any 1, .any 2, .any 4, .any 5, .any 6, .any 8, .load 3, .one 7, .one 9, .any 10, .any 11, .any 12, .any 13, .last 14, .any 15] [14] (by kernel_rfl) rfl rfl (by repeat' (first | exact trivial | refine And.intro rfl ?_)) ?_
    conv => whnf
    repeat' ((first | refine And.intro (by repeat' first | exact trivial | refine And.intro rfl ?_) (And.intro (by first | exact fun _ h => h | exact fun _ => List.mem_cons_of_mem _ | exact fun _ => List.mem_append_right _) ?_) | (refine And.intro (fun h => ?_) (fun h => ?_) <;> (try simp only [n1, n2, n3, n4, n5, n6] at h) <;> first | (exfalso; omega) | (cases h; done) | skip) | refine And.intro (by omega) ?_ | refine Exists.intro _ (And.intro (by first | exact And.intro rfl rfl | exact Pl.den (by repeat constructor) | with_reducible rfl | exact cast_succ _ | assumption | exact (Int.toNat_of_nonneg (by omega)).symm | rfl) ?_) | refine hD _ _ ?_ | refine hL _ _ ?_ | (intro h; (try simp only [n1, n2, n3, n4, n5, n6] at h); first | (exfalso; omega) | (cases h; done) | skip)) <;> (conv => whnf))
    refine Tri.use (tMore fx t.t3 (x.limb t.i) y.d r2.2 h3 hlim hy.d kr2) [] rfl (fun _ _ _ => rfl) trivial (fun f hf => by first | exact hf | cases hf) (fun r3 hr3 => ?_)
    have lr3 := hr3.1
    have kr3 := hr3.2.1
    have er3 := hr3.2.2
    clear hr3
    try simp only at lr3 kr3 er3
    conv => whnf
    repeat' ((first | refine And.intro (by repeat' first | exact trivial | refine And.intro rfl ?_) (And.intro (by first | exact fun _ h => h | exact fun _ => List.mem_cons_of_mem _ | exact fun _ => List.mem_append_right _) ?_) | (refine And.intro (fun h => ?_) (fun h => ?_) <;> (try simp only [n1, n2, n3, n4, n5, n6] at h) <;> first | (exfalso; omega) | (cases h; done) | skip) | refine And.intro (by omega) ?_ | refine Exists.intro _ (And.intro (by first | exact And.intro rfl rfl | exact Pl.den (by repeat constructor) | with_reducible rfl | exact cast_succ _ | assumption | exact (Int.toNat_of_nonneg (by omega)).symm | rfl) ?_) | refine hD _ _ ?_ | refine hL _ _ ?_ | (intro h; (try simp only [n1, n2, n3, n4, n5, n6] at h); first | (exfalso; omega) | (cases h; done) | skip)) <;> (conv => whnf))
    refine round_next tok ?_
    conv => whnf
    repeat' ((first | refine And.intro (by repeat' first | exact trivial | refine And.intro rfl ?_) (And.intro (by first | exact fun _ h => h | exact fun _ => List.mem_cons_of_mem _ | exact fun _ => List.mem_append_right _) ?_) | (refine And.intro (fun h => ?_) (fun h => ?_) <;> (try simp only [n1, n2, n3, n4, n5, n6] at h) <;> first | (exfalso; omega) | (cases h; done) | skip) | refine And.intro (by omega) ?_ | refine Exists.intro _ (And.intro (by first | exact And.intro rfl rfl | exact Pl.den (by repeat constructor) | with_reducible rfl | exact cast_succ _ | assumption | exact (Int.toNat_of_nonneg (by omega)).symm | rfl) ?_) | refine hD _ _ ?_ | refine hL _ _ ?_ | (intro h; (try simp only [n1, n2, n3, n4, n5, n6] at h); first | (exfalso; omega) | (cases h; done) | skip)) <;> (conv => whnf))
    refine Tri.use (tAddC fx t.t4 r3.2 0 (Nat.lt_of_le_of_lt ht4 (by decide)) kr3 (by decide)) [] rfl (fun _ _ _ => by simp only [denL_cons, denL_nil, den, h4]; try rfl) trivial (fun f hf => by first | exact hf | cases hf) (fun r4 hr4 => ?_)
    have lr4 := hr4.1
    have kr4 := hr4.2.1
    have er4 := hr4.2.2
    clear hr4
    try simp only at lr4 kr4 er4
    conv => whnf
    repeat' ((first | refine And.intro (by repeat' first | exact trivial | refine And.intro rfl ?_) (And.intro (by first | exact fun _ h => h | exact fun _ => List.mem_cons_of_mem _ | exact fun _ => List.mem_append_right _) ?_) | (refine And.intro (fun h => ?_) (fun h => ?_) <;> (try simp only [n1, n2, n3, n4, n5, n6] at h) <;> first | (exfalso; omega) | (cases h; done) | skip) | refine And.intro (by omega) ?_ | refine Exists.intro _ (And.intro (by first | exact And.intro rfl rfl | exact Pl.den (by repeat constructor) | with_reducible rfl | exact cast_succ _ | assumption | exact (Int.toNat_of_nonneg (by omega)).symm | rfl) ?_) | refine hD _ _ ?_ | refine hL _ _ ?_ | (intro h; (try simp only [n1, n2, n3, n4, n5, n6] at h); first | (exfalso; omega) | (cases h; done) | skip)) <;> (conv => whnf))
    obtain ⟨q, hq, hql, hqe⟩ : ∃ q : Nat, IntKind.u64.wrap ((r0.1 : Int) * (M.inv : Int)) = (q : Int) ∧ q < 18446744073709551616 ∧ q = r0.1 * M.inv % 18446744073709551616 := ⟨_, by rw [Word.mulN, Word.wrapM], Nat.mod_lt _ (by decide), rfl⟩
    refine Tri.use (tMore fx r0.1 q M.m.a 0 lr0 hql hM.m.a (by decide)) [] rfl (fun _ _ _ => by simp only [denL_cons, denL_nil, den, hq]; try rfl) trivial (fun f hf => by first | exact hf | cases hf) (fun d0 hd0 => ?_)
    have ld0 := hd0.1
    have kd0 := hd0.2.1
    have ed0 := hd0.2.2
    clear hd0
    try simp only at ld0 kd0 ed0
    have hw0 := mont_low hM.neg ld0 (by rw [← hqe]; exact ed0)
    clear hqe
    conv => whnf
    repeat' ((first | refine And.intro (by repeat' first | exact trivial | refine And.intro rfl ?_) (And.intro (by first | exact fun _ h => h | exact fun _ => List.mem_cons_of_mem _ | exact fun _ => List.mem_append_right _) ?_) | (refine And.intro (fun h => ?_) (fun h => ?_) <;> (try simp only [n1, n2, n3, n4, n5, n6] at h) <;> first | (exfalso; omega) | (cases h; done) | skip) | refine And.intro (by omega) ?_ | refine Exists.intro _ (And.intro (by first | exact And.intro rfl rfl | exact Pl.den (by repeat constructor) | with_reducible rfl | exact cast_succ _ | assumption | exact (Int.toNat_of_nonneg (by omega)).symm | rfl) ?_) | refine hD _ _ ?_ | refine hL _ _ ?_ | (intro h; (try simp only [n1, n2, n3, n4, n5, n6] at h); first | (exfalso; omega) | (cases h; done) | skip)) <;> (conv => whnf))
    refine loop_opaque fun KL hL => ?_
    refine loop_rounds 4 (round_next tok ?_)
    conv => whnf
    repeat' ((first | refine And.intro (by repeat' first | exact trivial | refine And.intro rfl ?_) (And.intro (by first | exact fun _ h => h | exact fun _ => List.mem_cons_of_mem _ | exact fun _ => List.mem_append_right _) ?_) | (refine And.intro (fun h => ?_) (fun h => ?_) <;> (try simp only [n1, n2, n3, n4, n5, n6] at h) <;> first | (exfalso; omega) | (cases h; done) | skip) | refine And.intro (by omega) ?_ | refine Exists.intro _ (And.intro (by first | exact And.intro rfl rfl | exact Pl.den (by repeat constructor) | with_reducible rfl | exact cast_succ _ | assumption | exact (Int.toNat_of_nonneg (by omega)).symm | rfl) ?_) | refine hD _ _ ?_ | refine hL _ _ ?_ | (intro h; (try simp only [n1, n2, n3, n4, n5, n6] at h); first | (exfalso; omega) | (cases h; done) | skip)) <;> (conv => whnf))
    refine draw_opaque fun KD hD => ?_
    refine draw_all tok (by kernel_rfl) [.any 0, .any 1, .any 2, .any 3, .any 5, .any 6, .any 7, .any 8, .any 10, .load 4, .one 9, .one 11, .any 12, .any 13, .any 14, .any 15, .last 16, .any 17] [16] (by kernel_rfl) rfl rfl (by repeat' (first | exact trivial | refine And.intro rfl ?_)) ?_
    conv => whnf
    repeat' ((first | refine And.intro (by repeat' first | exact trivial | refine And.intro rfl ?_) (And.intro (by first | exact fun _ h => h | exact fun _ => List.mem_cons_of_mem _ | exact fun _ => List.mem_append_right _) ?_) | (refine And.intro (fun h => ?_) (fun h => ?_) <;> (try simp only [n1, n2, n3, n4, n5, n6] at h) <;> first | (exfalso; omega) | (cases h; done) | skip) | refine And.intro (by omega) ?_ | refine Exists.intro _ (And.intro (by first | exact And.intro rfl rfl | exact Pl.den (by repeat constructor) | with_reducible rfl | exact cast_succ _ | assumption | exact (Int.toNat_of_nonneg (by omega)).symm | rfl) ?_) | refine hD _ _ ?_ | refine hL _ _ ?_ | (intro h; (try simp only [n1, n2, n3, n4, n5, n6] at h); first | (exfalso; omega) | (cases h; done) | skip)) <;> (conv => whnf))
    refine Tri.use (tMore fx r1.1 q M.m.b d0.2 lr1 hql hM.m.b kd0) [] rfl (fun _ _ _ => by simp only [denL_cons, denL_nil, den, hq]; try rfl) trivial (fun f hf => by first | exact hf | cases hf) (fun d1 hd1 => ?_)
    have ld1 := hd1.1
    have kd1 := hd1.2.1
    have ed1 := hd1.2.2
    clear hd1
    try simp only at ld1 kd1 ed1
    conv => whnf
    repeat' ((first | refine And.intro (by repeat' first | exact trivial | refine And.intro rfl ?_) (And.intro (by first | exact fun _ h => h | exact fun _ => List.mem_cons_of_mem _ | exact fun _ => List.mem_append_right _) ?_) | (refine And.intro (fun h => ?_) (fun h => ?_) <;> (try simp only [n1, n2, n3, n4, n5, n6] at h) <;> first | (exfalso; omega) | (cases h; done) | skip) | refine And.intro (by omega) ?_ | refine Exists.intro _ (And.intro (by first | exact And.intro rfl rfl | exact Pl.den (by repeat constructor) | with_reducible rfl | exact cast_succ _ | assumption | exact (Int.toNat_of_nonneg (by omega)).symm | rfl) ?_) | refine hD _ _ ?_ | refine hL _ _ ?_ | (intro h; (try simp only [n1, n2, n3, n4, n5, n6] at h); first | (exfalso; omega) | (cases h; done) | skip)) <;> (conv => whnf))
    refine round_next tok ?_
    conv => whnf
    repeat' ((first | refine And.intro (by repeat' first | exact trivial | refine And.intro rfl ?_) (And.intro (by first | exact fun _ h => h | exact fun _ => List.mem_cons_of_mem _ | exact fun _ => List.mem_append_right _) ?_) | (refine And.intro (fun h => ?_) (fun h => ?_) <;> (try simp only [n1, n2, n3, n4, n5, n6] at h) <;> first | (exfalso; omega) | (cases h; done) | skip) | refine And.intro (by omega) ?_ | refine Exists.intro _ (And.intro (by first | exact And.intro rfl rfl | exact Pl.den (by repeat constructor) | with_reducible rfl | exact cast_succ _ | assumption | exact (Int.toNat_of_nonneg (by omega)).symm | rfl) ?_) | refine hD _ _ ?_ | refine hL _ _ ?_ | (intro h; (try simp only [n1, n2, n3, n4, n5, n6] at h); first | (exfalso; omega) | (cases h; done) | skip)) <;> (conv => whnf))
    refine draw_opaque fun KD hD => ?_
    refine draw_all tok (by kernel_rfl) [.any 0, .any 1, .any 2, .any 3, .any 5, .any 6, .any 7, .any 8, .any 10, .load 4, .one 9, .one 11, .any 12, .any 13, .any 14, .any 15, .last 16, .any 17] [16] (by kernel_rfl) rfl rfl (by repeat' (first | exact trivial | refine And.intro rfl ?_)) ?_
    conv => whnf
    repeat' ((first | refine And.intro (by repeat' first | exact trivial | refine And.intro rfl ?_) (And.intro (by first | exact fun _ h => h | exact fun _ => List.mem_cons_of_mem _ | exact fun _ => List.mem_append_right _) ?_) | (refine And.intro (fun h => ?_) (fun h => ?_) <;> (try simp only [n1, n2, n3, n4, n5, n6] at h) <;> first | (exfalso; omega) | (cases h; done) | skip) | refine And.intro (by omega) ?_ | refine Exists.intro _ (And.intro (by first | exact And.intro rfl rfl | exact Pl.den (by repeat constructor) | with_reducible rfl | exact cast_succ _ | assumption | exact (Int.toNat_of_nonneg (by omega)).symm | rfl) ?_) | refine hD _ _ ?_ | refine hL _ _ ?_ | (intro h; (try simp only [n1, n2, n3, n4, n5, n6] at h); first | (exfalso; omega) | (cases h; done) | skip)) <;> (conv => whnf))
    refine Tri.use (tMore fx r2.1 q M.m.c d1.2 lr2 hql hM.m.c kd1) [] rfl (fun _ _ _ => by simp only [denL_cons, denL_nil, den, hq]; try rfl) trivial (fun f hf => by first | exact hf | cases hf) (fun d2 hd2 => ?_)
    have ld2 := hd2.1
    have kd2 := hd2.2.1
    have ed2 := hd2.2.2
    clear hd2
    try simp only at ld2 kd2 ed2
    conv => whnf
    repeat' ((first | refine And.intro (by repeat' first | exact trivial | refine And.intro rfl ?_) (And.intro (by first | exact fun _ h => h | exact fun _ => List.mem_cons_of_mem _ | exact fun _ => List.mem_append_right _) ?_) | (refine And.intro (fun h => ?_) (fun h => ?_) <;> (try simp only [n1, n2, n3, n4, n5, n6] at h) <;> first | (exfalso; omega) | (cases h; done) | skip) | refine And.intro (by omega) ?_ | refine Exists.intro _ (And.intro (by first | exact And.intro rfl rfl | exact Pl.den (by repeat constructor) | with_reducible rfl | exact cast_succ _ | assumption | exact (Int.toNat_of_nonneg (by omega)).symm | rfl) ?_) | refine hD _ _ ?_ | refine hL _ _ ?_ | (intro h; (try simp only [n1, n2, n3, n4, n5, n6] at h); first | (exfalso; omega) | (cases h; done) | skip)) <;> (conv => whnf))
    refine round_next tok ?_
    conv => whnf
    repeat' ((first | refine And.intro (by repeat' first | exact trivial | refine And.intro rfl ?_) (And.intro (by first | exact fun _ h => h | exact fun _ => List.mem_cons_of_mem _ | exact fun _ => List.mem_append_right _) ?_) | (refine And.intro (fun h => ?_) (fun h => ?_) <;> (try simp only [n1, n2, n3, n4, n5, n6] at h) <;> first | (exfalso; omega) | (cases h; done) | skip) | refine And.intro (by omega) ?_ | refine Exists.intro _ (And.intro (by first | exact And.intro rfl rfl | exact Pl.den (by repeat constructor) | with_reducible rfl | exact cast_succ _ | assumption | exact (Int.toNat_of_nonneg (by omega)).symm | rfl) ?_) | refine hD _ _ ?_ | refine hL _ _ ?_ | (intro h; (try simp only [n1, n2, n3, n4, n5, n6] at h); first | (exfalso; omega) | (cases h; done) | skip)) <;> (conv => whnf))
    refine draw_opaque fun KD hD => ?_
    refine draw_all tok (by kernel_rfl) [.any 0, .any 1, .any 2, .any 3, .any 5, .any 6, .any 7, .any 8, .any 10, .load 4, .one 9, .one 11, .any 12, .any 13, .any 14, .any 15, .last 16, .any 17] [16] (by kernel_rfl) rfl rfl (by repeat' (first | exact trivial | refine And.intro rfl ?_)) ?_
    conv => whnf
    repeat' ((first | refine And.intro (by repeat' first | exact trivial | refine And.intro rfl ?_) (And.intro (by first | exact fun _ h => h | exact fun _ => List.mem_cons_of_mem _ | exact fun _ => List.mem_append_right _) ?_) | (refine And.intro (fun h => ?_) (fun h => ?_) <;> (try simp only [n1, n2, n3, n4, n5, n6] at h) <;> first | (exfalso; omega) | (cases h; done) | skip) | refine And.intro (by omega) ?_ | refine Exists.intro _ (And.intro (by first | exact And.intro rfl rfl | exact Pl.den (by repeat constructor) | with_reducible rfl | exact cast_succ _ | assumption | exact (Int.toNat_of_nonneg (by omega)).symm | rfl) ?_) | refine hD _ _ ?_ | refine hL _ _ ?_ | (intro h; (try simp only [n1, n2, n3, n4, n5, n6] at h); first | (exfalso; omega) | (cases h; done) | skip)) <;> (conv => whnf))
    refine Tri.use (tMore fx r3.1 q M.m.d d2.2 lr3 hql hM.m.d kd2) [] rfl (fun _ _ _ => by simp only [denL_cons, denL_nil, den, hq]; try rfl) trivial (fun f hf => by first | exact hf | cases hf) (fun d3 hd3 => ?_)
    have ld3 := hd3.1
    have kd3 := hd3.2.1
    have ed3 := hd3.2.2
    clear hd3
    try simp only at ld3 kd3 ed3
    conv => whnf
    repeat' ((first | refine And.intro (by repeat' first | exact trivial | refine And.intro rfl ?_) (And.intro (by first | exact fun _ h => h | exact fun _ => List.mem_cons_of_mem _ | exact fun _ => List.mem_append_right _) ?_) | (refine And.intro (fun h => ?_) (fun h => ?_) <;> (try simp only [n1, n2, n3, n4, n5, n6] at h) <;> first | (exfalso; omega) | (cases h; done) | skip) | refine And.intro (by omega) ?_ | refine Exists.intro _ (And.intro (by first | exact And.intro rfl rfl | exact Pl.den (by repeat constructor) | with_reducible rfl | exact cast_succ _ | assumption | exact (Int.toNat_of_nonneg (by omega)).symm | rfl) ?_) | refine hD _ _ ?_ | refine hL _ _ ?_ | (intro h; (try simp only [n1, n2, n3, n4, n5, n6] at h); first | (exfalso; omega) | (cases h; done) | skip)) <;> (conv => whnf))
    refine round_next tok ?_
    conv => whnf
    repeat' ((first | refine And.intro (by repeat' first | exact trivial | refine And.intro rfl ?_) (And.intro (by first | exact fun _ h => h | exact fun _ => List.mem_cons_of_mem _ | exact fun _ => List.mem_append_right _) ?_) | (refine And.intro (fun h => ?_) (fun h => ?_) <;> (try simp only [n1, n2, n3, n4, n5, n6] at h) <;> first | (exfalso; omega) | (cases h; done) | skip) | refine And.intro (by omega) ?_ | refine Exists.intro _ (And.intro (by first | exact And.intro rfl rfl | exact Pl.den (by repeat constructor) | with_reducible rfl | exact cast_succ _ | assumption | exact (Int.toNat_of_nonneg (by omega)).symm | rfl) ?_) | refine hD _ _ ?_ | refine hL _ _ ?_ | (intro h; (try simp only [n1, n2, n3, n4, n5, n6] at h); first | (exfalso; omega) | (cases h; done) | skip)) <;> (conv => whnf))
    refine Tri.use (tAddC fx r4.1 d3.2 0 lr4 kd3 (by decide)) [] rfl (fun _ _ _ => rfl) trivial (fun f hf => by first | exact hf | cases hf) (fun f4 hf4 => ?_)
    have lf4 := hf4.1
    have kf4 := hf4.2.1
    have ef4 := hf4.2.2
    clear hf4
    try simp only at lf4 kf4 ef4
    conv => whnf
    repeat' ((first | refine And.intro (by repeat' first | exact trivial | refine And.intro rfl ?_) (And.intro (by first | exact fun _ h => h | exact fun _ => List.mem_cons_of_mem _ | exact fun _ => List.mem_append_right _) ?_) | (refine And.intro (fun h => ?_) (fun h => ?_) <;> (try simp only [n1, n2, n3, n4, n5, n6] at h) <;> first | (exfalso; omega) | (cases h; done) | skip) | refine And.intro (by omega) ?_ | refine Exists.intro _ (And.intro (by first | exact And.intro rfl rfl | exact Pl.den (by repeat constructor) | with_reducible rfl | exact cast_succ _ | assumption | exact (Int.toNat_of_nonneg (by omega)).symm | rfl) ?_) | refine hD _ _ ?_ | refine hL _ _ ?_ | (intro h; (try simp only [n1, n2, n3, n4, n5, n6] at h); first | (exfalso; omega) | (cases h; done) | skip)) <;> (conv => whnf))
    have hk := round_eq er0 er1 er2 er3 er4 hw0 ed0 ed1 ed2 ed3 ef4
    rw [← mul_val, ← mul_val] at hk
    have hw5 : IntKind.u64.wrap ((r4.2 : Int) + (f4.2 : Int)) = ((r4.2 + f4.2 : Nat) : Int) := by
      rw [Word.addN]; exact Word.wrapN _ (Nat.lt_of_le_of_lt (Nat.add_le_add kr4 kf4) (by decide))
    refine ⟨⟨t.i + 1, d1.1, d2.1, d3.1, f4.1, r4.2 + f4.2, IntKind.u64.wrap ((r4.2 : Int) + (f4.2 : Int)), (r4.2 : Int)⟩, [0, 1, 2, 3, 4], ⟨⟨hi4, ld1, ld2, ld3, lf4, hw5, round_lt hlim hql hlt hk, ?_⟩, ?_⟩, ⟨rfl, ⟨SEq.nrm rfl rfl, SEq.nrm rfl rfl, SEq.nrm rfl rfl, SEq.nrm rfl rfl, SEq.nrm rfl rfl, (fun _ _ _ => rfl), trivial⟩, ⟨OSub.ren rfl rfl, OSub.ren rfl rfl, OSub.ren rfl rfl, OSub.ren rfl rfl, OSub.ren rfl rfl, trivial⟩, fun f hf => by simpa using hf⟩⟩
    · exact mont_round hk heq (low_succ x hi4)
    · show 4 - (t.i + 1) < 4 - t.i
      omega
  · have hi4 : t.i = 4 := by omega
    rw [hi4] at heq
    rw [show (18446744073709551616 : Nat) ^ 4 = 115792089237316195423570985008687907853269984665640564039457584007913129639936 from by decide, show x.low 4 = x.val from rfl] at heq
    obtain ⟨s, hs, hsv, hsd⟩ : ∃ s : N4, s.Ok ∧ s.val + 115792089237316195423570985008687907853269984665640564039457584007913129639936 * t.t4 = t.val ∧ s = ⟨t.t0, t.t1, t.t2, t.t3⟩ := ⟨_, ⟨h0, h1, h2, h3⟩, by simp only [N4.val, T5.val], rfl⟩
    have hsl := N4.val_lt hs
    refine Tri.use (tLSub fx s M.m hs hM.m) [] rfl (fun _ _ _ => by rw [hsd]; rfl) trivial (fun f hf => by first | exact hf | cases hf) (fun z hz => ?_)
    have hz1 := hz.1
    have hz2 := hz.2
    clear hz
    have hzl := N4.val_lt hz1
    have hlt2 : s.val + 115792089237316195423570985008687907853269984665640564039457584007913129639936 * t.t4 < 2 * M.m.val := by omega
    conv => whnf
    repeat' ((first | refine And.intro (by repeat' first | exact trivial | refine And.intro rfl ?_) (And.intro (by first | exact fun _ h => h | exact fun _ => List.mem_cons_of_mem _ | exact fun _ => List.mem_append_right _) ?_) | (refine And.intro (fun h => ?_) (fun h => ?_) <;> (try simp only [n1, n2, n3, n4, n5, n6] at h) <;> first | (exfalso; omega) | (cases h; done) | skip) | refine And.intro (by omega) ?_ | refine Exists.intro _ (And.intro (by first | exact And.intro rfl rfl | exact Pl.den (by repeat constructor) | with_reducible rfl | exact cast_succ _ | assumption | exact (Int.toNat_of_nonneg (by omega)).symm | rfl) ?_) | refine hD _ _ ?_ | refine hL _ _ ?_ | (intro h; (try simp only [n1, n2, n3, n4, n5, n6] at h); first | (exfalso; omega) | (cases h; done) | skip)) <;> (conv => whnf))
    · refine Tri.use (tPick fx true z.1 s hz1 hs).one [] rfl (fun _ _ _ => by rw [hsd]; rfl) trivial (fun f hf => by first | exact hf | cases hf) (fun u hu => ?_)
      conv => whnf
      repeat' ((first | refine And.intro (by repeat' first | exact trivial | refine And.intro rfl ?_) (And.intro (by first | exact fun _ h => h | exact fun _ => List.mem_cons_of_mem _ | exact fun _ => List.mem_append_right _) ?_) | (refine And.intro (fun h => ?_) (fun h => ?_) <;> (try simp only [n1, n2, n3, n4, n5, n6] at h) <;> first | (exfalso; omega) | (cases h; done) | skip) | refine And.intro (by omega) ?_ | refine Exists.intro _ (And.intro (by first | exact And.intro rfl rfl | exact Pl.den (by repeat constructor) | with_reducible rfl | exact cast_succ _ | assumption | exact (Int.toNat_of_nonneg (by omega)).symm | rfl) ?_) | refine hD _ _ ?_ | refine hL _ _ ?_ | (intro h; (try simp only [n1, n2, n3, n4, n5, n6] at h); first | (exfalso; omega) | (cases h; done) | skip)) <;> (conv => whnf))
      have hne : t.t4 ≠ 0 := by
        rw [h4] at h
        omega
      obtain ⟨g1, g2⟩ := half_end hsl hzl hlt2 hml hz2 (.inl hne)
      refine ⟨z.1, ⟨hz1, g1, ?_⟩, Ret.noneS rfl (fun _ _ => rfl) (fun g hg => by cases hg)⟩
      rw [← heq, ← hsv, ← g2, Nat.add_mul, Nat.add_mul_mod_self_left]
    · have h40 : t.t4 = 0 := by
        rw [h4] at h
        omega
      refine Tri.use (tPick fx (!z.2) z.1 s hz1 hs).one [] rfl (fun _ _ _ => by rw [hsd]; rfl) trivial (fun f hf => by first | exact hf | cases hf) (fun u hu => ?_)
      conv => whnf
      repeat' ((first | refine And.intro (by repeat' first | exact trivial | refine And.intro rfl ?_) (And.intro (by first | exact fun _ h => h | exact fun _ => List.mem_cons_of_mem _ | exact fun _ => List.mem_append_right _) ?_) | (refine And.intro (fun h => ?_) (fun h => ?_) <;> (try simp only [n1, n2, n3, n4, n5, n6] at h) <;> first | (exfalso; omega) | (cases h; done) | skip) | refine And.intro (by omega) ?_ | refine Exists.intro _ (And.intro (by first | exact And.intro rfl rfl | exact Pl.den (by repeat constructor) | with_reducible rfl | exact cast_succ _ | assumption | exact (Int.toNat_of_nonneg (by omega)).symm | rfl) ?_) | refine hD _ _ ?_ | refine hL _ _ ?_ | (intro h; (try simp only [n1, n2, n3, n4, n5, n6] at h); first | (exfalso; omega) | (cases h; done) | skip)) <;> (conv => whnf))
      cases hv : z.2 with
      | false =>
        obtain ⟨g1, g2⟩ := half_end hsl hzl hlt2 hml hz2 (.inr hv)
        refine ⟨z.1, ⟨hz1, g1, ?_⟩, Ret.noneS rfl (fun _ _ => rfl) (fun g hg => by cases hg)⟩
        rw [← heq, ← hsv, ← g2, Nat.add_mul, Nat.add_mul_mod_self_left]
      | true =>
        rw [hv] at hz2
        simp at hz2
        refine ⟨s, ⟨hs, by omega, ?_⟩, Ret.noneS rfl (fun _ _ => rfl) (fun g hg => by cases hg)⟩
        rw [← heq, ← hsv, h40, Nat.mul_zero, Nat.add_zero]
end Go.Proofs.YtekgjjanikicnaaDoor.Sx
namespace Go.Proofs.YtekgjjanikicnaaDoor.Sx
open Go
set_option maxRecDepth 100000
set_option linter.unusedSimpArgs false
set_option linter.unusedVariables false

theorem mont_mul {a b r1 r m R u sq : Nat} (h1 : (r1 * R) % m = (a * b) % m) (h2 : (r * R) % m = (r1 * sq) % m) (hs : sq = (R * R) % m) (hu : (R * u) % m = 1) (hr : r < m) : r = (a * b) % m := by
  have h3 : (r * R) % m = (a * b * R) % m := by
    rw [h2, hs, Nat.mul_mod_mod, ← Nat.mul_assoc, Nat.mul_mod, h1, ← Nat.mul_mod]
  have h4 : (r * (R * u)) % m = r := by
    rw [Nat.mul_mod, hu, Nat.mul_one, Nat.mod_mod, Nat.mod_eq_of_lt hr]
  have h5 : (a * b * (R * u)) % m = (a * b) % m := by
    rw [Nat.mul_mod, hu, Nat.mul_one, Nat.mod_mod]
  rw [← h5, ← h4, ← Nat.mul_assoc, ← Nat.mul_assoc, Nat.mul_mod, h3, ← Nat.mul_mod]
theorem tMMul (fx : List Fact) (M : Mo) (hM : M.Ok) (x y : N4) (hx : x.Ok) (hy : y.Ok) (hym : y.val < M.m.val) : Tri Tryd.prog 135 [M.sv, x.sv, y.sv] [] 0 fx
    (RetE (α := N4) 0 (fun r => r.Ok ∧ r.val = (x.val * y.val) % M.m.val) (fun r => r.sv) (fun _ => []) 0 (fun _ => [])) := by
  obtain ⟨u0, hu0⟩ := hM.unit
  have hsq : M.sq.val < M.m.val := by rw [hM.sqr]; exact Nat.mod_lt _ (by have := hM.pos; omega)
  refine Tri.of_code tok Tryd.func135 rfl rfl rfl (by decide) rfl (Nat.le_of_ble_eq_true rfl) ?_
  conv => whnf
  repeat' ((first | refine And.intro (by repeat' first | exact trivial | refine And.intro rfl ?_) (And.intro (by first | exact fun _ h => h | exact fun _ => List.mem_cons_of_mem _ | exact fun _ => List.mem_append_right _) ?_) | (refine And.intro (fun h => ?_) (fun h => ?_) <;> (try simp only [n1, n2, n3, n4, n5, n6] at h) <;> first | (exfalso; omega) | (cases h; done) | skip) | refine And.intro (by omega) ?_ | refine Exists.intro _ (And.intro (by first | exact And.intro rfl rfl | exact Pl.den (by repeat constructor) | with_reducible rfl | exact cast_succ _ | assumption | exact (Int.toNat_of_nonneg (by omega)).symm | rfl) ?_) | refine hD _ _ ?_ | refine hL _ _ ?_ | (intro h; (try simp only [n1, n2, n3, n4, n5, n6] at h); first | (exfalso; omega) | (cases h; done) | skip)) <;> (conv => whnf))
  refine draw_opaque fun KD hD => ?_
  refine draw_all tok (by kernel_rfl) [.any 5, .load 0, .load 1, .load 2, .load 3, .load 6, .one 4, .one 7, .last 8] [8] (by kernel_rfl) rfl rfl (by repeat' (first | exact trivial | refine And.intro rfl ?_)) ?_
  conv => whnf
  repeat' ((first | refine And.intro (by repeat' first | exact trivial | refine And.intro rfl ?_) (And.intro (by first | exact fun _ h => h | exact fun _ => List.mem_cons_of_mem _ | exact fun _ => List.mem_append_right _) ?_) | (refine And.intro (fun h => ?_) (fun h => ?_) <;> (try simp only [n1, n2, n3, n4, n5, n6] at h) <;> first | (exfalso; omega) | (cases h; done) | skip) | refine And.intro (by omega) ?_ | refine Exists.intro _ (And.intro (by first | exact And.intro rfl rfl | exact Pl.den (by repeat constructor) | with_reducible rfl | exact cast_succ _ | assumption | exact (Int.toNat_of_nonneg (by omega)).symm | rfl) ?_) | refine hD _ _ ?_ | refine hL _ _ ?_ | (intro h; (try simp only [n1, n2, n3, n4, n5, n6] at h); first | (exfalso; omega) | (cases h; done) | skip)) <;> (conv => whnf))
  refine Tri.use (tHalf fx M hM x y hx hy hym) [] rfl (fun _ _ _ => rfl) trivial (fun f hf => by first | exact hf | cases hf) (fun r1 hr1 => ?_)
  have g1 := hr1.1
  have g2 := hr1.2.2
  clear hr1
  conv => whnf
  repeat' ((first | refine And.intro (by repeat' first | exact trivial | refine And.intro rfl ?_) (And.intro (by first | exact fun _ h => h | exact fun _ => List.mem_cons_of_mem _ | exact fun _ => List.mem_append_right _) ?_) | (refine And.intro (fun h => ?_) (fun h => ?_) <;> (try simp only [n1, n2, n3, n4, n5, n6] at h) <;> first | (exfalso; omega) | (cases h; done) | skip) | refine And.intro (by omega) ?_ | refine Exists.intro _ (And.intro (by first | exact And.intro rfl rfl | exact Pl.den (by repeat constructor) | with_reducible rfl | exact cast_succ _ | assumption | exact (Int.toNat_of_nonneg (by omega)).symm | rfl) ?_) | refine hD _ _ ?_ | refine hL _ _ ?_ | (intro h; (try simp only [n1, n2, n3, n4, n5, n6] at h); first | (exfalso; omega) | (cases h; done) | skip)) <;> (conv => whnf))
  refine Tri.use (tHalf fx M hM r1 M.sq g1 hM.sq hsq) [] rfl (fun _ _ _ => rfl) trivial (fun f hf => by first | exact hf | cases hf) (fun r hr => ?_)
  have k1 := hr.1
  have k2 := hr.2.1
  have k3 := hr.2.2
  clear hr
  conv => whnf
  repeat' ((first | refine And.intro (by repeat' first | exact trivial | refine And.intro rfl ?_) (And.intro (by first | exact fun _ h => h | exact fun _ => List.mem_cons_of_mem _ | exact fun _ => List.mem_append_right _) ?_) | (refine And.intro (fun h => ?_) (fun h => ?_) <;> (try simp only [n1, n2, n3, n4, n5, n6] at h) <;> first | (exfalso; omega) | (cases h; done) | skip) | refine And.intro (by omega) ?_ | refine Exists.intro _ (And.intro (by first | exact And.intro rfl rfl | exact Pl.den (by repeat constructor) | with_reducible rfl | exact cast_succ _ | assumption | exact (Int.toNat_of_nonneg (by omega)).symm | rfl) ?_) | refine hD _ _ ?_ | refine hL _ _ ?_ | (intro h; (try simp only [n1, n2, n3, n4, n5, n6] at h); first | (exfalso; omega) | (cases h; done) | skip)) <;> (conv => whnf))
  exact ⟨r, ⟨k1, mont_mul g2 k3 hM.sqr hu0 k2⟩, Ret.noneS rfl (fun _ _ => rfl) (fun g hg => by cases hg)⟩
theorem pow_half {a e m k o : Nat} (hk : 1 ≤ k) (ho : o = a ^ (e / 2 ^ k) % m) : (e.testBit (k - 1) = false → (o * o) % m = a ^ (e / 2 ^ (k - 1)) % m) ∧ (e.testBit (k - 1) = true → ((o * o) % m * a) % m = a ^ (e / 2 ^ (k - 1)) % m) := by
  have h2 : e / 2 ^ k = e / 2 ^ (k - 1) / 2 := by
    rw [Nat.div_div_eq_div_mul, ← Nat.pow_succ]; congr 2; omega
  have hoo : (o * o) % m = a ^ (e / 2 ^ k + e / 2 ^ k) % m := by rw [ho, ← Nat.mul_mod, Nat.pow_add]
  rw [Nat.testBit_eq_decide_div_mod_eq]
  refine ⟨fun h => ?_, fun h => ?_⟩
  · have : e / 2 ^ (k - 1) % 2 ≠ 1 := by simpa using h
    rw [hoo]; congr 2; omega
  · have : e / 2 ^ (k - 1) % 2 = 1 := by simpa using h
    rw [hoo, Nat.mod_mul_mod, ← Nat.pow_succ]; congr 2; omega
theorem bitI_one {x i : Nat} : bitI x i = 1 ↔ x.testBit i = true := by
  unfold bitI; split <;> simp_all
structure PwS where
  k : Nat
  o : N4
set_option maxHeartbeats 2000000 in
theorem tMPow (fx : List Fact) (M : Mo) (hM : M.Ok) (x e : N4) (hx : x.Ok) (he : e.Ok) (hxm : x.val < M.m.val) : Tri Tryd.prog 140 [M.sv, x.sv, e.sv] [] 0 fx
    (RetE (α := N4) 0 (fun r => r.Ok ∧ r.val = x.val ^ e.val % M.m.val) (fun r => r.sv) (fun _ => []) 0 (fun _ => [])) := by
  have hpos := hM.pos
  have hel := N4.val_lt he
  refine Tri.of_code tok Tryd.func140 rfl rfl rfl (by decide) rfl (Nat.le_of_ble_eq_true rfl) ?_
  conv => whnf
  repeat' ((first | refine And.intro (by repeat' first | exact trivial | refine And.intro rfl ?_) (And.intro (by first | exact fun _ h => h | exact fun _ => List.mem_cons_of_mem _ | exact fun _ => List.mem_append_right _) ?_) | (refine And.intro (fun h => ?_) (fun h => ?_) <;> (try simp only [n1, n2, n3, n4, n5, n6] at h) <;> first | (exfalso; omega) | (cases h; done) | skip) | refine And.intro (by omega) ?_ | refine Exists.intro _ (And.intro (by first | exact And.intro rfl rfl | exact Pl.den (by repeat constructor) | with_reducible rfl | exact cast_succ _ | assumption | exact (Int.toNat_of_nonneg (by omega)).symm | rfl) ?_) | refine hD _ _ ?_ | refine hL _ _ ?_ | (intro h; (try simp only [n1, n2, n3, n4, n5, n6] at h); first | (exfalso; omega) | (cases h; done) | skip)) <;> (conv => whnf))
  refine loop_by tok (α := PwS) (fun s => ⟨[(4, .p 1 0), (5, .p 2 0), (6, .p 3 0), (7, .fn (.func 135) [M.sv] []), (8, .p 4 0), (9, .v (.int .i64 ((s.k : Int) - 1)))],
    [(4, .cells [.v (.int .u64 (s.o.a : Int)), .v (.int .u64 (s.o.b : Int)), .v (.int .u64 (s.o.c : Int)), .v (.int .u64 (s.o.d : Int))] 24), (3, .cells [.k .u64 0, .k .u64 0, .k .u64 0, .k .u64 0] 24),
    (2, .cells [.v (.int .u64 (e.a : Int)), .v (.int .u64 (e.b : Int)), .v (.int .u64 (e.c : Int)), .v (.int .u64 (e.d : Int))] 24),
    (1, .cells [.v (.int .u64 (x.a : Int)), .v (.int .u64 (x.b : Int)), .v (.int .u64 (x.c : Int)), .v (.int .u64 (x.d : Int))] 24)], 5, fx⟩)
    (fun s => s.k ≤ 256 ∧ s.o.Ok ∧ s.o.val < M.m.val ∧ s.o.val = x.val ^ (e.val / 2 ^ s.k) % M.m.val) (fun s => s.k) ⟨256, ⟨1, 0, 0, 0⟩⟩ [0, 1, 2, 3, 4] ?_ ?_ ?_
  · refine ⟨Nat.le_refl _, ⟨by decide, by decide, by decide, by decide⟩, by simpa [N4.val] using hpos, ?_⟩
    rw [Nat.div_eq_of_lt (by simpa using hel), Nat.pow_zero, Nat.mod_eq_of_lt hpos]; rfl
  · exact ⟨rfl, ⟨SEq.nrm rfl rfl, SEq.nrm rfl rfl, SEq.nrm rfl rfl, (fun _ _ _ => rfl), SEq.nrm rfl rfl, (fun _ _ _ => rfl), trivial⟩, ⟨(fun _ _ _ _ _ _ h => ⟨fun k => (h.1 k), h.2⟩), OSub.ren rfl rfl, OSub.ren rfl rfl, OSub.ren rfl rfl, trivial⟩, fun f hf => hf⟩
  rintro s ⟨hk, ho, hom, hoe⟩
  conv => whnf
  repeat' ((first | refine And.intro (by repeat' first | exact trivial | refine And.intro rfl ?_) (And.intro (by first | exact fun _ h => h | exact fun _ => List.mem_cons_of_mem _ | exact fun _ => List.mem_append_right _) ?_) | (refine And.intro (fun h => ?_) (fun h => ?_) <;> (try simp only [n1, n2, n3, n4, n5, n6] at h) <;> first | (exfalso; omega) | (cases h; done) | skip) | refine And.intro (by omega) ?_ | refine Exists.intro _ (And.intro (by first | exact And.intro rfl rfl | exact Pl.den (by repeat constructor) | with_reducible rfl | exact cast_succ _ | assumption | exact (Int.toNat_of_nonneg (by omega)).symm | rfl) ?_) | refine hD _ _ ?_ | refine hL _ _ ?_ | (intro h; (try simp only [n1, n2, n3, n4, n5, n6] at h); first | (exfalso; omega) | (cases h; done) | skip)) <;> (conv => whnf))
  · refine Tri.use (tMMul fx M hM s.o s.o ho ho hom) [] rfl (fun _ _ _ => rfl) trivial (fun f hf => by first | exact hf | cases hf) (fun o2 ho2 => ?_)
    have g1 := ho2.1
    have g2 := ho2.2
    clear ho2
    have g3 : o2.val < M.m.val := by rw [g2]; exact Nat.mod_lt _ (by omega)
    conv => whnf
    repeat' ((first | refine And.intro (by repeat' first | exact trivial | refine And.intro rfl ?_) (And.intro (by first | exact fun _ h => h | exact fun _ => List.mem_cons_of_mem _ | exact fun _ => List.mem_append_right _) ?_) | (refine And.intro (fun h => ?_) (fun h => ?_) <;> (try simp only [n1, n2, n3, n4, n5, n6] at h) <;> first | (exfalso; omega) | (cases h; done) | skip) | refine And.intro (by omega) ?_ | refine Exists.intro _ (And.intro (by first | exact And.intro rfl rfl | exact Pl.den (by repeat constructor) | with_reducible rfl | exact cast_succ _ | assumption | exact (Int.toNat_of_nonneg (by omega)).symm | rfl) ?_) | refine hD _ _ ?_ | refine hL _ _ ?_ | (intro h; (try simp only [n1, n2, n3, n4, n5, n6] at h); first | (exfalso; omega) | (cases h; done) | skip)) <;> (conv => whnf))
    have hk1 : 1 ≤ s.k := by omega
    have hki : ((s.k : Int) - 1) = ((s.k - 1 : Nat) : Int) := by omega
    obtain ⟨p0, p1⟩ := pow_half hk1 hoe
    refine Tri.use ((tBit fx e he (s.k - 1) (by omega)).one) [] rfl (fun _ _ _ => by simp only [denL_cons, denL_nil, den, hki]; try rfl) trivial (fun f hf => by first | exact hf | cases hf) (fun bb hbb => ?_)
    conv => whnf
    repeat' ((first | refine And.intro (by repeat' first | exact trivial | refine And.intro rfl ?_) (And.intro (by first | exact fun _ h => h | exact fun _ => List.mem_cons_of_mem _ | exact fun _ => List.mem_append_right _) ?_) | (refine And.intro (fun h => ?_) (fun h => ?_) <;> (try simp only [n1, n2, n3, n4, n5, n6] at h) <;> first | (exfalso; omega) | (cases h; done) | skip) | refine And.intro (by omega) ?_ | refine Exists.intro _ (And.intro (by first | exact And.intro rfl rfl | exact Pl.den (by repeat constructor) | with_reducible rfl | exact cast_succ _ | assumption | exact (Int.toNat_of_nonneg (by omega)).symm | rfl) ?_) | refine hD _ _ ?_ | refine hL _ _ ?_ | (intro h; (try simp only [n1, n2, n3, n4, n5, n6] at h); first | (exfalso; omega) | (cases h; done) | skip)) <;> (conv => whnf))
    · refine Tri.use (tMMul fx M hM o2 x g1 hx hxm) [] rfl (fun _ _ _ => rfl) trivial (fun f hf => by first | exact hf | cases hf) (fun o3 ho3 => ?_)
      have g4 := ho3.1
      have g5 := ho3.2
      clear ho3
      conv => whnf
      repeat' ((first | refine And.intro (by repeat' first | exact trivial | refine And.intro rfl ?_) (And.intro (by first | exact fun _ h => h | exact fun _ => List.mem_cons_of_mem _ | exact fun _ => List.mem_append_right _) ?_) | (refine And.intro (fun h => ?_) (fun h => ?_) <;> (try simp only [n1, n2, n3, n4, n5, n6] at h) <;> first | (exfalso; omega) | (cases h; done) | skip) | refine And.intro (by omega) ?_ | refine Exists.intro _ (And.intro (by first | exact And.intro rfl rfl | exact Pl.den (by repeat constructor) | with_reducible rfl | exact cast_succ _ | assumption | exact (Int.toNat_of_nonneg (by omega)).symm | rfl) ?_) | refine hD _ _ ?_ | refine hL _ _ ?_ | (intro h; (try simp only [n1, n2, n3, n4, n5, n6] at h); first | (exfalso; omega) | (cases h; done) | skip)) <;> (conv => whnf))
      have hb := bitI_one.1 h
      refine ⟨⟨s.k - 1, o3⟩, [0, 1, 2, 3, 4], ⟨⟨by simp only; omega, g4, by rw [g5]; exact Nat.mod_lt _ (by omega), ?_⟩, by simp only; omega⟩, ⟨rfl, ⟨SEq.nrm rfl rfl, SEq.nrm rfl rfl, SEq.nrm rfl rfl, (fun _ _ _ => rfl), SEq.nrm rfl rfl, (fun _ _ _ => by simp only [den, hki]), trivial⟩, ⟨OSub.ren rfl rfl, OSub.ren rfl rfl, OSub.ren rfl rfl, OSub.ren rfl rfl, trivial⟩, fun f hf => by simpa using hf⟩⟩
      rw [g5, g2]; exact p1 hb
    · have hb : e.val.testBit (s.k - 1) = false := by
        cases h0 : e.val.testBit (s.k - 1) with
        | false => rfl
        | true => exact absurd (bitI_one.2 h0) h
      refine ⟨⟨s.k - 1, o2⟩, [0, 1, 2, 3, 4], ⟨⟨by simp only; omega, g1, g3, ?_⟩, by simp only; omega⟩, ⟨rfl, ⟨SEq.nrm rfl rfl, SEq.nrm rfl rfl, SEq.nrm rfl rfl, (fun _ _ _ => rfl), SEq.nrm rfl rfl, (fun _ _ _ => by simp only [den, hki]), trivial⟩, ⟨OSub.ren rfl rfl, OSub.ren rfl rfl, OSub.ren rfl rfl, OSub.ren rfl rfl, trivial⟩, fun f hf => by simpa using hf⟩⟩
      rw [g2]; exact p0 hb
  · have hk0 : s.k = 0 := by omega
    refine ⟨s.o, ⟨ho, ?_⟩, Ret.noneS rfl (fun _ _ => rfl) (fun g hg => by cases hg)⟩
    rw [hoe, hk0, Nat.pow_zero, Nat.div_one]
end Go.Proofs.YtekgjjanikicnaaDoor.Sx
