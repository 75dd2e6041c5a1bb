/- What the package-level variables read; the field's functions of the first modulus. -/
import Derived.Test.YtekgjjanikicnaaDoorFe3
import Derived.Test.YtekgjjanikicnaaDoorPm5
import Derived.ChangeKeysEq
namespace Go.Proofs.YtekgjjanikicnaaDoor.Sx
open Go
set_option maxRecDepth 100000
set_option linter.unusedSimpArgs false
set_option linter.unusedVariables false

def M0 : Mo := ⟨⟨18446744073709551615, 4294967295, 0, 18446744069414584321⟩, ⟨3, 18446744056529682431, 18446744073709551614, 21474836477⟩, 1⟩
theorem M0_ok : M0.Ok := ⟨⟨by decide, by decide, by decide, by decide⟩, ⟨by decide, by decide, by decide, by decide⟩, by decide, by decide, by decide, by decide,
  ⟨115792089183396302114378112356516095823261736990586219612555396166510339686400, by decide⟩⟩
/-- What p256.b, p256.one and the first of field.moduli read. -/
def gB : List Value := [.int .u64 4309448131093880907, .int .u64 7285987128567378166, .int .u64 12964664127075681980, .int .u64 6540974713487397863]
def gOne : List Value := [.int .u64 1, .int .u64 0, .int .u64 0, .int .u64 0]
def gM0 : List Value := [.int .u64 18446744073709551615, .int .u64 4294967295, .int .u64 0, .int .u64 18446744069414584321, .int .u64 3, .int .u64 18446744056529682431, .int .u64 18446744073709551614, .int .u64 21474836477, .int .u64 1]
def glob : Fact where
  G := fun k => k = 0 ∨ k = 3
  φ := fun w => (∀ j y, gB[j]? = some y → w.cell? ⟨0, j, none⟩ = some y) ∧ ∀ j y, gM0[j]? = some y → w.cell? ⟨3, j, none⟩ = some y
  loc := fun {w w'} h hk => by
    have e : ∀ b j, (b = 0 ∨ b = 3) → w'.cell? ⟨b, j, none⟩ = w.cell? ⟨b, j, none⟩ := fun b j hb => World.cell?_of_block (w := w) (hk b hb)
    exact ⟨fun j y hj => by rw [e 0 j (.inl rfl)]; exact h.1 j y hj, fun j y hj => by rw [e 3 j (.inr rfl)]; exact h.2 j y hj⟩
def glob1 : Fact where
  G := fun k => k = 1
  φ := fun w => ∀ j y, gOne[j]? = some y → w.cell? ⟨1, j, none⟩ = some y
  loc := fun {w w'} h hk => fun j y hj => by rw [show w'.cell? ⟨1, j, none⟩ = w.cell? ⟨1, j, none⟩ from World.cell?_of_block (w := w) (hk 1 rfl)]; exact h j y hj
theorem glob_b {fx : List Fact} (h : glob ∈ fx) : ∀ j y, gB[j]? = some y → FC fx ((⟨0, 0, none⟩ : Addr).add j) y := fun j y hj => ⟨glob, h, fun w hw => by rw [add_at, Nat.zero_add]; exact hw.1 j y hj⟩
theorem glob_one {fx : List Fact} (h : glob1 ∈ fx) : ∀ j y, gOne[j]? = some y → FC fx ((⟨1, 0, none⟩ : Addr).add j) y := fun j y hj => ⟨glob1, h, fun w hw => by rw [add_at, Nat.zero_add]; exact hw j y hj⟩
theorem glob_m {fx : List Fact} (h : glob ∈ fx) : ∀ j y, gM0[j]? = some y → FC fx ((⟨3, 0, none⟩ : Addr).add j) y := fun j y hj => ⟨glob, h, fun w hw => by rw [add_at, Nat.zero_add]; exact hw.2 j y hj⟩
theorem glob_m' {fx : List Fact} (h : glob ∈ fx) : ∀ j y, gM0[j]? = some y → FC fx (((⟨3, 0, none⟩ : Addr).add 0).add j) y := fun j y hj => ⟨glob, h, fun w hw => by rw [add_at, add_at, Nat.zero_add]; exact hw.2 j y hj⟩
theorem gM0_ok : aggOk ⟨gM0⟩ 9 := ⟨rfl, by decide⟩
theorem tOf (fx : List Fact) (hg : glob ∈ fx) : Tri Tryd.prog 134 [.k .i64 0] [] 0 fx (Ret 0 (.tup [M0.sv, .b true]) [] 0 []) := by
  refine Tri.of_code tok Tryd.func134 rfl rfl rfl (by decide) rfl (Nat.le_of_ble_eq_true rfl) ?_
  conv => whnf
  repeat' ((first | (refine Exists.intro gM0 (And.intro ⟨rfl, glob_m' hg⟩ ?_)) | (refine Exists.intro gM0 (And.intro ⟨rfl, glob_m hg⟩ ?_)) | (refine And.intro gM0_ok (And.intro ⟨rfl, rfl⟩ ?_)) | refine And.intro (by repeat' first | exact trivial | refine And.intro rfl ?_) (And.intro (by first | exact fun _ h => h | exact fun _ => List.mem_cons_of_mem _ | exact fun _ => List.mem_append_right _) ?_) | (refine And.intro (fun h => ?_) (fun h => ?_) <;> (try simp only [n1, n2, n3, n4, n5, n6] at h) <;> first | (exfalso; omega) | (cases h; done) | skip) | refine And.intro (by omega) ?_ | refine Exists.intro _ (And.intro (by first | exact And.intro rfl rfl | exact Pl.den (by repeat constructor) | with_reducible rfl | exact cast_succ _ | assumption | exact (Int.toNat_of_nonneg (by omega)).symm | rfl) ?_) | refine hD _ _ ?_ | refine hL _ _ ?_ | (intro h; (try simp only [n1, n2, n3, n4, n5, n6] at h); first | (exfalso; omega) | (cases h; done) | skip)) <;> (conv => whnf))
  exact Ret.noneS rfl (fun _ _ => rfl) (fun g hg => by cases hg)
theorem tFAdd (fx : List Fact) (hg : glob ∈ fx) (x y : N4) (hx : x.Ok) (hy : y.Ok) : Tri Tryd.prog 103 [.k .i64 0, x.sv, y.sv] [] 0 fx
    (RetE (α := N4) 0 (fun r => r.Ok ∧ r.val = (x.val % M0.m.val + y.val % M0.m.val) % M0.m.val) (fun r => r.sv) (fun _ => []) 0 (fun _ => [])) := by
  have hM := M0_ok
  have hpos : 0 < M0.m.val := by decide
  refine Tri.of_code tok Tryd.func103 rfl rfl rfl (by decide) rfl (Nat.le_of_ble_eq_true rfl) ?_
  conv => whnf
  repeat' ((first | refine And.intro (by repeat' first | exact trivial | refine And.intro rfl ?_) (And.intro (by first | exact fun _ h => h | exact fun _ => List.mem_cons_of_mem _ | exact fun _ => List.mem_append_right _) ?_) | (refine And.intro (fun h => ?_) (fun h => ?_) <;> (try simp only [n1, n2, n3, n4, n5, n6] at h) <;> first | (exfalso; omega) | (cases h; done) | skip) | refine And.intro (by omega) ?_ | refine Exists.intro _ (And.intro (by first | exact And.intro rfl rfl | exact Pl.den (by repeat constructor) | with_reducible rfl | exact cast_succ _ | assumption | exact (Int.toNat_of_nonneg (by omega)).symm | rfl) ?_) | refine hD _ _ ?_ | refine hL _ _ ?_ | (intro h; (try simp only [n1, n2, n3, n4, n5, n6] at h); first | (exfalso; omega) | (cases h; done) | skip)) <;> (conv => whnf))
  refine Tri.use ((tOf fx hg).one) [] rfl (fun _ _ _ => rfl) trivial (fun f hf => by first | exact hf | cases hf) (fun u hu => ?_)
  conv => whnf
  repeat' ((first | refine And.intro (by repeat' first | exact trivial | refine And.intro rfl ?_) (And.intro (by first | exact fun _ h => h | exact fun _ => List.mem_cons_of_mem _ | exact fun _ => List.mem_append_right _) ?_) | (refine And.intro (fun h => ?_) (fun h => ?_) <;> (try simp only [n1, n2, n3, n4, n5, n6] at h) <;> first | (exfalso; omega) | (cases h; done) | skip) | refine And.intro (by omega) ?_ | refine Exists.intro _ (And.intro (by first | exact And.intro rfl rfl | exact Pl.den (by repeat constructor) | with_reducible rfl | exact cast_succ _ | assumption | exact (Int.toNat_of_nonneg (by omega)).symm | rfl) ?_) | refine hD _ _ ?_ | refine hL _ _ ?_ | (intro h; (try simp only [n1, n2, n3, n4, n5, n6] at h); first | (exfalso; omega) | (cases h; done) | skip)) <;> (conv => whnf))
  refine draw_opaque fun KD hD => ?_
  refine draw_all tok (by kernel_rfl) [.load 0, .load 1, .load 2, .load 4, .load 5, .one 3, .one 6, .one 7, .last 8] [8] (by kernel_rfl) rfl rfl (by repeat' (first | exact trivial | refine And.intro rfl ?_)) ?_
  conv => whnf
  repeat' ((first | refine And.intro (by repeat' first | exact trivial | refine And.intro rfl ?_) (And.intro (by first | exact fun _ h => h | exact fun _ => List.mem_cons_of_mem _ | exact fun _ => List.mem_append_right _) ?_) | (refine And.intro (fun h => ?_) (fun h => ?_) <;> (try simp only [n1, n2, n3, n4, n5, n6] at h) <;> first | (exfalso; omega) | (cases h; done) | skip) | refine And.intro (by omega) ?_ | refine Exists.intro _ (And.intro (by first | exact And.intro rfl rfl | exact Pl.den (by repeat constructor) | with_reducible rfl | exact cast_succ _ | assumption | exact (Int.toNat_of_nonneg (by omega)).symm | rfl) ?_) | refine hD _ _ ?_ | refine hL _ _ ?_ | (intro h; (try simp only [n1, n2, n3, n4, n5, n6] at h); first | (exfalso; omega) | (cases h; done) | skip)) <;> (conv => whnf))
  refine Tri.use (tMFold fx M0 hM x hx) [] rfl (fun _ _ _ => rfl) trivial (fun f hf => by first | exact hf | cases hf) (fun a ha => ?_)
  have a1 := ha.1
  have a2 := ha.2
  clear ha
  conv => whnf
  repeat' ((first | refine And.intro (by repeat' first | exact trivial | refine And.intro rfl ?_) (And.intro (by first | exact fun _ h => h | exact fun _ => List.mem_cons_of_mem _ | exact fun _ => List.mem_append_right _) ?_) | (refine And.intro (fun h => ?_) (fun h => ?_) <;> (try simp only [n1, n2, n3, n4, n5, n6] at h) <;> first | (exfalso; omega) | (cases h; done) | skip) | refine And.intro (by omega) ?_ | refine Exists.intro _ (And.intro (by first | exact And.intro rfl rfl | exact Pl.den (by repeat constructor) | with_reducible rfl | exact cast_succ _ | assumption | exact (Int.toNat_of_nonneg (by omega)).symm | rfl) ?_) | refine hD _ _ ?_ | refine hL _ _ ?_ | (intro h; (try simp only [n1, n2, n3, n4, n5, n6] at h); first | (exfalso; omega) | (cases h; done) | skip)) <;> (conv => whnf))
  refine Tri.use (tMFold fx M0 hM y hy) [] rfl (fun _ _ _ => rfl) trivial (fun f hf => by first | exact hf | cases hf) (fun b hb => ?_)
  have b1 := hb.1
  have b2 := hb.2
  clear hb
  conv => whnf
  repeat' ((first | refine And.intro (by repeat' first | exact trivial | refine And.intro rfl ?_) (And.intro (by first | exact fun _ h => h | exact fun _ => List.mem_cons_of_mem _ | exact fun _ => List.mem_append_right _) ?_) | (refine And.intro (fun h => ?_) (fun h => ?_) <;> (try simp only [n1, n2, n3, n4, n5, n6] at h) <;> first | (exfalso; omega) | (cases h; done) | skip) | refine And.intro (by omega) ?_ | refine Exists.intro _ (And.intro (by first | exact And.intro rfl rfl | exact Pl.den (by repeat constructor) | with_reducible rfl | exact cast_succ _ | assumption | exact (Int.toNat_of_nonneg (by omega)).symm | rfl) ?_) | refine hD _ _ ?_ | refine hL _ _ ?_ | (intro h; (try simp only [n1, n2, n3, n4, n5, n6] at h); first | (exfalso; omega) | (cases h; done) | skip)) <;> (conv => whnf))
  refine Tri.use (tMAdd fx M0 hM a b a1 b1 (by rw [a2]; exact Nat.mod_lt _ hpos) (by rw [b2]; exact Nat.mod_lt _ hpos)) [] rfl (fun _ _ _ => rfl) trivial (fun f hf => by first | exact hf | cases hf) (fun r hr => ?_)
  have r1 := hr.1
  have r2 := hr.2
  clear hr
  conv => whnf
  repeat' ((first | refine And.intro (by repeat' first | exact trivial | refine And.intro rfl ?_) (And.intro (by first | exact fun _ h => h | exact fun _ => List.mem_cons_of_mem _ | exact fun _ => List.mem_append_right _) ?_) | (refine And.intro (fun h => ?_) (fun h => ?_) <;> (try simp only [n1, n2, n3, n4, n5, n6] at h) <;> first | (exfalso; omega) | (cases h; done) | skip) | refine And.intro (by omega) ?_ | refine Exists.intro _ (And.intro (by first | exact And.intro rfl rfl | exact Pl.den (by repeat constructor) | with_reducible rfl | exact cast_succ _ | assumption | exact (Int.toNat_of_nonneg (by omega)).symm | rfl) ?_) | refine hD _ _ ?_ | refine hL _ _ ?_ | (intro h; (try simp only [n1, n2, n3, n4, n5, n6] at h); first | (exfalso; omega) | (cases h; done) | skip)) <;> (conv => whnf))
  exact ⟨r, ⟨r1, by rw [r2, a2, b2]⟩, Ret.noneS rfl (fun _ _ => rfl) (fun g hg => by cases hg)⟩
theorem tFSub (fx : List Fact) (hg : glob ∈ fx) (x y : N4) (hx : x.Ok) (hy : y.Ok) : Tri Tryd.prog 104 [.k .i64 0, x.sv, y.sv] [] 0 fx
    (RetE (α := N4) 0 (fun r => r.Ok ∧ r.val = (x.val % M0.m.val + M0.m.val - y.val % M0.m.val) % M0.m.val) (fun r => r.sv) (fun _ => []) 0 (fun _ => [])) := by
  have hM := M0_ok
  have hpos : 0 < M0.m.val := by decide
  refine Tri.of_code tok Tryd.func104 rfl rfl rfl (by decide) rfl (Nat.le_of_ble_eq_true rfl) ?_
  conv => whnf
  repeat' ((first | refine And.intro (by repeat' first | exact trivial | refine And.intro rfl ?_) (And.intro (by first | exact fun _ h => h | exact fun _ => List.mem_cons_of_mem _ | exact fun _ => List.mem_append_right _) ?_) | (refine And.intro (fun h => ?_) (fun h => ?_) <;> (try simp only [n1, n2, n3, n4, n5, n6] at h) <;> first | (exfalso; omega) | (cases h; done) | skip) | refine And.intro (by omega) ?_ | refine Exists.intro _ (And.intro (by first | exact And.intro rfl rfl | exact Pl.den (by repeat constructor) | with_reducible rfl | exact cast_succ _ | assumption | exact (Int.toNat_of_nonneg (by omega)).symm | rfl) ?_) | refine hD _ _ ?_ | refine hL _ _ ?_ | (intro h; (try simp only [n1, n2, n3, n4, n5, n6] at h); first | (exfalso; omega) | (cases h; done) | skip)) <;> (conv => whnf))
  refine Tri.use ((tOf fx hg).one) [] rfl (fun _ _ _ => rfl) trivial (fun f hf => by first | exact hf | cases hf) (fun u hu => ?_)
  conv => whnf
  repeat' ((first | refine And.intro (by repeat' first | exact trivial | refine And.intro rfl ?_) (And.intro (by first | exact fun _ h => h | exact fun _ => List.mem_cons_of_mem _ | exact fun _ => List.mem_append_right _) ?_) | (refine And.intro (fun h => ?_) (fun h => ?_) <;> (try simp only [n1, n2, n3, n4, n5, n6] at h) <;> first | (exfalso; omega) | (cases h; done) | skip) | refine And.intro (by omega) ?_ | refine Exists.intro _ (And.intro (by first | exact And.intro rfl rfl | exact Pl.den (by repeat constructor) | with_reducible rfl | exact cast_succ _ | assumption | exact (Int.toNat_of_nonneg (by omega)).symm | rfl) ?_) | refine hD _ _ ?_ | refine hL _ _ ?_ | (intro h; (try simp only [n1, n2, n3, n4, n5, n6] at h); first | (exfalso; omega) | (cases h; done) | skip)) <;> (conv => whnf))
  refine draw_opaque fun KD hD => ?_
  refine draw_all tok (by kernel_rfl) [.load 0, .load 1, .load 2, .load 4, .load 5, .one 3, .one 6, .one 7, .last 8] [8] (by kernel_rfl) rfl rfl (by repeat' (first | exact trivial | refine And.intro rfl ?_)) ?_
  conv => whnf
  repeat' ((first | refine And.intro (by repeat' first | exact trivial | refine And.intro rfl ?_) (And.intro (by first | exact fun _ h => h | exact fun _ => List.mem_cons_of_mem _ | exact fun _ => List.mem_append_right _) ?_) | (refine And.intro (fun h => ?_) (fun h => ?_) <;> (try simp only [n1, n2, n3, n4, n5, n6] at h) <;> first | (exfalso; omega) | (cases h; done) | skip) | refine And.intro (by omega) ?_ | refine Exists.intro _ (And.intro (by first | exact And.intro rfl rfl | exact Pl.den (by repeat constructor) | with_reducible rfl | exact cast_succ _ | assumption | exact (Int.toNat_of_nonneg (by omega)).symm | rfl) ?_) | refine hD _ _ ?_ | refine hL _ _ ?_ | (intro h; (try simp only [n1, n2, n3, n4, n5, n6] at h); first | (exfalso; omega) | (cases h; done) | skip)) <;> (conv => whnf))
  refine Tri.use (tMFold fx M0 hM x hx) [] rfl (fun _ _ _ => rfl) trivial (fun f hf => by first | exact hf | cases hf) (fun a ha => ?_)
  have a1 := ha.1
  have a2 := ha.2
  clear ha
  conv => whnf
  repeat' ((first | refine And.intro (by repeat' first | exact trivial | refine And.intro rfl ?_) (And.intro (by first | exact fun _ h => h | exact fun _ => List.mem_cons_of_mem _ | exact fun _ => List.mem_append_right _) ?_) | (refine And.intro (fun h => ?_) (fun h => ?_) <;> (try simp only [n1, n2, n3, n4, n5, n6] at h) <;> first | (exfalso; omega) | (cases h; done) | skip) | refine And.intro (by omega) ?_ | refine Exists.intro _ (And.intro (by first | exact And.intro rfl rfl | exact Pl.den (by repeat constructor) | with_reducible rfl | exact cast_succ _ | assumption | exact (Int.toNat_of_nonneg (by omega)).symm | rfl) ?_) | refine hD _ _ ?_ | refine hL _ _ ?_ | (intro h; (try simp only [n1, n2, n3, n4, n5, n6] at h); first | (exfalso; omega) | (cases h; done) | skip)) <;> (conv => whnf))
  refine Tri.use (tMFold fx M0 hM y hy) [] rfl (fun _ _ _ => rfl) trivial (fun f hf => by first | exact hf | cases hf) (fun b hb => ?_)
  have b1 := hb.1
  have b2 := hb.2
  clear hb
  conv => whnf
  repeat' ((first | refine And.intro (by repeat' first | exact trivial | refine And.intro rfl ?_) (And.intro (by first | exact fun _ h => h | exact fun _ => List.mem_cons_of_mem _ | exact fun _ => List.mem_append_right _) ?_) | (refine And.intro (fun h => ?_) (fun h => ?_) <;> (try simp only [n1, n2, n3, n4, n5, n6] at h) <;> first | (exfalso; omega) | (cases h; done) | skip) | refine And.intro (by omega) ?_ | refine Exists.intro _ (And.intro (by first | exact And.intro rfl rfl | exact Pl.den (by repeat constructor) | with_reducible rfl | exact cast_succ _ | assumption | exact (Int.toNat_of_nonneg (by omega)).symm | rfl) ?_) | refine hD _ _ ?_ | refine hL _ _ ?_ | (intro h; (try simp only [n1, n2, n3, n4, n5, n6] at h); first | (exfalso; omega) | (cases h; done) | skip)) <;> (conv => whnf))
  refine Tri.use (tMSub fx M0 hM a b a1 b1 (by rw [a2]; exact Nat.mod_lt _ hpos) (by rw [b2]; exact Nat.mod_lt _ hpos)) [] rfl (fun _ _ _ => rfl) trivial (fun f hf => by first | exact hf | cases hf) (fun r hr => ?_)
  have r1 := hr.1
  have r2 := hr.2
  clear hr
  conv => whnf
  repeat' ((first | refine And.intro (by repeat' first | exact trivial | refine And.intro rfl ?_) (And.intro (by first | exact fun _ h => h | exact fun _ => List.mem_cons_of_mem _ | exact fun _ => List.mem_append_right _) ?_) | (refine And.intro (fun h => ?_) (fun h => ?_) <;> (try simp only [n1, n2, n3, n4, n5, n6] at h) <;> first | (exfalso; omega) | (cases h; done) | skip) | refine And.intro (by omega) ?_ | refine Exists.intro _ (And.intro (by first | exact And.intro rfl rfl | exact Pl.den (by repeat constructor) | with_reducible rfl | exact cast_succ _ | assumption | exact (Int.toNat_of_nonneg (by omega)).symm | rfl) ?_) | refine hD _ _ ?_ | refine hL _ _ ?_ | (intro h; (try simp only [n1, n2, n3, n4, n5, n6] at h); first | (exfalso; omega) | (cases h; done) | skip)) <;> (conv => whnf))
  exact ⟨r, ⟨r1, by rw [r2, a2, b2]⟩, Ret.noneS rfl (fun _ _ => rfl) (fun g hg => by cases hg)⟩
theorem tFMul (fx : List Fact) (hg : glob ∈ fx) (x y : N4) (hx : x.Ok) (hy : y.Ok) : Tri Tryd.prog 102 [.k .i64 0, x.sv, y.sv] [] 0 fx
    (RetE (α := N4) 0 (fun r => r.Ok ∧ r.val = (x.val % M0.m.val * (y.val % M0.m.val)) % M0.m.val) (fun r => r.sv) (fun _ => []) 0 (fun _ => [])) := by
  have hM := M0_ok
  have hpos : 0 < M0.m.val := by decide
  refine Tri.of_code tok Tryd.func102 rfl rfl rfl (by decide) rfl (Nat.le_of_ble_eq_true rfl) ?_
  conv => whnf
  repeat' ((first | refine And.intro (by repeat' first | exact trivial | refine And.intro rfl ?_) (And.intro (by first | exact fun _ h => h | exact fun _ => List.mem_cons_of_mem _ | exact fun _ => List.mem_append_right _) ?_) | (refine And.intro (fun h => ?_) (fun h => ?_) <;> (try simp only [n1, n2, n3, n4, n5, n6] at h) <;> first | (exfalso; omega) | (cases h; done) | skip) | refine And.intro (by omega) ?_ | refine Exists.intro _ (And.intro (by first | exact And.intro rfl rfl | exact Pl.den (by repeat constructor) | with_reducible rfl | exact cast_succ _ | assumption | exact (Int.toNat_of_nonneg (by omega)).symm | rfl) ?_) | refine hD _ _ ?_ | refine hL _ _ ?_ | (intro h; (try simp only [n1, n2, n3, n4, n5, n6] at h); first | (exfalso; omega) | (cases h; done) | skip)) <;> (conv => whnf))
  refine Tri.use ((tOf fx hg).one) [] rfl (fun _ _ _ => rfl) trivial (fun f hf => by first | exact hf | cases hf) (fun u hu => ?_)
  conv => whnf
  repeat' ((first | refine And.intro (by repeat' first | exact trivial | refine And.intro rfl ?_) (And.intro (by first | exact fun _ h => h | exact fun _ => List.mem_cons_of_mem _ | exact fun _ => List.mem_append_right _) ?_) | (refine And.intro (fun h => ?_) (fun h => ?_) <;> (try simp only [n1, n2, n3, n4, n5, n6] at h) <;> first | (exfalso; omega) | (cases h; done) | skip) | refine And.intro (by omega) ?_ | refine Exists.intro _ (And.intro (by first | exact And.intro rfl rfl | exact Pl.den (by repeat constructor) | with_reducible rfl | exact cast_succ _ | assumption | exact (Int.toNat_of_nonneg (by omega)).symm | rfl) ?_) | refine hD _ _ ?_ | refine hL _ _ ?_ | (intro h; (try simp only [n1, n2, n3, n4, n5, n6] at h); first | (exfalso; omega) | (cases h; done) | skip)) <;> (conv => whnf))
  refine draw_opaque fun KD hD => ?_
  refine draw_all tok (by kernel_rfl) [.load 0, .load 1, .load 2, .load 4, .load 5, .one 3, .one 6, .one 7, .last 8] [8] (by kernel_rfl) rfl rfl (by repeat' (first | exact trivial | refine And.intro rfl ?_)) ?_
  conv => whnf
  repeat' ((first | refine And.intro (by repeat' first | exact trivial | refine And.intro rfl ?_) (And.intro (by first | exact fun _ h => h | exact fun _ => List.mem_cons_of_mem _ | exact fun _ => List.mem_append_right _) ?_) | (refine And.intro (fun h => ?_) (fun h => ?_) <;> (try simp only [n1, n2, n3, n4, n5, n6] at h) <;> first | (exfalso; omega) | (cases h; done) | skip) | refine And.intro (by omega) ?_ | refine Exists.intro _ (And.intro (by first | exact And.intro rfl rfl | exact Pl.den (by repeat constructor) | with_reducible rfl | exact cast_succ _ | assumption | exact (Int.toNat_of_nonneg (by omega)).symm | rfl) ?_) | refine hD _ _ ?_ | refine hL _ _ ?_ | (intro h; (try simp only [n1, n2, n3, n4, n5, n6] at h); first | (exfalso; omega) | (cases h; done) | skip)) <;> (conv => whnf))
  refine Tri.use (tMFold fx M0 hM x hx) [] rfl (fun _ _ _ => rfl) trivial (fun f hf => by first | exact hf | cases hf) (fun a ha => ?_)
  have a1 := ha.1
  have a2 := ha.2
  clear ha
  conv => whnf
  repeat' ((first | refine And.intro (by repeat' first | exact trivial | refine And.intro rfl ?_) (And.intro (by first | exact fun _ h => h | exact fun _ => List.mem_cons_of_mem _ | exact fun _ => List.mem_append_right _) ?_) | (refine And.intro (fun h => ?_) (fun h => ?_) <;> (try simp only [n1, n2, n3, n4, n5, n6] at h) <;> first | (exfalso; omega) | (cases h; done) | skip) | refine And.intro (by omega) ?_ | refine Exists.intro _ (And.intro (by first | exact And.intro rfl rfl | exact Pl.den (by repeat constructor) | with_reducible rfl | exact cast_succ _ | assumption | exact (Int.toNat_of_nonneg (by omega)).symm | rfl) ?_) | refine hD _ _ ?_ | refine hL _ _ ?_ | (intro h; (try simp only [n1, n2, n3, n4, n5, n6] at h); first | (exfalso; omega) | (cases h; done) | skip)) <;> (conv => whnf))
  refine Tri.use (tMFold fx M0 hM y hy) [] rfl (fun _ _ _ => rfl) trivial (fun f hf => by first | exact hf | cases hf) (fun b hb => ?_)
  have b1 := hb.1
  have b2 := hb.2
  clear hb
  conv => whnf
  repeat' ((first | refine And.intro (by repeat' first | exact trivial | refine And.intro rfl ?_) (And.intro (by first | exact fun _ h => h | exact fun _ => List.mem_cons_of_mem _ | exact fun _ => List.mem_append_right _) ?_) | (refine And.intro (fun h => ?_) (fun h => ?_) <;> (try simp only [n1, n2, n3, n4, n5, n6] at h) <;> first | (exfalso; omega) | (cases h; done) | skip) | refine And.intro (by omega) ?_ | refine Exists.intro _ (And.intro (by first | exact And.intro rfl rfl | exact Pl.den (by repeat constructor) | with_reducible rfl | exact cast_succ _ | assumption | exact (Int.toNat_of_nonneg (by omega)).symm | rfl) ?_) | refine hD _ _ ?_ | refine hL _ _ ?_ | (intro h; (try simp only [n1, n2, n3, n4, n5, n6] at h); first | (exfalso; omega) | (cases h; done) | skip)) <;> (conv => whnf))
  refine Tri.use (tMMul fx M0 hM a b a1 b1 (by rw [b2]; exact Nat.mod_lt _ hpos)) [] rfl (fun _ _ _ => rfl) trivial (fun f hf => by first | exact hf | cases hf) (fun r hr => ?_)
  have r1 := hr.1
  have r2 := hr.2
  clear hr
  conv => whnf
  repeat' ((first | refine And.intro (by repeat' first | exact trivial | refine And.intro rfl ?_) (And.intro (by first | exact fun _ h => h | exact fun _ => List.mem_cons_of_mem _ | exact fun _ => List.mem_append_right _) ?_) | (refine And.intro (fun h => ?_) (fun h => ?_) <;> (try simp only [n1, n2, n3, n4, n5, n6] at h) <;> first | (exfalso; omega) | (cases h; done) | skip) | refine And.intro (by omega) ?_ | refine Exists.intro _ (And.intro (by first | exact And.intro rfl rfl | exact Pl.den (by repeat constructor) | with_reducible rfl | exact cast_succ _ | assumption | exact (Int.toNat_of_nonneg (by omega)).symm | rfl) ?_) | refine hD _ _ ?_ | refine hL _ _ ?_ | (intro h; (try simp only [n1, n2, n3, n4, n5, n6] at h); first | (exfalso; omega) | (cases h; done) | skip)) <;> (conv => whnf))
  exact ⟨r, ⟨r1, by rw [r2, a2, b2]⟩, Ret.noneS rfl (fun _ _ => rfl) (fun g hg => by cases hg)⟩
end Go.Proofs.YtekgjjanikicnaaDoor.Sx
namespace Go.Proofs.YtekgjjanikicnaaDoor.Sx
open Go Go.Proofs.YtekgjjanikicnaaDoor.Pm
set_option maxRecDepth 100000
set_option linter.unusedSimpArgs false
set_option linter.unusedVariables false

def eK (k : K) : N4 := N4.of k.val
theorem M0_val : M0.m.val = Pf := by decide
theorem eK_ok (k : K) : (eK k).Ok := N4.of_ok _
theorem eK_val (k : K) : (eK k).val = k.val := N4.of_val (Nat.lt_trans k.isLt (by decide))
theorem eK_mod (k : K) : (eK k).val % M0.m.val = k.val := by rw [eK_val, M0_val, Nat.mod_eq_of_lt k.isLt]
theorem eK_of {r : N4} (h : r.Ok) (k : K) (hk : r.val = k.val) : r = eK k := N4.ext h (eK_ok k) (by rw [hk, eK_val])
theorem eK_inj {a b : K} (h : eK a = eK b) : a = b := Fin.ext (by rw [← eK_val a, h, eK_val])
theorem toK {P : Program} {n : Nat} {args : List SV} {fx : List Fact} {v : Nat} (f : K) (T : Tri P n args [] 0 fx (RetE (α := N4) 0 (fun r => r.Ok ∧ r.val = v) (fun r => r.sv) (fun _ => []) 0 (fun _ => []))) (h : v = f.val) :
    Tri P n args [] 0 fx (RetE (α := K) 0 (fun r => r = f) (fun r => (eK r).sv) (fun _ => []) 0 (fun _ => [])) :=
  T.mono fun y hh m fs ⟨r, ⟨h1, h2⟩, hR⟩ => ⟨f, rfl, by rw [eK_of h1 f (h2.trans h)] at hR; exact hR⟩
theorem tKAdd0 (fx : List Fact) (hg : glob ∈ fx) (x y : K) : Tri Tryd.prog 103 [.k .i64 0, (eK x).sv, (eK y).sv] [] 0 fx (RetE (α := K) 0 (fun r => r = x + y) (fun r => (eK r).sv) (fun _ => []) 0 (fun _ => [])) :=
  toK _ (tFAdd fx hg _ _ (eK_ok x) (eK_ok y)) (by rw [eK_mod, eK_mod, M0_val]; rfl)
theorem tKMul0 (fx : List Fact) (hg : glob ∈ fx) (x y : K) : Tri Tryd.prog 102 [.k .i64 0, (eK x).sv, (eK y).sv] [] 0 fx (RetE (α := K) 0 (fun r => r = x * y) (fun r => (eK r).sv) (fun _ => []) 0 (fun _ => [])) :=
  toK _ (tFMul fx hg _ _ (eK_ok x) (eK_ok y)) (by rw [eK_mod, eK_mod, M0_val]; rfl)
theorem tKSub0 (fx : List Fact) (hg : glob ∈ fx) (x y : K) : Tri Tryd.prog 104 [.k .i64 0, (eK x).sv, (eK y).sv] [] 0 fx (RetE (α := K) 0 (fun r => r = x - y) (fun r => (eK r).sv) (fun _ => []) 0 (fun _ => [])) :=
  toK _ (tFSub fx hg _ _ (eK_ok x) (eK_ok y)) (by
    rw [eK_mod, eK_mod, M0_val]
    have : x.val + Pf - y.val = Pf - y.val + x.val := by have := y.isLt; omega
    rw [this]; rfl)
theorem tFInv (fx : List Fact) (hg : glob ∈ fx) (x : N4) (hx : x.Ok) : Tri Tryd.prog 105 [.k .i64 0, x.sv] [] 0 fx
    (RetE (α := N4) 0 (fun r => r.Ok ∧ r.val = (x.val % M0.m.val) ^ (Pf - 2) % M0.m.val) (fun r => r.sv) (fun _ => []) 0 (fun _ => [])) := by
  have hM := M0_ok
  have hpos : 0 < M0.m.val := by decide
  have h2 : N4.Ok ⟨2, 0, 0, 0⟩ := ⟨by decide, by decide, by decide, by decide⟩
  refine Tri.of_code tok Tryd.func105 rfl rfl rfl (by decide) rfl (Nat.le_of_ble_eq_true rfl) ?_
  conv => whnf
  repeat' ((first | refine And.intro (by repeat' first | exact trivial | refine And.intro rfl ?_) (And.intro (by first | exact fun _ h => h | exact fun _ => List.mem_cons_of_mem _ | exact fun _ => List.mem_append_right _) ?_) | (refine And.intro (fun h => ?_) (fun h => ?_) <;> (try simp only [n1, n2, n3, n4, n5, n6] at h) <;> first | (exfalso; omega) | (cases h; done) | skip) | refine And.intro (by omega) ?_ | refine Exists.intro _ (And.intro (by first | exact And.intro rfl rfl | exact Pl.den (by repeat constructor) | with_reducible rfl | exact cast_succ _ | assumption | exact (Int.toNat_of_nonneg (by omega)).symm | rfl) ?_) | refine hD _ _ ?_ | refine hL _ _ ?_ | (intro h; (try simp only [n1, n2, n3, n4, n5, n6] at h); first | (exfalso; omega) | (cases h; done) | skip)) <;> (conv => whnf))
  refine Tri.use ((tOf fx hg).one) [] rfl (fun _ _ _ => rfl) trivial (fun f hf => by first | exact hf | cases hf) (fun u hu => ?_)
  conv => whnf
  repeat' ((first | refine And.intro (by repeat' first | exact trivial | refine And.intro rfl ?_) (And.intro (by first | exact fun _ h => h | exact fun _ => List.mem_cons_of_mem _ | exact fun _ => List.mem_append_right _) ?_) | (refine And.intro (fun h => ?_) (fun h => ?_) <;> (try simp only [n1, n2, n3, n4, n5, n6] at h) <;> first | (exfalso; omega) | (cases h; done) | skip) | refine And.intro (by omega) ?_ | refine Exists.intro _ (And.intro (by first | exact And.intro rfl rfl | exact Pl.den (by repeat constructor) | with_reducible rfl | exact cast_succ _ | assumption | exact (Int.toNat_of_nonneg (by omega)).symm | rfl) ?_) | refine hD _ _ ?_ | refine hL _ _ ?_ | (intro h; (try simp only [n1, n2, n3, n4, n5, n6] at h); first | (exfalso; omega) | (cases h; done) | skip)) <;> (conv => whnf))
  refine Tri.use (tLSub fx M0.m ⟨2, 0, 0, 0⟩ hM.m h2) [] rfl (fun _ _ _ => rfl) trivial (fun f hf => by first | exact hf | cases hf) (fun e he => ?_)
  have e1 := he.1
  have e2 : e.1.val = Pf - 2 := by
    have e3 := he.2
    have e4 := N4.val_lt he.1
    have e5 : N4.val ⟨2, 0, 0, 0⟩ = 2 := by decide
    have e6 : M0.m.val = 115792089210356248762697446949407573530086143415290314195533631308867097853951 := by decide
    show e.1.val = 115792089210356248762697446949407573530086143415290314195533631308867097853949
    rw [e5, e6] at e3
    cases hv : e.2 with
    | false => rw [hv] at e3; simp at e3; omega
    | true => rw [hv] at e3; simp at e3; omega
  clear he
  conv => whnf
  repeat' ((first | refine And.intro (by repeat' first | exact trivial | refine And.intro rfl ?_) (And.intro (by first | exact fun _ h => h | exact fun _ => List.mem_cons_of_mem _ | exact fun _ => List.mem_append_right _) ?_) | (refine And.intro (fun h => ?_) (fun h => ?_) <;> (try simp only [n1, n2, n3, n4, n5, n6] at h) <;> first | (exfalso; omega) | (cases h; done) | skip) | refine And.intro (by omega) ?_ | refine Exists.intro _ (And.intro (by first | exact And.intro rfl rfl | exact Pl.den (by repeat constructor) | with_reducible rfl | exact cast_succ _ | assumption | exact (Int.toNat_of_nonneg (by omega)).symm | rfl) ?_) | refine hD _ _ ?_ | refine hL _ _ ?_ | (intro h; (try simp only [n1, n2, n3, n4, n5, n6] at h); first | (exfalso; omega) | (cases h; done) | skip)) <;> (conv => whnf))
  refine draw_opaque fun KD hD => ?_
  refine draw_all tok (by kernel_rfl) [.load 0, .load 1, .load 2, .load 4, .one 3, .one 5, .last 6] [6] (by kernel_rfl) rfl rfl (by repeat' (first | exact trivial | refine And.intro rfl ?_)) ?_
  conv => whnf
  repeat' ((first | refine And.intro (by repeat' first | exact trivial | refine And.intro rfl ?_) (And.intro (by first | exact fun _ h => h | exact fun _ => List.mem_cons_of_mem _ | exact fun _ => List.mem_append_right _) ?_) | (refine And.intro (fun h => ?_) (fun h => ?_) <;> (try simp only [n1, n2, n3, n4, n5, n6] at h) <;> first | (exfalso; omega) | (cases h; done) | skip) | refine And.intro (by omega) ?_ | refine Exists.intro _ (And.intro (by first | exact And.intro rfl rfl | exact Pl.den (by repeat constructor) | with_reducible rfl | exact cast_succ _ | assumption | exact (Int.toNat_of_nonneg (by omega)).symm | rfl) ?_) | refine hD _ _ ?_ | refine hL _ _ ?_ | (intro h; (try simp only [n1, n2, n3, n4, n5, n6] at h); first | (exfalso; omega) | (cases h; done) | skip)) <;> (conv => whnf))
  refine Tri.use (tMFold fx M0 hM x hx) [] rfl (fun _ _ _ => rfl) trivial (fun f hf => by first | exact hf | cases hf) (fun a ha => ?_)
  have a1 := ha.1
  have a2 := ha.2
  clear ha
  conv => whnf
  repeat' ((first | refine And.intro (by repeat' first | exact trivial | refine And.intro rfl ?_) (And.intro (by first | exact fun _ h => h | exact fun _ => List.mem_cons_of_mem _ | exact fun _ => List.mem_append_right _) ?_) | (refine And.intro (fun h => ?_) (fun h => ?_) <;> (try simp only [n1, n2, n3, n4, n5, n6] at h) <;> first | (exfalso; omega) | (cases h; done) | skip) | refine And.intro (by omega) ?_ | refine Exists.intro _ (And.intro (by first | exact And.intro rfl rfl | exact Pl.den (by repeat constructor) | with_reducible rfl | exact cast_succ _ | assumption | exact (Int.toNat_of_nonneg (by omega)).symm | rfl) ?_) | refine hD _ _ ?_ | refine hL _ _ ?_ | (intro h; (try simp only [n1, n2, n3, n4, n5, n6] at h); first | (exfalso; omega) | (cases h; done) | skip)) <;> (conv => whnf))
  refine Tri.use (tMPow fx M0 hM a e.1 a1 e1 (by rw [a2]; exact Nat.mod_lt _ hpos)) [] rfl (fun _ _ _ => rfl) trivial (fun f hf => by first | exact hf | cases hf) (fun r hr => ?_)
  have r1 := hr.1
  have r2 := hr.2
  clear hr
  conv => whnf
  repeat' ((first | refine And.intro (by repeat' first | exact trivial | refine And.intro rfl ?_) (And.intro (by first | exact fun _ h => h | exact fun _ => List.mem_cons_of_mem _ | exact fun _ => List.mem_append_right _) ?_) | (refine And.intro (fun h => ?_) (fun h => ?_) <;> (try simp only [n1, n2, n3, n4, n5, n6] at h) <;> first | (exfalso; omega) | (cases h; done) | skip) | refine And.intro (by omega) ?_ | refine Exists.intro _ (And.intro (by first | exact And.intro rfl rfl | exact Pl.den (by repeat constructor) | with_reducible rfl | exact cast_succ _ | assumption | exact (Int.toNat_of_nonneg (by omega)).symm | rfl) ?_) | refine hD _ _ ?_ | refine hL _ _ ?_ | (intro h; (try simp only [n1, n2, n3, n4, n5, n6] at h); first | (exfalso; omega) | (cases h; done) | skip)) <;> (conv => whnf))
  exact ⟨r, ⟨r1, by rw [r2, a2, e2]⟩, Ret.noneS rfl (fun _ _ => rfl) (fun g hg => by cases hg)⟩
theorem tKInv0 (fx : List Fact) (hg : glob ∈ fx) (x : K) : Tri Tryd.prog 105 [.k .i64 0, (eK x).sv] [] 0 fx (RetE (α := K) 0 (fun r => r = kinv x) (fun r => (eK r).sv) (fun _ => []) 0 (fun _ => [])) :=
  toK _ (tFInv fx hg _ (eK_ok x)) (by rw [eK_mod, M0_val]; rfl)
end Go.Proofs.YtekgjjanikicnaaDoor.Sx
namespace Go.Proofs.YtekgjjanikicnaaDoor.Sx
open Go Go.Proofs.YtekgjjanikicnaaDoor.Pm
set_option maxRecDepth 100000
set_option linter.unusedSimpArgs false
set_option linter.unusedVariables false

theorem eqIn24 (dd : Nat) (a b c d a' b' c' d' : Int) (w : World) : (Op.equalIn (dd + 2) 24 (.agg #[.int .u64 a, .int .u64 b, .int .u64 c, .int .u64 d]) (.agg #[.int .u64 a', .int .u64 b', .int .u64 c', .int .u64 d'])).run Tryd.prog w = .ok (decide (a = a' ∧ b = b' ∧ c = c' ∧ d = d')) w := by
  have h24 : Tryd.prog.underlying 24 = some (.array 4 22) := by kernel_rfl
  have h22 : Tryd.prog.underlying 22 = some (.int .u64) := by kernel_rfl
  obtain ⟨i, hi⟩ := info_of_underlying h22
  have hc : Tryd.prog.cellsOf 22 = 1 := by kernel_rfl
  rw [show dd + 2 = (dd + 1) + 1 from rfl, run_equalIn_array w (dd + 1) _ _ h24 hi, hc]
  have hag : ∀ w, (isAgg 22).run Tryd.prog w = .ok false w := fun w => by simp [isAgg, run_underlying h22]
  have hp : ∀ (q0 q1 q2 q3 : Value) w, (part 22 #[q0, q1, q2, q3] 0).run Tryd.prog w = .ok q0 w ∧ (part 22 #[q0, q1, q2, q3] 1).run Tryd.prog w = .ok q1 w ∧ (part 22 #[q0, q1, q2, q3] 2).run Tryd.prog w = .ok q2 w ∧ (part 22 #[q0, q1, q2, q3] 3).run Tryd.prog w = .ok q3 w := fun q0 q1 q2 q3 w => by simp [part, hag]
  have p0 := fun q0 q1 q2 q3 w => (hp q0 q1 q2 q3 w).1
  have p1 := fun q0 q1 q2 q3 w => (hp q0 q1 q2 q3 w).2.1
  have p2 := fun q0 q1 q2 q3 w => (hp q0 q1 q2 q3 w).2.2.1
  have p3 := fun q0 q1 q2 q3 w => (hp q0 q1 q2 q3 w).2.2.2
  clear hp
  have he : ∀ (x y : Int) w, (Op.equalIn (dd + 1) 22 (.int .u64 x) (.int .u64 y)).run Tryd.prog w = .ok (x == y) w := fun x y w => run_equalIn_int w dd 22 .u64 .u64 x y h22
  show (Op.eqItems (dd + 1) 22 1 _ _ [0, 1, 2, 3]).run Tryd.prog w = _
  simp only [Op.eqItems, Sem.run_bind, Nat.mul_one, p0, p1, p2, p3, Result.andThen_ok, he]
  by_cases h0 : a = a' <;> by_cases h1 : b = b' <;> by_cases h2 : c = c' <;> by_cases h3 : d = d' <;> simp [h0, h1, h2, h3, p0, p1, p2, p3, he]
theorem guard24 (o : BinOp) (x y : Operand) (xs ys : Array Value) (w : World) : (eqGuard o 24 x y (.agg xs) (.agg ys)).run Tryd.prog w = .ok () w := by
  have h : Tryd.prog.eqGuardType Tryd.prog.depth 24 = false := by kernel_rfl
  unfold eqGuard
  cases o <;> simp [h]
theorem eq24 (a b c d a' b' c' d' : Int) : AggEq Tryd.prog 24 [.int .u64 a, .int .u64 b, .int .u64 c, .int .u64 d] [.int .u64 a', .int .u64 b', .int .u64 c', .int .u64 d'] (decide (a = a' ∧ b = b' ∧ c = c' ∧ d = d')) :=
  fun w => ⟨eqIn24 9998 a b c d a' b' c' d' w, fun o x y => guard24 o x y _ _ w⟩
theorem tPMul (fx : List Fact) (hg : glob ∈ fx) (x y : K) : Tri Tryd.prog 59 [(eK x).sv, (eK y).sv] [] 0 fx (RetE (α := K) 0 (fun r => r = x * y) (fun r => (eK r).sv) (fun _ => []) 0 (fun _ => [])) := by
  refine Tri.of_code tok Tryd.func59 rfl rfl rfl (by decide) rfl (Nat.le_of_ble_eq_true rfl) ?_
  conv => whnf
  repeat' ((first | refine And.intro (by repeat' first | exact trivial | refine And.intro rfl ?_) (And.intro (by first | exact fun _ h => h | exact fun _ => List.mem_cons_of_mem _ | exact fun _ => List.mem_append_right _) ?_) | (refine And.intro (fun h => ?_) (fun h => ?_) <;> (try simp only [n1, n2, n3, n4, n5, n6] at h) <;> first | (exfalso; omega) | (cases h; done) | skip) | refine And.intro (by omega) ?_ | refine Exists.intro _ (And.intro (by first | exact And.intro rfl rfl | exact Pl.den (by repeat constructor) | with_reducible rfl | exact cast_succ _ | assumption | exact (Int.toNat_of_nonneg (by omega)).symm | rfl) ?_) | refine hD _ _ ?_ | refine hL _ _ ?_ | (intro h; (try simp only [n1, n2, n3, n4, n5, n6] at h); first | (exfalso; omega) | (cases h; done) | skip)) <;> (conv => whnf))
  refine Tri.use (tKMul0 fx hg x y) [] rfl (fun _ _ _ => rfl) trivial (fun f hf => by first | exact hf | cases hf) (fun r hr => ?_)
  conv => whnf
  repeat' ((first | refine And.intro (by repeat' first | exact trivial | refine And.intro rfl ?_) (And.intro (by first | exact fun _ h => h | exact fun _ => List.mem_cons_of_mem _ | exact fun _ => List.mem_append_right _) ?_) | (refine And.intro (fun h => ?_) (fun h => ?_) <;> (try simp only [n1, n2, n3, n4, n5, n6] at h) <;> first | (exfalso; omega) | (cases h; done) | skip) | refine And.intro (by omega) ?_ | refine Exists.intro _ (And.intro (by first | exact And.intro rfl rfl | exact Pl.den (by repeat constructor) | with_reducible rfl | exact cast_succ _ | assumption | exact (Int.toNat_of_nonneg (by omega)).symm | rfl) ?_) | refine hD _ _ ?_ | refine hL _ _ ?_ | (intro h; (try simp only [n1, n2, n3, n4, n5, n6] at h); first | (exfalso; omega) | (cases h; done) | skip)) <;> (conv => whnf))
  exact Ret.noneS rfl (fun _ _ => by have e : r = _ := hr; rw [e]; rfl) (fun g hg => by cases hg)
theorem tPAdd (fx : List Fact) (hg : glob ∈ fx) (x y : K) : Tri Tryd.prog 60 [(eK x).sv, (eK y).sv] [] 0 fx (RetE (α := K) 0 (fun r => r = x + y) (fun r => (eK r).sv) (fun _ => []) 0 (fun _ => [])) := by
  refine Tri.of_code tok Tryd.func60 rfl rfl rfl (by decide) rfl (Nat.le_of_ble_eq_true rfl) ?_
  conv => whnf
  repeat' ((first | refine And.intro (by repeat' first | exact trivial | refine And.intro rfl ?_) (And.intro (by first | exact fun _ h => h | exact fun _ => List.mem_cons_of_mem _ | exact fun _ => List.mem_append_right _) ?_) | (refine And.intro (fun h => ?_) (fun h => ?_) <;> (try simp only [n1, n2, n3, n4, n5, n6] at h) <;> first | (exfalso; omega) | (cases h; done) | skip) | refine And.intro (by omega) ?_ | refine Exists.intro _ (And.intro (by first | exact And.intro rfl rfl | exact Pl.den (by repeat constructor) | with_reducible rfl | exact cast_succ _ | assumption | exact (Int.toNat_of_nonneg (by omega)).symm | rfl) ?_) | refine hD _ _ ?_ | refine hL _ _ ?_ | (intro h; (try simp only [n1, n2, n3, n4, n5, n6] at h); first | (exfalso; omega) | (cases h; done) | skip)) <;> (conv => whnf))
  refine Tri.use (tKAdd0 fx hg x y) [] rfl (fun _ _ _ => rfl) trivial (fun f hf => by first | exact hf | cases hf) (fun r hr => ?_)
  conv => whnf
  repeat' ((first | refine And.intro (by repeat' first | exact trivial | refine And.intro rfl ?_) (And.intro (by first | exact fun _ h => h | exact fun _ => List.mem_cons_of_mem _ | exact fun _ => List.mem_append_right _) ?_) | (refine And.intro (fun h => ?_) (fun h => ?_) <;> (try simp only [n1, n2, n3, n4, n5, n6] at h) <;> first | (exfalso; omega) | (cases h; done) | skip) | refine And.intro (by omega) ?_ | refine Exists.intro _ (And.intro (by first | exact And.intro rfl rfl | exact Pl.den (by repeat constructor) | with_reducible rfl | exact cast_succ _ | assumption | exact (Int.toNat_of_nonneg (by omega)).symm | rfl) ?_) | refine hD _ _ ?_ | refine hL _ _ ?_ | (intro h; (try simp only [n1, n2, n3, n4, n5, n6] at h); first | (exfalso; omega) | (cases h; done) | skip)) <;> (conv => whnf))
  exact Ret.noneS rfl (fun _ _ => by have e : r = _ := hr; rw [e]; rfl) (fun g hg => by cases hg)
theorem tPSub (fx : List Fact) (hg : glob ∈ fx) (x y : K) : Tri Tryd.prog 61 [(eK x).sv, (eK y).sv] [] 0 fx (RetE (α := K) 0 (fun r => r = x - y) (fun r => (eK r).sv) (fun _ => []) 0 (fun _ => [])) := by
  refine Tri.of_code tok Tryd.func61 rfl rfl rfl (by decide) rfl (Nat.le_of_ble_eq_true rfl) ?_
  conv => whnf
  repeat' ((first | refine And.intro (by repeat' first | exact trivial | refine And.intro rfl ?_) (And.intro (by first | exact fun _ h => h | exact fun _ => List.mem_cons_of_mem _ | exact fun _ => List.mem_append_right _) ?_) | (refine And.intro (fun h => ?_) (fun h => ?_) <;> (try simp only [n1, n2, n3, n4, n5, n6] at h) <;> first | (exfalso; omega) | (cases h; done) | skip) | refine And.intro (by omega) ?_ | refine Exists.intro _ (And.intro (by first | exact And.intro rfl rfl | exact Pl.den (by repeat constructor) | with_reducible rfl | exact cast_succ _ | assumption | exact (Int.toNat_of_nonneg (by omega)).symm | rfl) ?_) | refine hD _ _ ?_ | refine hL _ _ ?_ | (intro h; (try simp only [n1, n2, n3, n4, n5, n6] at h); first | (exfalso; omega) | (cases h; done) | skip)) <;> (conv => whnf))
  refine Tri.use (tKSub0 fx hg x y) [] rfl (fun _ _ _ => rfl) trivial (fun f hf => by first | exact hf | cases hf) (fun r hr => ?_)
  conv => whnf
  repeat' ((first | refine And.intro (by repeat' first | exact trivial | refine And.intro rfl ?_) (And.intro (by first | exact fun _ h => h | exact fun _ => List.mem_cons_of_mem _ | exact fun _ => List.mem_append_right _) ?_) | (refine And.intro (fun h => ?_) (fun h => ?_) <;> (try simp only [n1, n2, n3, n4, n5, n6] at h) <;> first | (exfalso; omega) | (cases h; done) | skip) | refine And.intro (by omega) ?_ | refine Exists.intro _ (And.intro (by first | exact And.intro rfl rfl | exact Pl.den (by repeat constructor) | with_reducible rfl | exact cast_succ _ | assumption | exact (Int.toNat_of_nonneg (by omega)).symm | rfl) ?_) | refine hD _ _ ?_ | refine hL _ _ ?_ | (intro h; (try simp only [n1, n2, n3, n4, n5, n6] at h); first | (exfalso; omega) | (cases h; done) | skip)) <;> (conv => whnf))
  exact Ret.noneS rfl (fun _ _ => by have e : r = _ := hr; rw [e]; rfl) (fun g hg => by cases hg)
theorem tRAdd (fx : List Fact) (hg : glob ∈ fx) (x y : K) : Tri Tryd.prog 64 [(eK x).sv, (eK y).sv] [] 0 fx (RetE (α := K) 0 (fun r => r = x + y) (fun r => (eK r).sv) (fun _ => []) 0 (fun _ => [])) := by
  refine Tri.of_code tok Tryd.func64 rfl rfl rfl (by decide) rfl (Nat.le_of_ble_eq_true rfl) ?_
  conv => whnf
  repeat' ((first | refine And.intro (by repeat' first | exact trivial | refine And.intro rfl ?_) (And.intro (by first | exact fun _ h => h | exact fun _ => List.mem_cons_of_mem _ | exact fun _ => List.mem_append_right _) ?_) | (refine And.intro (fun h => ?_) (fun h => ?_) <;> (try simp only [n1, n2, n3, n4, n5, n6] at h) <;> first | (exfalso; omega) | (cases h; done) | skip) | refine And.intro (by omega) ?_ | refine Exists.intro _ (And.intro (by first | exact And.intro rfl rfl | exact Pl.den (by repeat constructor) | with_reducible rfl | exact cast_succ _ | assumption | exact (Int.toNat_of_nonneg (by omega)).symm | rfl) ?_) | refine hD _ _ ?_ | refine hL _ _ ?_ | (intro h; (try simp only [n1, n2, n3, n4, n5, n6] at h); first | (exfalso; omega) | (cases h; done) | skip)) <;> (conv => whnf))
  refine Tri.use (tKAdd0 fx hg x y) [] rfl (fun _ _ _ => rfl) trivial (fun f hf => by first | exact hf | cases hf) (fun r hr => ?_)
  conv => whnf
  repeat' ((first | refine And.intro (by repeat' first | exact trivial | refine And.intro rfl ?_) (And.intro (by first | exact fun _ h => h | exact fun _ => List.mem_cons_of_mem _ | exact fun _ => List.mem_append_right _) ?_) | (refine And.intro (fun h => ?_) (fun h => ?_) <;> (try simp only [n1, n2, n3, n4, n5, n6] at h) <;> first | (exfalso; omega) | (cases h; done) | skip) | refine And.intro (by omega) ?_ | refine Exists.intro _ (And.intro (by first | exact And.intro rfl rfl | exact Pl.den (by repeat constructor) | with_reducible rfl | exact cast_succ _ | assumption | exact (Int.toNat_of_nonneg (by omega)).symm | rfl) ?_) | refine hD _ _ ?_ | refine hL _ _ ?_ | (intro h; (try simp only [n1, n2, n3, n4, n5, n6] at h); first | (exfalso; omega) | (cases h; done) | skip)) <;> (conv => whnf))
  exact Ret.noneS rfl (fun _ _ => by have e : r = _ := hr; rw [e]; rfl) (fun g hg => by cases hg)
theorem tRSub (fx : List Fact) (hg : glob ∈ fx) (x y : K) : Tri Tryd.prog 65 [(eK x).sv, (eK y).sv] [] 0 fx (RetE (α := K) 0 (fun r => r = x - y) (fun r => (eK r).sv) (fun _ => []) 0 (fun _ => [])) := by
  refine Tri.of_code tok Tryd.func65 rfl rfl rfl (by decide) rfl (Nat.le_of_ble_eq_true rfl) ?_
  conv => whnf
  repeat' ((first | refine And.intro (by repeat' first | exact trivial | refine And.intro rfl ?_) (And.intro (by first | exact fun _ h => h | exact fun _ => List.mem_cons_of_mem _ | exact fun _ => List.mem_append_right _) ?_) | (refine And.intro (fun h => ?_) (fun h => ?_) <;> (try simp only [n1, n2, n3, n4, n5, n6] at h) <;> first | (exfalso; omega) | (cases h; done) | skip) | refine And.intro (by omega) ?_ | refine Exists.intro _ (And.intro (by first | exact And.intro rfl rfl | exact Pl.den (by repeat constructor) | with_reducible rfl | exact cast_succ _ | assumption | exact (Int.toNat_of_nonneg (by omega)).symm | rfl) ?_) | refine hD _ _ ?_ | refine hL _ _ ?_ | (intro h; (try simp only [n1, n2, n3, n4, n5, n6] at h); first | (exfalso; omega) | (cases h; done) | skip)) <;> (conv => whnf))
  refine Tri.use (tKSub0 fx hg x y) [] rfl (fun _ _ _ => rfl) trivial (fun f hf => by first | exact hf | cases hf) (fun r hr => ?_)
  conv => whnf
  repeat' ((first | refine And.intro (by repeat' first | exact trivial | refine And.intro rfl ?_) (And.intro (by first | exact fun _ h => h | exact fun _ => List.mem_cons_of_mem _ | exact fun _ => List.mem_append_right _) ?_) | (refine And.intro (fun h => ?_) (fun h => ?_) <;> (try simp only [n1, n2, n3, n4, n5, n6] at h) <;> first | (exfalso; omega) | (cases h; done) | skip) | refine And.intro (by omega) ?_ | refine Exists.intro _ (And.intro (by first | exact And.intro rfl rfl | exact Pl.den (by repeat constructor) | with_reducible rfl | exact cast_succ _ | assumption | exact (Int.toNat_of_nonneg (by omega)).symm | rfl) ?_) | refine hD _ _ ?_ | refine hL _ _ ?_ | (intro h; (try simp only [n1, n2, n3, n4, n5, n6] at h); first | (exfalso; omega) | (cases h; done) | skip)) <;> (conv => whnf))
  exact Ret.noneS rfl (fun _ _ => by have e : r = _ := hr; rw [e]; rfl) (fun g hg => by cases hg)
theorem tRMul (fx : List Fact) (hg : glob ∈ fx) (x y : K) : Tri Tryd.prog 66 [(eK x).sv, (eK y).sv] [] 0 fx (RetE (α := K) 0 (fun r => r = x * y) (fun r => (eK r).sv) (fun _ => []) 0 (fun _ => [])) := by
  refine Tri.of_code tok Tryd.func66 rfl rfl rfl (by decide) rfl (Nat.le_of_ble_eq_true rfl) ?_
  conv => whnf
  repeat' ((first | refine And.intro (by repeat' first | exact trivial | refine And.intro rfl ?_) (And.intro (by first | exact fun _ h => h | exact fun _ => List.mem_cons_of_mem _ | exact fun _ => List.mem_append_right _) ?_) | (refine And.intro (fun h => ?_) (fun h => ?_) <;> (try simp only [n1, n2, n3, n4, n5, n6] at h) <;> first | (exfalso; omega) | (cases h; done) | skip) | refine And.intro (by omega) ?_ | refine Exists.intro _ (And.intro (by first | exact And.intro rfl rfl | exact Pl.den (by repeat constructor) | with_reducible rfl | exact cast_succ _ | assumption | exact (Int.toNat_of_nonneg (by omega)).symm | rfl) ?_) | refine hD _ _ ?_ | refine hL _ _ ?_ | (intro h; (try simp only [n1, n2, n3, n4, n5, n6] at h); first | (exfalso; omega) | (cases h; done) | skip)) <;> (conv => whnf))
  refine Tri.use (tKMul0 fx hg x y) [] rfl (fun _ _ _ => rfl) trivial (fun f hf => by first | exact hf | cases hf) (fun r hr => ?_)
  conv => whnf
  repeat' ((first | refine And.intro (by repeat' first | exact trivial | refine And.intro rfl ?_) (And.intro (by first | exact fun _ h => h | exact fun _ => List.mem_cons_of_mem _ | exact fun _ => List.mem_append_right _) ?_) | (refine And.intro (fun h => ?_) (fun h => ?_) <;> (try simp only [n1, n2, n3, n4, n5, n6] at h) <;> first | (exfalso; omega) | (cases h; done) | skip) | refine And.intro (by omega) ?_ | refine Exists.intro _ (And.intro (by first | exact And.intro rfl rfl | exact Pl.den (by repeat constructor) | with_reducible rfl | exact cast_succ _ | assumption | exact (Int.toNat_of_nonneg (by omega)).symm | rfl) ?_) | refine hD _ _ ?_ | refine hL _ _ ?_ | (intro h; (try simp only [n1, n2, n3, n4, n5, n6] at h); first | (exfalso; omega) | (cases h; done) | skip)) <;> (conv => whnf))
  exact Ret.noneS rfl (fun _ _ => by have e : r = _ := hr; rw [e]; rfl) (fun g hg => by cases hg)
end Go.Proofs.YtekgjjanikicnaaDoor.Sx
