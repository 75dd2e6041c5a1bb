/- Numbers taken out of bytes. -/
import Derived.Test.YtekgjjanikicnaaDoorFeS
namespace Go.Proofs.YtekgjjanikicnaaDoor.Sx
open Go Go.Proofs.YtekgjjanikicnaaDoor.Pm
set_option maxRecDepth 100000
set_option linter.unusedSimpArgs false
set_option linter.unusedVariables false

/-- The number of some bytes, the least first. -/
def leV : List UInt8 → Nat
  | [] => 0
  | c :: r => c.toNat + 256 * leV r
theorem leV_lt : ∀ l : List UInt8, leV l < 256 ^ l.length
  | [] => by simp [leV]
  | c :: r => by
    have h := leV_lt r
    have hc := c.toNat_lt
    simp only [leV, List.length_cons, Nat.pow_succ]
    omega
theorem leV_append : ∀ a b : List UInt8, leV (a ++ b) = leV a + 256 ^ a.length * leV b
  | [], b => by simp [leV]
  | c :: r, b => by
    simp only [List.cons_append, leV, List.length_cons, leV_append r b, Nat.pow_succ]
    rw [Nat.mul_add, ← Nat.mul_assoc, Nat.mul_comm 256 (256 ^ r.length)]
    omega
set_option maxHeartbeats 1000000 in
theorem tClone (fx : List Fact) (A : Option Addr) (cap : Nat) (l : List UInt8) (hA : BytesAt fx A l) (hl : l.length < 1000000) (hc : l.length ≤ cap) (h0 : 0 < l.length) :
    Tri Tryd.prog 112 [.v (.slice A l.length cap)] [] 0 fx (RetE (α := List Value) 0 (fun sp => True) (fun sp => .s 0 0 l.length (l.length + sp.length)) (fun sp => [(0, .row (l.map bv ++ sp) 5)]) 1 (fun _ => [])) := by
  have hne : A ≠ none := fun e => by rw [hA.1 e] at h0; exact absurd h0 (by decide)
  obtain ⟨ad, rfl⟩ : ∃ ad, A = some ad := by cases A; exact absurd rfl hne; exact ⟨_, rfl⟩
  refine Tri.of_code tok Tryd.func112 rfl rfl rfl (by decide) rfl (Nat.le_of_ble_eq_true rfl) ?_
  conv => whnf
  repeat' ((first | refine And.intro (by repeat' first | exact trivial | refine And.intro rfl ?_) (And.intro (by first | exact fun _ h => h | exact fun _ => List.mem_cons_of_mem _ | exact fun _ => List.mem_append_right _) ?_) | (refine And.intro (fun h => ?_) (fun h => ?_) <;> (try simp only [n1, n2, n3, n4, n5, n6] at h) <;> first | (exfalso; omega) | (cases h; done) | skip) | refine And.intro (by omega) ?_ | refine Exists.intro _ (And.intro (by first | exact And.intro rfl rfl | exact Pl.den (by repeat constructor) | with_reducible rfl | exact cast_succ _ | assumption | exact (Int.toNat_of_nonneg (by omega)).symm | rfl) ?_) | refine hD _ _ ?_ | refine hL _ _ ?_ | (intro h; (try simp only [n1, n2, n3, n4, n5, n6] at h); first | (exfalso; omega) | (cases h; done) | skip)) <;> (conv => whnf))
  refine ⟨l.map bv, ⟨by simp, hA.rowAt⟩, ?_⟩
  conv => whnf
  repeat' ((first | refine And.intro (by repeat' first | exact trivial | refine And.intro rfl ?_) (And.intro (by first | exact fun _ h => h | exact fun _ => List.mem_cons_of_mem _ | exact fun _ => List.mem_append_right _) ?_) | (refine And.intro (fun h => ?_) (fun h => ?_) <;> (try simp only [n1, n2, n3, n4, n5, n6] at h) <;> first | (exfalso; omega) | (cases h; done) | skip) | refine And.intro (by omega) ?_ | refine Exists.intro _ (And.intro (by first | exact And.intro rfl rfl | exact Pl.den (by repeat constructor) | with_reducible rfl | exact cast_succ _ | assumption | exact (Int.toNat_of_nonneg (by omega)).symm | rfl) ?_) | refine hD _ _ ?_ | refine hL _ _ ?_ | (intro h; (try simp only [n1, n2, n3, n4, n5, n6] at h); first | (exfalso; omega) | (cases h; done) | skip)) <;> (conv => whnf))
  refine And.intro ⟨by omega, Nat.le_refl _, rfl, fun u hu => by obtain ⟨c, _, rfl⟩ := List.mem_map.1 hu; rfl⟩ ?_
  intro m sp hsp
  conv => whnf
  repeat' ((first | refine And.intro (by repeat' first | exact trivial | refine And.intro rfl ?_) (And.intro (by first | exact fun _ h => h | exact fun _ => List.mem_cons_of_mem _ | exact fun _ => List.mem_append_right _) ?_) | (refine And.intro (fun h => ?_) (fun h => ?_) <;> (try simp only [n1, n2, n3, n4, n5, n6] at h) <;> first | (exfalso; omega) | (cases h; done) | skip) | refine And.intro (by omega) ?_ | refine Exists.intro _ (And.intro (by first | exact And.intro rfl rfl | exact Pl.den (by repeat constructor) | with_reducible rfl | exact cast_succ _ | assumption | exact (Int.toNat_of_nonneg (by omega)).symm | rfl) ?_) | refine hD _ _ ?_ | refine hL _ _ ?_ | (intro h; (try simp only [n1, n2, n3, n4, n5, n6] at h); first | (exfalso; omega) | (cases h; done) | skip)) <;> (conv => whnf))
  refine ⟨sp, trivial, ?_⟩
  exact Ret.mk [1] [(1, .row (List.take (0 * 1) [] ++ l.map bv ++ sp) 5)] (Fold.refl _) rfl (by rw [show 0 + l.length = l.length by omega, show m = sp.length by omega]; exact SEq.ren rfl rfl) ⟨OSub.row (by rw [Nat.zero_mul, List.take_zero, List.nil_append]), trivial⟩ (fun _ h => nomatch h)
/-- Eight bytes of a row. -/
def ch (l : List UInt8) (j : Nat) : List UInt8 := (l.drop (8 * j)).take 8
theorem ch_len (l : List UInt8) (j : Nat) : (ch l j).length ≤ 8 := by unfold ch; rw [List.length_take]; omega
theorem ch_lt (l : List UInt8) (j : Nat) : leV (ch l j) < 18446744073709551616 :=
  Nat.lt_of_lt_of_le (leV_lt _) (Nat.le_trans (Nat.pow_le_pow_right (by decide) (ch_len l j)) (by decide))
def nL (l : List UInt8) : N4 := ⟨leV (ch l 0), leV (ch l 1), leV (ch l 2), leV (ch l 3)⟩
theorem nL_ok (l : List UInt8) : (nL l).Ok := N4.Ok.of (ch_lt l 0) (ch_lt l 1) (ch_lt l 2) (ch_lt l 3)
theorem nL_limb (l : List UInt8) {q : Nat} (hq : q < 4) : (nL l).limb q = leV (ch l q) := by
  match q, hq with
  | 0, _ => rfl
  | 1, _ => rfl
  | 2, _ => rfl
  | 3, _ => rfl
theorem nL_val {l : List UInt8} (h : l.length = 32) : (nL l).val = leV l := by
  have e : l = ch l 0 ++ (ch l 1 ++ (ch l 2 ++ ch l 3)) := by
    have h3 : ch l 3 = l.drop 24 := by unfold ch; rw [List.take_of_length_le (by rw [List.length_drop]; omega)]
    have h2 : ch l 2 ++ l.drop 24 = l.drop 16 := by unfold ch; rw [show l.drop 24 = (l.drop 16).drop 8 by rw [List.drop_drop], List.take_append_drop]
    have h1 : ch l 1 ++ l.drop 16 = l.drop 8 := by unfold ch; rw [show l.drop 16 = (l.drop 8).drop 8 by rw [List.drop_drop], List.take_append_drop]
    have h0 : ch l 0 ++ l.drop 8 = l := by unfold ch; rw [Nat.mul_zero, List.drop_zero, List.take_append_drop]
    rw [h3, h2, h1, h0]
  have l0 : (ch l 0).length = 8 := by unfold ch; rw [List.length_take, List.length_drop]; omega
  have l1 : (ch l 1).length = 8 := by unfold ch; rw [List.length_take, List.length_drop]; omega
  have l2 : (ch l 2).length = 8 := by unfold ch; rw [List.length_take, List.length_drop]; omega
  conv => rhs; rw [e]
  rw [leV_append, leV_append, leV_append, l0, l1, l2]
  simp only [nL, N4.val, Nat.reducePow]
  omega
theorem ch_same {T : List UInt8} {c : UInt8} {j : Nat} (h : j ≠ T.length / 8) : ch (T ++ [c]) j = ch T j := by
  unfold ch
  by_cases hj : 8 * j ≤ T.length
  · rw [List.drop_append_of_le_length hj, List.take_append_of_le_length (by rw [List.length_drop]; omega)]
  · rw [List.drop_of_length_le (by rw [List.length_append, List.length_singleton]; omega), List.drop_of_length_le (by omega)]
theorem ch_here (T : List UInt8) (c : UInt8) : ch (T ++ [c]) (T.length / 8) = ch T (T.length / 8) ++ [c] ∧ (ch T (T.length / 8)).length = T.length % 8 := by
  unfold ch
  have hl : (T.drop (8 * (T.length / 8))).length = T.length % 8 := by rw [List.length_drop]; omega
  have hm : T.length % 8 < 8 := Nat.mod_lt _ (by decide)
  rw [List.drop_append_of_le_length (by omega), List.take_of_length_le (l := T.drop _ ++ [c]) (by rw [List.length_append, hl, List.length_singleton]; omega), List.take_of_length_le (l := T.drop _) (by rw [hl]; omega)]
  exact ⟨rfl, hl⟩
theorem put_byte {T : List UInt8} {i : Nat} (c : UInt8) (hi : T.length = i) : bitz .or .u64 ((leV (ch T (i / 8)) : Nat) : Int) (IntKind.u64.wrap (IntKind.u64.wrap ((c.toNat : Nat) : Int) * ((pw .u64 (8 * ((i : Int) % 8)) : Nat) : Int))) = ((leV (ch (T ++ [c]) (i / 8)) : Nat) : Int) := by
  have hr : i % 8 < 8 := Nat.mod_lt _ (by decide)
  have h1 : pw .u64 (8 * ((i : Int) % 8)) = 256 ^ (i % 8) := by
    unfold pw
    have hb : IntKind.u64.bits = 64 := rfl
    rw [hb, show (8 * ((i : Int) % 8)).toNat = 8 * (i % 8) by omega, Nat.min_eq_left (by omega), Nat.pow_mul]
  have hc := c.toNat_lt
  obtain ⟨h2, h3⟩ := ch_here T c
  rw [hi] at h2 h3
  have hX := leV_lt (ch T (i / 8))
  rw [h3] at hX
  have hp : 256 ^ (i % 8) ≤ 256 ^ 7 := Nat.pow_le_pow_right (by decide) (by omega)
  have hp7 : (256 : Nat) ^ 7 = 72057594037927936 := by decide
  have hy : c.toNat * 256 ^ (i % 8) < 18446744073709551616 := by
    have : c.toNat * 256 ^ (i % 8) ≤ 255 * 72057594037927936 := Nat.mul_le_mul (by omega) (by omega)
    omega
  rw [h1, Word.wrapN _ (by omega), Word.mulN, Word.wrapN _ hy, or_u64 _ _ (ch_lt T _) hy, h2, leV_append, h3]
  congr 1
  have e := or_low (8 * (i % 8)) c.toNat (leV (ch T (i / 8))) (by rw [Nat.pow_mul]; exact hX)
  rw [Nat.pow_mul, show (2 : Nat) ^ 8 = 256 by decide] at e
  rw [Nat.or_comm, e]
  simp only [leV]
  rw [Nat.mul_zero, Nat.add_zero, Nat.mul_comm, Nat.add_comm]
theorem nL_put {T : List UInt8} {i : Nat} (c : UInt8) (hi : T.length = i) (h : i < 32) (v : SV) (hv : v = .v (.int .u64 ((leV (ch (T ++ [c]) (i / 8)) : Nat) : Int))) :
    splice [SV.v (.int .u64 ((nL T).a : Int)), .v (.int .u64 ((nL T).b : Int)), .v (.int .u64 ((nL T).c : Int)), .v (.int .u64 ((nL T).d : Int))] (0 + i / 8 * 1) [v]
      = [SV.v (.int .u64 ((nL (T ++ [c])).a : Int)), .v (.int .u64 ((nL (T ++ [c])).b : Int)), .v (.int .u64 ((nL (T ++ [c])).c : Int)), .v (.int .u64 ((nL (T ++ [c])).d : Int))] := by
  subst hv
  have hs := fun j (hj : j ≠ i / 8) => ch_same (T := T) (c := c) (j := j) (by rw [hi]; exact hj)
  have hq : i / 8 = 0 ∨ i / 8 = 1 ∨ i / 8 = 2 ∨ i / 8 = 3 := by omega
  rcases hq with hq | hq | hq | hq
  · simp only [nL, hs 1 (by omega), hs 2 (by omega), hs 3 (by omega), hq]; rfl
  · simp only [nL, hs 0 (by omega), hs 2 (by omega), hs 3 (by omega), hq]; rfl
  · simp only [nL, hs 0 (by omega), hs 1 (by omega), hs 3 (by omega), hq]; rfl
  · simp only [nL, hs 0 (by omega), hs 1 (by omega), hs 2 (by omega), hq]; rfl
set_option maxHeartbeats 1000000 in
theorem tLittle (fx : List Fact) (A : Option Addr) (cap : Nat) (l : List UInt8) (hA : BytesAt fx A l) (hl : l.length = 32) (hc : l.length ≤ cap) :
    Tri Tryd.prog 114 [.v (.slice A 32 cap)] [] 0 fx (RetE (α := N4) 0 (fun x => x.Ok ∧ x.val = leV l) (fun x => .tup [x.sv, .b true]) (fun _ => []) 0 (fun _ => [])) := by
  refine Tri.of_code tok Tryd.func114 rfl rfl rfl (by decide) rfl (Nat.le_of_ble_eq_true rfl) ?_
  conv => whnf
  repeat' ((first | refine And.intro (by repeat' first | exact trivial | refine And.intro rfl ?_) (And.intro (by first | exact fun _ h => h | exact fun _ => List.mem_cons_of_mem _ | exact fun _ => List.mem_append_right _) ?_) | (refine And.intro (fun h => ?_) (fun h => ?_) <;> (try simp only [n1, n2, n3, n4, n5, n6] at h) <;> first | (exfalso; omega) | (cases h; done) | skip) | refine And.intro (by omega) ?_ | refine Exists.intro _ (And.intro (by first | exact And.intro rfl rfl | exact Pl.den (by repeat constructor) | with_reducible rfl | exact cast_succ _ | assumption | exact (Int.toNat_of_nonneg (by omega)).symm | rfl) ?_) | refine hD _ _ ?_ | refine hL _ _ ?_ | (intro h; (try simp only [n1, n2, n3, n4, n5, n6] at h); first | (exfalso; omega) | (cases h; done) | skip)) <;> (conv => whnf))
  refine loop_by tok (α := Nat) (fun i => ⟨[(2, .p 0 0), (4, .p 1 0), (11, .v (.slice A 32 cap)), (12, .v (.int .i64 32)), (13, .v (.int .i64 (i : Int)))],
    [(1, .cells [.v (.int .u64 ((nL (l.take i)).a : Int)), .v (.int .u64 ((nL (l.take i)).b : Int)), .v (.int .u64 ((nL (l.take i)).c : Int)), .v (.int .u64 ((nL (l.take i)).d : Int))] 24), (0, .cells [.k .u64 0, .k .u64 0, .k .u64 0, .k .u64 0] 24)], 2, fx⟩)
    (fun i => i ≤ 32) (fun i => 32 - i) 0 [0, 1] (Nat.zero_le _) ?_ ?_
  · exact ⟨rfl, ⟨SEq.ren rfl rfl, SEq.ren rfl rfl, (fun _ _ _ => rfl), (fun _ _ _ => rfl), (fun _ _ _ => rfl), trivial⟩, ⟨OSub.dens (fun _ _ => rfl), OSub.ren rfl rfl, trivial⟩, fun f hf => hf⟩
  rintro i hi
  have hq : ((i / 8 : Nat) : Int) = (i : Int) / 8 := by omega
  by_cases hi32 : i < 32
  · obtain ⟨c, hcl⟩ : ∃ c, l[i]? = some c := ⟨_, List.getElem?_eq_getElem (by omega)⟩
    obtain ⟨ad, hAe, hF⟩ := hA.geti hcl
    conv => whnf
    repeat' ((first | (refine Exists.intro ad (And.intro hAe ?_)) | (refine Exists.intro (bv c) (And.intro (by rw [Nat.mul_one]; exact hF) ?_)) | refine And.intro (by repeat' first | exact trivial | refine And.intro rfl ?_) (And.intro (by first | exact fun _ h => h | exact fun _ => List.mem_cons_of_mem _ | exact fun _ => List.mem_append_right _) ?_) | (refine And.intro (fun h => ?_) (fun h => ?_) <;> (try simp only [n1, n2, n3, n4, n5, n6] at h) <;> first | (exfalso; omega) | (cases h; done) | skip) | refine And.intro (by omega) ?_ | refine Exists.intro _ (And.intro (by first | exact And.intro rfl rfl | exact Pl.den (by repeat constructor) | with_reducible rfl | exact cast_succ _ | assumption | exact (Int.toNat_of_nonneg (by omega)).symm | rfl) ?_) | refine hD _ _ ?_ | refine hL _ _ ?_ | (intro h; (try simp only [n1, n2, n3, n4, n5, n6] at h); first | (exfalso; omega) | (cases h; done) | skip)) <;> (conv => whnf))
    refine draw_opaque fun KD hD => ?_
    refine draw_all tok (by kernel_rfl) [.any 0, .any 1, .any 2, .any 4, .any 5, .any 6, .any 7, .any 8, .any 9, .one 3, .any 10, .any 11, .last 12] [12] (by kernel_rfl) rfl rfl (by repeat' (first | exact trivial | refine And.intro rfl ?_)) ?_
    conv => whnf
    repeat' ((first | (refine Exists.intro (i / 8) (And.intro hq.symm ?_)) | (refine Exists.intro _ (And.intro (limb_get (nL (l.take i)) (by omega)) ?_)) | refine And.intro (by repeat' first | exact trivial | refine And.intro rfl ?_) (And.intro (by first | exact fun _ h => h | exact fun _ => List.mem_cons_of_mem _ | exact fun _ => List.mem_append_right _) ?_) | (refine And.intro (fun h => ?_) (fun h => ?_) <;> (try simp only [n1, n2, n3, n4, n5, n6] at h) <;> first | (exfalso; omega) | (cases h; done) | skip) | refine And.intro (by omega) ?_ | refine Exists.intro _ (And.intro (by first | exact And.intro rfl rfl | exact Pl.den (by repeat constructor) | with_reducible rfl | exact cast_succ _ | assumption | exact (Int.toNat_of_nonneg (by omega)).symm | rfl) ?_) | refine hD _ _ ?_ | refine hL _ _ ?_ | (intro h; (try simp only [n1, n2, n3, n4, n5, n6] at h); first | (exfalso; omega) | (cases h; done) | skip)) <;> (conv => whnf))
    have hT : (l.take i).length = i := by rw [List.length_take]; omega
    have hst : l.take (i + 1) = l.take i ++ [c] := by rw [List.take_add_one, hcl]; rfl
    refine And.intro (by rw [List.length_singleton]; show _ ≤ 4; omega) ?_
    conv => whnf
    repeat' ((first | refine And.intro (by repeat' first | exact trivial | refine And.intro rfl ?_) (And.intro (by first | exact fun _ h => h | exact fun _ => List.mem_cons_of_mem _ | exact fun _ => List.mem_append_right _) ?_) | (refine And.intro (fun h => ?_) (fun h => ?_) <;> (try simp only [n1, n2, n3, n4, n5, n6] at h) <;> first | (exfalso; omega) | (cases h; done) | skip) | refine And.intro (by omega) ?_ | refine Exists.intro _ (And.intro (by first | exact And.intro rfl rfl | exact Pl.den (by repeat constructor) | with_reducible rfl | exact cast_succ _ | assumption | exact (Int.toNat_of_nonneg (by omega)).symm | rfl) ?_) | refine hD _ _ ?_ | refine hL _ _ ?_ | (intro h; (try simp only [n1, n2, n3, n4, n5, n6] at h); first | (exfalso; omega) | (cases h; done) | skip)) <;> (conv => whnf))
    refine ⟨i + 1, [0, 1], ⟨by omega, by omega⟩, ⟨rfl, ⟨SEq.ren rfl rfl, SEq.ren rfl rfl, (fun _ _ _ => rfl), (fun _ _ _ => rfl), (fun _ _ _ => rfl), trivial⟩, ⟨OSub.ren rfl (by rw [hst]; exact congrArg (SObj.cells · 24) (nL_put c hT hi32 _ (by rw [nL_limb _ (by omega)]; exact congrArg (fun z => SV.v (Value.int .u64 z)) (put_byte c hT))).symm), OSub.ren rfl rfl, trivial⟩, fun f hf => hf⟩⟩
  · have e : i = 32 := by omega
    subst e
    conv => whnf
    repeat' ((first | refine And.intro (by repeat' first | exact trivial | refine And.intro rfl ?_) (And.intro (by first | exact fun _ h => h | exact fun _ => List.mem_cons_of_mem _ | exact fun _ => List.mem_append_right _) ?_) | (refine And.intro (fun h => ?_) (fun h => ?_) <;> (try simp only [n1, n2, n3, n4, n5, n6] at h) <;> first | (exfalso; omega) | (cases h; done) | skip) | refine And.intro (by omega) ?_ | refine Exists.intro _ (And.intro (by first | exact And.intro rfl rfl | exact Pl.den (by repeat constructor) | with_reducible rfl | exact cast_succ _ | assumption | exact (Int.toNat_of_nonneg (by omega)).symm | rfl) ?_) | refine hD _ _ ?_ | refine hL _ _ ?_ | (intro h; (try simp only [n1, n2, n3, n4, n5, n6] at h); first | (exfalso; omega) | (cases h; done) | skip)) <;> (conv => whnf))
    have e2 : l.take 32 = l := List.take_of_length_le (by omega)
    refine ⟨nL l, ⟨nL_ok l, nL_val hl⟩, Ret.noneS rfl (fun _ _ => by rw [e2]; rfl) (fun _ h => nomatch h)⟩
set_option maxHeartbeats 1000000 in
theorem tBig (fx : List Fact) (A : Option Addr) (cap : Nat) (l : List UInt8) (hA : BytesAt fx A l) (hl : l.length = 32) (hc : l.length ≤ cap) :
    Tri Tryd.prog 85 [.v (.slice A 32 cap)] [] 0 fx (RetE (α := N4) 0 (fun x => x.Ok ∧ x.val = leV l.reverse) (fun x => .tup [x.sv, .b true]) (fun _ => []) 0 (fun _ => [])) := by
  have tcl := tClone fx A cap l hA (by omega) hc (by omega)
  rw [hl] at tcl
  refine Tri.of_code tok Tryd.func85 rfl rfl rfl (by decide) rfl (Nat.le_of_ble_eq_true rfl) ?_
  conv => whnf
  repeat' ((first | refine And.intro (by repeat' first | exact trivial | refine And.intro rfl ?_) (And.intro (by first | exact fun _ h => h | exact fun _ => List.mem_cons_of_mem _ | exact fun _ => List.mem_append_right _) ?_) | (refine And.intro (fun h => ?_) (fun h => ?_) <;> (try simp only [n1, n2, n3, n4, n5, n6] at h) <;> first | (exfalso; omega) | (cases h; done) | skip) | refine And.intro (by omega) ?_ | refine Exists.intro _ (And.intro (by first | exact And.intro rfl rfl | exact Pl.den (by repeat constructor) | with_reducible rfl | exact cast_succ _ | assumption | exact (Int.toNat_of_nonneg (by omega)).symm | rfl) ?_) | refine hD _ _ ?_ | refine hL _ _ ?_ | (intro h; (try simp only [n1, n2, n3, n4, n5, n6] at h); first | (exfalso; omega) | (cases h; done) | skip)) <;> (conv => whnf))
  refine Tri.use tcl [] rfl (fun _ _ _ => rfl) trivial (fun f hf => hf) fun sp hsp => ?_
  conv => whnf
  repeat' ((first | refine And.intro (by repeat' first | exact trivial | refine And.intro rfl ?_) (And.intro (by first | exact fun _ h => h | exact fun _ => List.mem_cons_of_mem _ | exact fun _ => List.mem_append_right _) ?_) | (refine And.intro (fun h => ?_) (fun h => ?_) <;> (try simp only [n1, n2, n3, n4, n5, n6] at h) <;> first | (exfalso; omega) | (cases h; done) | skip) | refine And.intro (by omega) ?_ | refine Exists.intro _ (And.intro (by first | exact And.intro rfl rfl | exact Pl.den (by repeat constructor) | with_reducible rfl | exact cast_succ _ | assumption | exact (Int.toNat_of_nonneg (by omega)).symm | rfl) ?_) | refine hD _ _ ?_ | refine hL _ _ ?_ | (intro h; (try simp only [n1, n2, n3, n4, n5, n6] at h); first | (exfalso; omega) | (cases h; done) | skip)) <;> (conv => whnf))
  have trv := tReverse fx l sp (32 + sp.length) (by omega)
  rw [hl] at trv
  refine Tri.use trv.one [1] rfl (args_ren rfl rfl) ⟨OSub.ren rfl rfl, trivial⟩ (fun f hf => by first | exact hf | cases hf | simp_all) (fun u hu => ?_)
  conv => whnf
  repeat' ((first | refine And.intro (by repeat' first | exact trivial | refine And.intro rfl ?_) (And.intro (by first | exact fun _ h => h | exact fun _ => List.mem_cons_of_mem _ | exact fun _ => List.mem_append_right _) ?_) | (refine And.intro (fun h => ?_) (fun h => ?_) <;> (try simp only [n1, n2, n3, n4, n5, n6] at h) <;> first | (exfalso; omega) | (cases h; done) | skip) | refine And.intro (by omega) ?_ | refine Exists.intro _ (And.intro (by first | exact And.intro rfl rfl | exact Pl.den (by repeat constructor) | with_reducible rfl | exact cast_succ _ | assumption | exact (Int.toNat_of_nonneg (by omega)).symm | rfl) ?_) | refine hD _ _ ?_ | refine hL _ _ ?_ | (intro h; (try simp only [n1, n2, n3, n4, n5, n6] at h); first | (exfalso; omega) | (cases h; done) | skip)) <;> (conv => whnf))
  refine Tri.lend 1 (xs := l.reverse.map bv ++ sp) (T := 5) (fun b => [.v (.slice (some ⟨b, 0, none⟩) 32 (32 + sp.length))]) (by repeat first | exact List.mem_cons_self .. | apply List.mem_cons_of_mem) rowOf.row (fun _ => rfl) fun b => ?_
  refine Tri.use (tLittle (rowFact b (l.reverse.map bv ++ sp) 5 :: fx) _ (32 + sp.length) l.reverse (BytesAt.row (List.mem_cons_self ..) (by rw [List.drop_zero, List.take_left' (by simp)])) (by rw [List.length_reverse, hl]) (by rw [List.length_reverse, hl]; omega)) [] rfl (fun _ _ _ => rfl) trivial (fun f hf => hf) fun x hx => ?_
  conv => whnf
  refine And.intro rfl ?_
  conv => whnf
  repeat' ((first | refine And.intro (by repeat' first | exact trivial | refine And.intro rfl ?_) (And.intro (by first | exact fun _ h => h | exact fun _ => List.mem_cons_of_mem _ | exact fun _ => List.mem_append_right _) ?_) | (refine And.intro (fun h => ?_) (fun h => ?_) <;> (try simp only [n1, n2, n3, n4, n5, n6] at h) <;> first | (exfalso; omega) | (cases h; done) | skip) | refine And.intro (by omega) ?_ | refine Exists.intro _ (And.intro (by first | exact And.intro rfl rfl | exact Pl.den (by repeat constructor) | with_reducible rfl | exact cast_succ _ | assumption | exact (Int.toNat_of_nonneg (by omega)).symm | rfl) ?_) | refine hD _ _ ?_ | refine hL _ _ ?_ | (intro h; (try simp only [n1, n2, n3, n4, n5, n6] at h); first | (exfalso; omega) | (cases h; done) | skip)) <;> (conv => whnf))
  exact Ret.noneS rfl (fun _ _ => rfl) (fun _ h => nomatch h)
set_option maxHeartbeats 1000000 in
theorem tEight (fx : List Fact) (A : Option Addr) (cap : Nat) (l : List UInt8) (hA : BytesAt fx A l) (hl : l.length = 8) :
    Tri Tryd.prog 142 [.v (.slice A 8 cap)] [] 0 fx (Ret 0 (.v (.int .u64 ((leV l : Nat) : Int))) [] 0 []) := by
  have hlt : leV l < 18446744073709551616 := by have := leV_lt l; rw [hl] at this; exact this
  refine Tri.of_code tok Tryd.func142 rfl rfl rfl (by decide) rfl (Nat.le_of_ble_eq_true rfl) ?_
  conv => whnf
  repeat' ((first | refine And.intro (by repeat' first | exact trivial | refine And.intro rfl ?_) (And.intro (by first | exact fun _ h => h | exact fun _ => List.mem_cons_of_mem _ | exact fun _ => List.mem_append_right _) ?_) | (refine And.intro (fun h => ?_) (fun h => ?_) <;> (try simp only [n1, n2, n3, n4, n5, n6] at h) <;> first | (exfalso; omega) | (cases h; done) | skip) | refine And.intro (by omega) ?_ | refine Exists.intro _ (And.intro (by first | exact And.intro rfl rfl | exact Pl.den (by repeat constructor) | with_reducible rfl | exact cast_succ _ | assumption | exact (Int.toNat_of_nonneg (by omega)).symm | rfl) ?_) | refine hD _ _ ?_ | refine hL _ _ ?_ | (intro h; (try simp only [n1, n2, n3, n4, n5, n6] at h); first | (exfalso; omega) | (cases h; done) | skip)) <;> (conv => whnf))
  refine loop_by tok (α := Nat) (fun j => ⟨[(0, .v (.slice A 8 cap)), (3, .v (.int .u64 ((leV (l.drop (8 - j)) : Nat) : Int))), (4, .v (.int .i64 (7 - (j : Int))))], [], 0, fx⟩)
    (fun j => j ≤ 8) (fun j => 8 - j) 0 [] (Nat.zero_le _) ?_ ?_
  · exact ⟨rfl, ⟨(fun _ _ _ => rfl), (fun _ _ _ => by rw [List.drop_of_length_le (by omega)]; rfl), (fun _ _ _ => rfl), trivial⟩, trivial, fun f hf => hf⟩
  rintro j hj
  by_cases hj8 : j < 8
  · obtain ⟨c, hcl⟩ : ∃ c, l[7 - j]? = some c := ⟨_, List.getElem?_eq_getElem (by omega)⟩
    obtain ⟨ad, hAe, hF⟩ := hA.geti hcl
    have hd : l.drop (8 - (j + 1)) = c :: l.drop (8 - j) := by
      have hlt2 : 7 - j < l.length := by omega
      rw [show 8 - (j + 1) = 7 - j by omega, List.drop_eq_getElem_cons hlt2, show 7 - j + 1 = 8 - j by omega]
      congr 1
      rw [List.getElem?_eq_getElem hlt2] at hcl
      exact Option.some.inj hcl
    have hb := leV_lt (l.drop (8 - (j + 1)))
    rw [hd, leV, List.length_cons, List.length_drop, hl] at hb
    have hp : 256 ^ (8 - (8 - j) + 1) ≤ 256 ^ 8 := Nat.pow_le_pow_right (by decide) (by omega)
    have hp8 : (256 : Nat) ^ 8 = 18446744073709551616 := by decide
    have hc := c.toNat_lt
    generalize hx : leV (l.drop (8 - j)) = x at *
    conv => whnf
    repeat' ((first | (refine Exists.intro ad (And.intro hAe ?_)) | (refine Exists.intro (bv c) (And.intro (by rw [show ((7 - (j : Int)).toNat * 1) = 7 - j by omega]; exact hF) ?_)) | refine And.intro (by repeat' first | exact trivial | refine And.intro rfl ?_) (And.intro (by first | exact fun _ h => h | exact fun _ => List.mem_cons_of_mem _ | exact fun _ => List.mem_append_right _) ?_) | (refine And.intro (fun h => ?_) (fun h => ?_) <;> (try simp only [n1, n2, n3, n4, n5, n6] at h) <;> first | (exfalso; omega) | (cases h; done) | skip) | refine And.intro (by omega) ?_ | refine Exists.intro _ (And.intro (by first | exact And.intro rfl rfl | exact Pl.den (by repeat constructor) | with_reducible rfl | exact cast_succ _ | assumption | exact (Int.toNat_of_nonneg (by omega)).symm | rfl) ?_) | refine hD _ _ ?_ | refine hL _ _ ?_ | (intro h; (try simp only [n1, n2, n3, n4, n5, n6] at h); first | (exfalso; omega) | (cases h; done) | skip)) <;> (conv => whnf))
    refine ⟨j + 1, [], ⟨by omega, by omega⟩, ⟨rfl, ⟨(fun _ _ _ => rfl), (fun _ _ _ => ?_), (fun _ _ _ => by simp only [den]; congr 1; omega), trivial⟩, trivial, fun f hf => by simpa using hf⟩⟩
    rw [hd, leV, hx]
    simp only [den]
    rw [show (x : Int) * 256 = ((x * 256 : Nat) : Int) by omega, Word.wrapN _ (by omega), Word.wrapN _ (by omega), Word.addN, Word.wrapN _ (by omega), Nat.mul_comm, Nat.add_comm]
  · have e : j = 8 := by omega
    subst e
    conv => whnf
    repeat' ((first | refine And.intro (by repeat' first | exact trivial | refine And.intro rfl ?_) (And.intro (by first | exact fun _ h => h | exact fun _ => List.mem_cons_of_mem _ | exact fun _ => List.mem_append_right _) ?_) | (refine And.intro (fun h => ?_) (fun h => ?_) <;> (try simp only [n1, n2, n3, n4, n5, n6] at h) <;> first | (exfalso; omega) | (cases h; done) | skip) | refine And.intro (by omega) ?_ | refine Exists.intro _ (And.intro (by first | exact And.intro rfl rfl | exact Pl.den (by repeat constructor) | with_reducible rfl | exact cast_succ _ | assumption | exact (Int.toNat_of_nonneg (by omega)).symm | rfl) ?_) | refine hD _ _ ?_ | refine hL _ _ ?_ | (intro h; (try simp only [n1, n2, n3, n4, n5, n6] at h); first | (exfalso; omega) | (cases h; done) | skip)) <;> (conv => whnf))
    exact Ret.noneS rfl (fun _ _ => rfl) (fun _ h => nomatch h)
theorem BytesAt.dropRow {fx : List Fact} {A : Option Addr} {bs : List UInt8} (h : BytesAt fx A bs) {k cap : Nat} (hc : bs.length ≤ cap) : RowAt fx (A.map fun ad => if cap = k then ad else ad.add (k * 1)) ((bs.drop k).map bv) := by
  refine ⟨fun e => ?_, fun ad e j y hj => ?_⟩
  · cases A with
    | none => rw [h.1 rfl]; simp
    | some ad => cases e
  · cases A with
    | none => cases e
    | some a0 =>
      by_cases hk : cap = k
      · rw [List.drop_eq_nil_of_le (by omega)] at hj; simp at hj
      · simp only [Option.map_some, if_neg hk, Option.some.injEq] at e
        subst e
        rw [List.getElem?_map, List.getElem?_drop] at hj
        cases hb : bs[k + j]? with
        | none => rw [hb] at hj; cases hj
        | some u =>
          rw [hb] at hj
          simp only [Option.map_some, Option.some.injEq] at hj
          subst hj
          have := h.2 a0 rfl (k + j) u hb
          rwa [Addr.add_add, Nat.mul_one]
theorem BytesAt.cut {fx : List Fact} {A : Option Addr} {l : List UInt8} (h : BytesAt fx A l) (k cap : Nat) (hc : l.length ≤ cap) : BytesAt fx (A.map fun ad => if cap = k then ad else ad.add (k * 1)) (l.drop k) := by
  have r := h.dropRow (k := k) hc
  refine ⟨fun e => List.map_eq_nil_iff.1 (r.1 e), fun ad e j y hj => r.2 ad e j (bv y) ?_⟩
  rw [List.getElem?_map, hj]; rfl
set_option maxHeartbeats 1000000 in
theorem tRLittle (fx : List Fact) (A : Option Addr) (cap : Nat) (l : List UInt8) (hA : BytesAt fx A l) (hl : l.length = 32) (hc : 32 ≤ cap) :
    Tri Tryd.prog 115 [.v (.slice A 32 cap)] [] 0 fx (RetE (α := N4) 0 (fun x => x.Ok ∧ x.val = leV l) (fun x => .tup [x.sv, .b true]) (fun _ => []) 0 (fun _ => [])) := by
  have hch : ∀ j, BytesAt fx (Option.map (fun ad => if cap = 8 * j then ad else ad.add (8 * j * 1)) A) (ch l j) := fun j => (hA.cut (8 * j) cap (by omega)).take 8
  have hcl : ∀ j, j < 4 → (ch l j).length = 8 := fun j hj => by unfold ch; rw [List.length_take, List.length_drop]; omega
  refine Tri.of_code tok Tryd.func115 rfl rfl rfl (by decide) rfl (Nat.le_of_ble_eq_true rfl) ?_
  conv => whnf
  repeat' ((first | refine And.intro (by repeat' first | exact trivial | refine And.intro rfl ?_) (And.intro (by first | exact fun _ h => h | exact fun _ => List.mem_cons_of_mem _ | exact fun _ => List.mem_append_right _) ?_) | (refine And.intro (fun h => ?_) (fun h => ?_) <;> (try simp only [n1, n2, n3, n4, n5, n6] at h) <;> first | (exfalso; omega) | (cases h; done) | skip) | refine And.intro (by omega) ?_ | refine Exists.intro _ (And.intro (by first | exact And.intro rfl rfl | exact Pl.den (by repeat constructor) | with_reducible rfl | exact cast_succ _ | assumption | exact (Int.toNat_of_nonneg (by omega)).symm | rfl) ?_) | refine hD _ _ ?_ | refine hL _ _ ?_ | (intro h; (try simp only [n1, n2, n3, n4, n5, n6] at h); first | (exfalso; omega) | (cases h; done) | skip)) <;> (conv => whnf))
  refine draw_opaque fun KD hD => ?_
  refine draw_all tok (by kernel_rfl) [.any 0, .any 1, .any 3, .any 4, .any 6, .any 7, .any 9, .any 10, .one 2, .one 5, .one 8, .one 11, .any 12, .last 13, .any 14] [13] (by kernel_rfl) rfl rfl (by repeat' (first | exact trivial | refine And.intro rfl ?_)) ?_
  conv => whnf
  repeat' ((first | refine And.intro (by repeat' first | exact trivial | refine And.intro rfl ?_) (And.intro (by first | exact fun _ h => h | exact fun _ => List.mem_cons_of_mem _ | exact fun _ => List.mem_append_right _) ?_) | (refine And.intro (fun h => ?_) (fun h => ?_) <;> (try simp only [n1, n2, n3, n4, n5, n6] at h) <;> first | (exfalso; omega) | (cases h; done) | skip) | refine And.intro (by omega) ?_ | refine Exists.intro _ (And.intro (by first | exact And.intro rfl rfl | exact Pl.den (by repeat constructor) | with_reducible rfl | exact cast_succ _ | assumption | exact (Int.toNat_of_nonneg (by omega)).symm | rfl) ?_) | refine hD _ _ ?_ | refine hL _ _ ?_ | (intro h; (try simp only [n1, n2, n3, n4, n5, n6] at h); first | (exfalso; omega) | (cases h; done) | skip)) <;> (conv => whnf))
  refine Tri.use (tEight fx (Option.map (fun ad => if cap = 0 then ad else ad.add (0 * 1)) A) (cap - 0) (ch l 0) (hch 0) (hcl 0 (by decide))).one [] rfl (fun _ _ _ => rfl) trivial (fun f hf => hf) (fun u hu => ?_)
  conv => whnf
  repeat' ((first | refine And.intro (by repeat' first | exact trivial | refine And.intro rfl ?_) (And.intro (by first | exact fun _ h => h | exact fun _ => List.mem_cons_of_mem _ | exact fun _ => List.mem_append_right _) ?_) | (refine And.intro (fun h => ?_) (fun h => ?_) <;> (try simp only [n1, n2, n3, n4, n5, n6] at h) <;> first | (exfalso; omega) | (cases h; done) | skip) | refine And.intro (by omega) ?_ | refine Exists.intro _ (And.intro (by first | exact And.intro rfl rfl | exact Pl.den (by repeat constructor) | with_reducible rfl | exact cast_succ _ | assumption | exact (Int.toNat_of_nonneg (by omega)).symm | rfl) ?_) | refine hD _ _ ?_ | refine hL _ _ ?_ | (intro h; (try simp only [n1, n2, n3, n4, n5, n6] at h); first | (exfalso; omega) | (cases h; done) | skip)) <;> (conv => whnf))
  refine Tri.use (tEight fx (Option.map (fun ad => if cap = 8 then ad else ad.add (8 * 1)) A) (cap - 8) (ch l 1) (hch 1) (hcl 1 (by decide))).one [] rfl (fun _ _ _ => rfl) trivial (fun f hf => hf) (fun u hu => ?_)
  conv => whnf
  repeat' ((first | refine And.intro (by repeat' first | exact trivial | refine And.intro rfl ?_) (And.intro (by first | exact fun _ h => h | exact fun _ => List.mem_cons_of_mem _ | exact fun _ => List.mem_append_right _) ?_) | (refine And.intro (fun h => ?_) (fun h => ?_) <;> (try simp only [n1, n2, n3, n4, n5, n6] at h) <;> first | (exfalso; omega) | (cases h; done) | skip) | refine And.intro (by omega) ?_ | refine Exists.intro _ (And.intro (by first | exact And.intro rfl rfl | exact Pl.den (by repeat constructor) | with_reducible rfl | exact cast_succ _ | assumption | exact (Int.toNat_of_nonneg (by omega)).symm | rfl) ?_) | refine hD _ _ ?_ | refine hL _ _ ?_ | (intro h; (try simp only [n1, n2, n3, n4, n5, n6] at h); first | (exfalso; omega) | (cases h; done) | skip)) <;> (conv => whnf))
  refine Tri.use (tEight fx (Option.map (fun ad => if cap = 16 then ad else ad.add (16 * 1)) A) (cap - 16) (ch l 2) (hch 2) (hcl 2 (by decide))).one [] rfl (fun _ _ _ => rfl) trivial (fun f hf => hf) (fun u hu => ?_)
  conv => whnf
  repeat' ((first | refine And.intro (by repeat' first | exact trivial | refine And.intro rfl ?_) (And.intro (by first | exact fun _ h => h | exact fun _ => List.mem_cons_of_mem _ | exact fun _ => List.mem_append_right _) ?_) | (refine And.intro (fun h => ?_) (fun h => ?_) <;> (try simp only [n1, n2, n3, n4, n5, n6] at h) <;> first | (exfalso; omega) | (cases h; done) | skip) | refine And.intro (by omega) ?_ | refine Exists.intro _ (And.intro (by first | exact And.intro rfl rfl | exact Pl.den (by repeat constructor) | with_reducible rfl | exact cast_succ _ | assumption | exact (Int.toNat_of_nonneg (by omega)).symm | rfl) ?_) | refine hD _ _ ?_ | refine hL _ _ ?_ | (intro h; (try simp only [n1, n2, n3, n4, n5, n6] at h); first | (exfalso; omega) | (cases h; done) | skip)) <;> (conv => whnf))
  refine Tri.use (tEight fx (Option.map (fun ad => if cap = 24 then ad else ad.add (24 * 1)) A) (cap - 24) (ch l 3) (hch 3) (hcl 3 (by decide))).one [] rfl (fun _ _ _ => rfl) trivial (fun f hf => hf) (fun u hu => ?_)
  conv => whnf
  repeat' ((first | refine And.intro (by repeat' first | exact trivial | refine And.intro rfl ?_) (And.intro (by first | exact fun _ h => h | exact fun _ => List.mem_cons_of_mem _ | exact fun _ => List.mem_append_right _) ?_) | (refine And.intro (fun h => ?_) (fun h => ?_) <;> (try simp only [n1, n2, n3, n4, n5, n6] at h) <;> first | (exfalso; omega) | (cases h; done) | skip) | refine And.intro (by omega) ?_ | refine Exists.intro _ (And.intro (by first | exact And.intro rfl rfl | exact Pl.den (by repeat constructor) | with_reducible rfl | exact cast_succ _ | assumption | exact (Int.toNat_of_nonneg (by omega)).symm | rfl) ?_) | refine hD _ _ ?_ | refine hL _ _ ?_ | (intro h; (try simp only [n1, n2, n3, n4, n5, n6] at h); first | (exfalso; omega) | (cases h; done) | skip)) <;> (conv => whnf))
  exact ⟨nL l, ⟨nL_ok l, nL_val hl⟩, Ret.noneS rfl (fun _ _ => rfl) (fun _ h => nomatch h)⟩
set_option maxHeartbeats 1000000 in
theorem tRBig (fx : List Fact) (A : Option Addr) (cap : Nat) (l : List UInt8) (hA : BytesAt fx A l) (hl : l.length = 32) (hc : 32 ≤ cap) :
    Tri Tryd.prog 86 [.v (.slice A 32 cap)] [] 0 fx (RetE (α := N4) 0 (fun x => x.Ok ∧ x.val = leV l.reverse) (fun x => .tup [x.sv, .b true]) (fun _ => []) 0 (fun _ => [])) := by
  have tt := tTurned fx A cap l hA (by omega) (by omega)
  have hlr : l.reverse.length = 32 := by rw [List.length_reverse, hl]
  rw [hl] at tt
  refine Tri.of_code tok Tryd.func86 rfl rfl rfl (by decide) rfl (Nat.le_of_ble_eq_true rfl) ?_
  conv => whnf
  repeat' ((first | refine And.intro (by repeat' first | exact trivial | refine And.intro rfl ?_) (And.intro (by first | exact fun _ h => h | exact fun _ => List.mem_cons_of_mem _ | exact fun _ => List.mem_append_right _) ?_) | (refine And.intro (fun h => ?_) (fun h => ?_) <;> (try simp only [n1, n2, n3, n4, n5, n6] at h) <;> first | (exfalso; omega) | (cases h; done) | skip) | refine And.intro (by omega) ?_ | refine Exists.intro _ (And.intro (by first | exact And.intro rfl rfl | exact Pl.den (by repeat constructor) | with_reducible rfl | exact cast_succ _ | assumption | exact (Int.toNat_of_nonneg (by omega)).symm | rfl) ?_) | refine hD _ _ ?_ | refine hL _ _ ?_ | (intro h; (try simp only [n1, n2, n3, n4, n5, n6] at h); first | (exfalso; omega) | (cases h; done) | skip)) <;> (conv => whnf))
  refine Tri.use tt [] rfl (fun _ _ _ => rfl) trivial (fun f hf => hf) fun r hr => ?_
  cases r with
  | none => exact absurd (congrArg List.length (show l.reverse = [] from hr)) (by rw [hlr]; decide)
  | some xs =>
    conv => whnf
    repeat' ((first | refine And.intro (by repeat' first | exact trivial | refine And.intro rfl ?_) (And.intro (by first | exact fun _ h => h | exact fun _ => List.mem_cons_of_mem _ | exact fun _ => List.mem_append_right _) ?_) | (refine And.intro (fun h => ?_) (fun h => ?_) <;> (try simp only [n1, n2, n3, n4, n5, n6] at h) <;> first | (exfalso; omega) | (cases h; done) | skip) | refine And.intro (by omega) ?_ | refine Exists.intro _ (And.intro (by first | exact And.intro rfl rfl | exact Pl.den (by repeat constructor) | with_reducible rfl | exact cast_succ _ | assumption | exact (Int.toNat_of_nonneg (by omega)).symm | rfl) ?_) | refine hD _ _ ?_ | refine hL _ _ ?_ | (intro h; (try simp only [n1, n2, n3, n4, n5, n6] at h); first | (exfalso; omega) | (cases h; done) | skip)) <;> (conv => whnf))
    refine Tri.lend 1 (xs := xs) (T := 5) (fun b => [.v (.slice (some ⟨b, 0, none⟩) l.reverse.length xs.length)]) (List.mem_cons_self ..) rowOf.row (fun _ => rfl) fun b => ?_
    have hxl := hr.2
    rw [hlr] at hxl
    have tl := tRLittle (rowFact b xs 5 :: fx) (some ⟨b, 0, none⟩) xs.length l.reverse (BytesAt.row (List.mem_cons_self ..) (by rw [List.drop_zero]; exact hr.1)) hlr hxl
    rw [hlr]
    refine Tri.use tl [] rfl (fun _ _ _ => rfl) trivial (fun f hf => hf) fun x hx => ?_
    conv => whnf
    refine And.intro rfl ?_
    conv => whnf
    repeat' ((first | refine And.intro (by repeat' first | exact trivial | refine And.intro rfl ?_) (And.intro (by first | exact fun _ h => h | exact fun _ => List.mem_cons_of_mem _ | exact fun _ => List.mem_append_right _) ?_) | (refine And.intro (fun h => ?_) (fun h => ?_) <;> (try simp only [n1, n2, n3, n4, n5, n6] at h) <;> first | (exfalso; omega) | (cases h; done) | skip) | refine And.intro (by omega) ?_ | refine Exists.intro _ (And.intro (by first | exact And.intro rfl rfl | exact Pl.den (by repeat constructor) | with_reducible rfl | exact cast_succ _ | assumption | exact (Int.toNat_of_nonneg (by omega)).symm | rfl) ?_) | refine hD _ _ ?_ | refine hL _ _ ?_ | (intro h; (try simp only [n1, n2, n3, n4, n5, n6] at h); first | (exfalso; omega) | (cases h; done) | skip)) <;> (conv => whnf))
    exact Ret.noneS rfl (fun _ _ => rfl) (fun _ h => nomatch h)
set_option maxHeartbeats 1000000 in
theorem tSame (fx : List Fact) (A B : Option Addr) (ca cb : Nat) (a b : List UInt8) (hA : BytesAt fx A a) (hB : BytesAt fx B b) (hl : a.length < 1000000000) :
    Tri Tryd.prog 42 [.v (.slice A a.length ca), .v (.slice B b.length cb)] [] 0 fx (RetE (α := Bool) 0 (fun r => r = true ↔ a = b) (fun r => .v (.bool r)) (fun _ => []) 0 (fun _ => [])) := by
  refine Tri.of_code tok Tryd.func42 rfl rfl rfl (by decide) rfl (Nat.le_of_ble_eq_true rfl) ?_
  conv => whnf
  repeat' ((first | refine And.intro (by repeat' first | exact trivial | refine And.intro rfl ?_) (And.intro (by first | exact fun _ h => h | exact fun _ => List.mem_cons_of_mem _ | exact fun _ => List.mem_append_right _) ?_) | (refine And.intro (fun h => ?_) (fun h => ?_) <;> (try simp only [n1, n2, n3, n4, n5, n6] at h) <;> first | (exfalso; omega) | (cases h; done) | skip) | refine And.intro (by omega) ?_ | refine Exists.intro _ (And.intro (by first | exact And.intro rfl rfl | exact Pl.den (by repeat constructor) | with_reducible rfl | exact cast_succ _ | assumption | exact (Int.toNat_of_nonneg (by omega)).symm | rfl) ?_) | refine hD _ _ ?_ | refine hL _ _ ?_ | (intro h; (try simp only [n1, n2, n3, n4, n5, n6] at h); first | (exfalso; omega) | (cases h; done) | skip)) <;> (conv => whnf))
  · exact ⟨false, ⟨(fun h => nomatch h), fun e => by subst e; exact absurd rfl h⟩, Ret.noneS rfl (fun _ _ => rfl) (fun _ h => nomatch h)⟩
  have hlen : a.length = b.length := by omega
  refine loop_by tok (α := Nat) (fun i => ⟨[(0, .v (.slice A a.length ca)), (1, .v (.slice B b.length cb)), (5, .v (.int .i64 (i : Int)))], [], 0, fx⟩) (fun i => i ≤ a.length ∧ a.take i = b.take i) (fun i => a.length - i) 0 [] (by simp) ⟨rfl, ⟨(fun _ _ _ => rfl), (fun _ _ _ => rfl), (fun _ _ _ => rfl), trivial⟩, trivial, fun f hf => hf⟩ ?_
  rintro i ⟨hi, he⟩
  by_cases hia : i < a.length
  · obtain ⟨c, hca⟩ : ∃ c, a[i]? = some c := ⟨_, List.getElem?_eq_getElem hia⟩
    obtain ⟨d, hdb⟩ : ∃ d, b[i]? = some d := ⟨_, List.getElem?_eq_getElem (by omega)⟩
    obtain ⟨ad, hAe, hF⟩ := hA.geti hca
    obtain ⟨bd, hBe, hF2⟩ := hB.geti hdb
    conv => whnf
    repeat' ((first | refine And.intro (by repeat' first | exact trivial | refine And.intro rfl ?_) (And.intro (by first | exact fun _ h => h | exact fun _ => List.mem_cons_of_mem _ | exact fun _ => List.mem_append_right _) ?_) | (refine And.intro (fun h => ?_) (fun h => ?_) <;> (try simp only [n1, n2, n3, n4, n5, n6] at h) <;> first | (exfalso; omega) | (cases h; done) | skip) | refine And.intro (by omega) ?_ | refine Exists.intro _ (And.intro (by first | exact And.intro rfl rfl | exact Pl.den (by repeat constructor) | with_reducible rfl | exact cast_succ _ | assumption | exact (Int.toNat_of_nonneg (by omega)).symm | rfl) ?_) | refine hD _ _ ?_ | refine hL _ _ ?_ | (intro h; (try simp only [n1, n2, n3, n4, n5, n6] at h); first | (exfalso; omega) | (cases h; done) | skip)) <;> (conv => whnf))
    refine draw_opaque fun KD hD => ?_
    refine draw_all tok (by kernel_rfl) [.any 0, .any 1, .any 2, .any 4, .any 5, .any 6, .load 3, .one 7, .any 8] [] (by kernel_rfl) rfl rfl (by repeat' (first | exact trivial | refine And.intro rfl ?_)) ?_
    conv => whnf
    repeat' ((first | (refine Exists.intro ad (And.intro hAe ?_)) | (refine Exists.intro bd (And.intro hBe ?_)) | (refine Exists.intro (bv c) (And.intro (by rw [Nat.mul_one]; exact hF) ?_)) | (refine Exists.intro (bv d) (And.intro (by rw [Nat.mul_one]; exact hF2) ?_)) | refine And.intro (by repeat' first | exact trivial | refine And.intro rfl ?_) (And.intro (by first | exact fun _ h => h | exact fun _ => List.mem_cons_of_mem _ | exact fun _ => List.mem_append_right _) ?_) | (refine And.intro (fun h => ?_) (fun h => ?_) <;> (try simp only [n1, n2, n3, n4, n5, n6] at h) <;> first | (exfalso; omega) | (cases h; done) | skip) | refine And.intro (by omega) ?_ | refine Exists.intro _ (And.intro (by first | exact And.intro rfl rfl | exact Pl.den (by repeat constructor) | with_reducible rfl | exact cast_succ _ | assumption | exact (Int.toNat_of_nonneg (by omega)).symm | rfl) ?_) | refine hD _ _ ?_ | refine hL _ _ ?_ | (intro h; (try simp only [n1, n2, n3, n4, n5, n6] at h); first | (exfalso; omega) | (cases h; done) | skip)) <;> (conv => whnf))
    · refine ⟨false, ⟨(fun h => nomatch h), fun e => ?_⟩, Ret.noneS rfl (fun _ _ => rfl) (fun _ h => nomatch h)⟩
      subst e
      rw [hca] at hdb
      obtain rfl := Option.some.inj hdb
      exact absurd rfl h
    · have hcd : c = d := UInt8.toNat_inj.1 (by omega)
      refine ⟨i + 1, [], ⟨⟨by omega, ?_⟩, by omega⟩, ⟨rfl, ⟨(fun _ _ _ => rfl), (fun _ _ _ => rfl), (fun _ _ _ => rfl), trivial⟩, trivial, fun f hf => by simpa using hf⟩⟩
      rw [List.take_add_one, List.take_add_one, he, hca, hdb, hcd]
  · have e : i = a.length := by omega
    subst e
    rw [List.take_of_length_le (Nat.le_refl _), hlen, List.take_of_length_le (Nat.le_refl _)] at he
    conv => whnf
    repeat' ((first | refine And.intro (by repeat' first | exact trivial | refine And.intro rfl ?_) (And.intro (by first | exact fun _ h => h | exact fun _ => List.mem_cons_of_mem _ | exact fun _ => List.mem_append_right _) ?_) | (refine And.intro (fun h => ?_) (fun h => ?_) <;> (try simp only [n1, n2, n3, n4, n5, n6] at h) <;> first | (exfalso; omega) | (cases h; done) | skip) | refine And.intro (by omega) ?_ | refine Exists.intro _ (And.intro (by first | exact And.intro rfl rfl | exact Pl.den (by repeat constructor) | with_reducible rfl | exact cast_succ _ | assumption | exact (Int.toNat_of_nonneg (by omega)).symm | rfl) ?_) | refine hD _ _ ?_ | refine hL _ _ ?_ | (intro h; (try simp only [n1, n2, n3, n4, n5, n6] at h); first | (exfalso; omega) | (cases h; done) | skip)) <;> (conv => whnf))
    exact ⟨true, ⟨fun _ => he, fun _ => rfl⟩, Ret.noneS rfl (fun _ _ => rfl) (fun _ h => nomatch h)⟩
end Go.Proofs.YtekgjjanikicnaaDoor.Sx
