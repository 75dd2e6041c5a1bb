/- Bytes the other way round. -/
import Derived.Test.YtekgjjanikicnaaDoorFeQ
namespace Go.Proofs.YtekgjjanikicnaaDoor.Sx
open Go Go.Proofs.YtekgjjanikicnaaDoor.Pm
set_option maxRecDepth 100000
set_option linter.unusedSimpArgs false
set_option linter.unusedVariables false

/-- What stands at place k when the first i have changed places with the last i. -/
def rvG (l : List UInt8) (i k : Nat) : UInt8 := if k < i ∨ l.length - i ≤ k then l.getD (l.length - 1 - k) 0 else l.getD k 0
def rvR (l : List UInt8) (i : Nat) (sp : List Value) : List Value := (List.range l.length).map (fun k => bv (rvG l i k)) ++ sp
theorem rvR_zero (l : List UInt8) (sp : List Value) : rvR l 0 sp = l.map bv ++ sp := by
  unfold rvR
  congr 1
  apply List.ext_getElem (by simp)
  intro k h1 h2
  simp only [List.length_map, List.length_range] at h1
  simp only [List.getElem_map, List.getElem_range]
  congr 1
  unfold rvG
  rw [if_neg (by omega)]
  simp [List.getD_eq_getElem?_getD, h1]
theorem rvR_length (l : List UInt8) (i : Nat) (sp : List Value) : (rvR l i sp).length = l.length + sp.length := by simp [rvR]
theorem rvR_get (l : List UInt8) (i : Nat) (sp : List Value) {k : Nat} (hk : k < l.length) : (rvR l i sp)[k]? = some (bv (rvG l i k)) := by
  unfold rvR
  rw [List.getElem?_append_left (by simpa using hk)]
  simp [hk]
theorem rvR_far (l : List UInt8) (i : Nat) (sp : List Value) {k : Nat} (hk : l.length ≤ k) : (rvR l i sp)[k]? = sp[k - l.length]? := by
  unfold rvR
  rw [List.getElem?_append_right (by simpa using hk)]
  simp
theorem splice_one {α : Type} {l : List α} {o : Nat} (h : o < l.length) (v : α) : splice l o [v] = l.set o v := by
  unfold splice
  rw [List.length_singleton, List.set_eq_take_append_cons_drop, if_pos h]
  simp
theorem rv_hi {l : List UInt8} {i : Nat} (sp : List Value) (h : 2 * i + 1 < l.length) : (rvR l i sp)[0 + ((l.length : Int) - 1 - (i : Int)).toNat * 1]? = some (bv (l.getD (l.length - 1 - i) 0)) := by
  rw [show 0 + ((l.length : Int) - 1 - (i : Int)).toNat * 1 = l.length - 1 - i by omega, rvR_get _ _ _ (by omega)]
  unfold rvG
  rw [if_neg (by omega)]
theorem rv_lo {l : List UInt8} {i : Nat} (sp : List Value) (h : 2 * i + 1 < l.length) : (rvR l i sp)[0 + i * 1]? = some (bv (l.getD i 0)) := by
  rw [show 0 + i * 1 = i by omega, rvR_get _ _ _ (by omega)]
  unfold rvG
  rw [if_neg (by omega)]
theorem rv_step {l : List UInt8} {i : Nat} (sp : List Value) (h : 2 * i + 1 < l.length) : splice (splice (rvR l i sp) (0 + i * 1) [bv (l.getD (l.length - 1 - i) 0)]) (0 + ((l.length : Int) - 1 - (i : Int)).toNat * 1) [bv (l.getD i 0)] = rvR l (i + 1) sp := by
  rw [show 0 + ((l.length : Int) - 1 - (i : Int)).toNat * 1 = l.length - 1 - i by omega, show 0 + i * 1 = i by omega, splice_one (l := rvR l i sp) (by rw [rvR_length]; omega), splice_one (by rw [List.length_set, rvR_length]; omega)]
  apply List.ext_getElem?
  intro k
  rw [List.getElem?_set, List.getElem?_set, List.length_set, rvR_length]
  by_cases hk : k < l.length
  · rw [rvR_get _ _ _ hk, rvR_get _ _ _ hk]
    by_cases h1 : l.length - 1 - i = k
    · subst h1
      rw [if_pos rfl, if_pos (by omega)]
      unfold rvG
      rw [if_pos (by omega)]
      congr 3; omega
    · rw [if_neg h1]
      by_cases h2 : i = k
      · subst h2
        rw [if_pos rfl, if_pos (by omega)]
        unfold rvG
        rw [if_pos (by omega)]
      · rw [if_neg h2]
        unfold rvG
        by_cases h3 : k < i ∨ l.length - i ≤ k
        · rw [if_pos h3, if_pos (by omega)]
        · rw [if_neg h3, if_neg (by omega)]
  · rw [rvR_far _ _ _ (by omega), rvR_far _ _ _ (by omega), if_neg (by omega), if_neg (by omega)]
theorem rvR_end (l : List UInt8) (i : Nat) (sp : List Value) (h : l.length ≤ 2 * i + 1) : rvR l i sp = l.reverse.map bv ++ sp := by
  unfold rvR
  congr 1
  apply List.ext_getElem (by simp)
  intro k h1 h2
  simp only [List.length_map, List.length_range] at h1
  simp only [List.getElem_map, List.getElem_range, List.getElem_reverse]
  congr 1
  unfold rvG
  by_cases hk : k < i ∨ l.length - i ≤ k
  · rw [if_pos hk]; simp [List.getD_eq_getElem?_getD, show l.length - 1 - k < l.length by omega]
  · rw [if_neg hk]
    have : l.length - 1 - k = k := by omega
    simp [List.getD_eq_getElem?_getD, this, h1]
set_option maxHeartbeats 1000000 in
theorem tReverse (fx : List Fact) (l : List UInt8) (sp : List Value) (cap : Nat) (hl : l.length < 1000000000) : Tri Tryd.prog 113 [.s 0 0 l.length cap] [(0, .row (l.map bv ++ sp) 5)] 1 fx (Ret 1 (.tup []) [(0, .row (l.reverse.map bv ++ sp) 5)] 1 []) := by
  refine Tri.of_code tok Tryd.func113 rfl rfl rfl (by decide) rfl (Nat.le_of_ble_eq_true rfl) ?_
  conv => whnf
  repeat' ((first | refine And.intro (by repeat' first | exact trivial | refine And.intro rfl ?_) (And.intro (by first | exact fun _ h => h | exact fun _ => List.mem_cons_of_mem _ | exact fun _ => List.mem_append_right _) ?_) | (refine And.intro (fun h => ?_) (fun h => ?_) <;> (try simp only [n1, n2, n3, n4, n5, n6] at h) <;> first | (exfalso; omega) | (cases h; done) | skip) | refine And.intro (by omega) ?_ | refine Exists.intro _ (And.intro (by first | exact And.intro rfl rfl | exact Pl.den (by repeat constructor) | with_reducible rfl | exact cast_succ _ | assumption | exact (Int.toNat_of_nonneg (by omega)).symm | rfl) ?_) | refine hD _ _ ?_ | refine hL _ _ ?_ | (intro h; (try simp only [n1, n2, n3, n4, n5, n6] at h); first | (exfalso; omega) | (cases h; done) | skip)) <;> (conv => whnf))
  refine loop_by tok (α := Nat) (fun i => ⟨[(0, .s 0 0 l.length cap), (2, .v (.int .i64 (i : Int))), (3, .v (.int .i64 ((l.length : Int) - 1 - i)))], [(0, .row (rvR l i sp) 5)], 1, fx⟩)
    (fun i => 2 * i ≤ l.length) (fun i => l.length - i) 0 [0] (Nat.zero_le _) ?_ ?_
  · exact ⟨rfl, ⟨SEq.ren rfl rfl, (fun _ _ _ => rfl), (fun _ _ _ => by simp [den]), trivial⟩, ⟨OSub.row (rvR_zero l sp), trivial⟩, fun f hf => hf⟩
  rintro i hi
  have hlen : (rvR l i sp).length = l.length + sp.length := by simp [rvR]
  conv => whnf
  repeat' ((first | refine And.intro (by repeat' first | exact trivial | refine And.intro rfl ?_) (And.intro (by first | exact fun _ h => h | exact fun _ => List.mem_cons_of_mem _ | exact fun _ => List.mem_append_right _) ?_) | (refine And.intro (fun h => ?_) (fun h => ?_) <;> (try simp only [n1, n2, n3, n4, n5, n6] at h) <;> first | (exfalso; omega) | (cases h; done) | skip) | refine And.intro (by omega) ?_ | refine Exists.intro _ (And.intro (by first | exact And.intro rfl rfl | exact Pl.den (by repeat constructor) | with_reducible rfl | exact cast_succ _ | assumption | exact (Int.toNat_of_nonneg (by omega)).symm | rfl) ?_) | refine hD _ _ ?_ | refine hL _ _ ?_ | (intro h; (try simp only [n1, n2, n3, n4, n5, n6] at h); first | (exfalso; omega) | (cases h; done) | skip)) <;> (conv => whnf))
  · refine draw_opaque fun KD hD => ?_
    refine draw_all tok (by kernel_rfl) [.any 0, .any 1, .any 2, .any 3, .any 4, .any 5, .any 6, .any 8, .any 9, .any 10, .load 7, .one 11, .any 12, .last 13, .any 14, .last 15] [13, 15] (by kernel_rfl) rfl rfl (by repeat' (first | exact trivial | refine And.intro rfl ?_)) ?_
    have hii : 2 * i + 1 < l.length := by omega
    conv => whnf
    repeat' ((first | (refine Exists.intro _ (And.intro (rv_hi sp hii) ?_)) | (refine Exists.intro _ (And.intro (rv_lo sp hii) ?_)) | (refine And.intro (by rw [List.length_singleton, rvR_length]; omega) ?_) | (refine And.intro (by rw [List.length_singleton, splice_length _ _ _ (by rw [List.length_singleton, rvR_length]; omega), rvR_length]; omega) ?_) | refine And.intro (by repeat' first | exact trivial | refine And.intro rfl ?_) (And.intro (by first | exact fun _ h => h | exact fun _ => List.mem_cons_of_mem _ | exact fun _ => List.mem_append_right _) ?_) | (refine And.intro (fun h => ?_) (fun h => ?_) <;> (try simp only [n1, n2, n3, n4, n5, n6] at h) <;> first | (exfalso; omega) | (cases h; done) | skip) | refine And.intro (by omega) ?_ | refine Exists.intro _ (And.intro (by first | exact And.intro rfl rfl | exact Pl.den (by repeat constructor) | with_reducible rfl | exact cast_succ _ | assumption | exact (Int.toNat_of_nonneg (by omega)).symm | rfl) ?_) | refine hD _ _ ?_ | refine hL _ _ ?_ | (intro h; (try simp only [n1, n2, n3, n4, n5, n6] at h); first | (exfalso; omega) | (cases h; done) | skip)) <;> (conv => whnf))
    refine ⟨i + 1, [0], ⟨by omega, by omega⟩, ⟨rfl, ⟨SEq.ren rfl rfl, (fun _ _ _ => rfl), (fun _ _ _ => ?_), trivial⟩, ⟨OSub.row (rv_step sp hii).symm, trivial⟩, fun f hf => hf⟩⟩
    simp only [den]
    congr 1
    omega
  · exact Ret.mk [0] [(0, .row (rvR l i sp) 5)] (Fold.drop1 (by repeat first | exact List.mem_cons_self .. | apply List.mem_cons_of_mem)) rfl (SEq.ren rfl rfl) ⟨OSub.row (rvR_end l i sp (by omega)).symm, trivial⟩ (fun _ h => nomatch h)
set_option maxHeartbeats 1000000 in
theorem tPutBig (fx : List Fact) (x : N4) (hx : x.Ok) : Tri Tryd.prog 88 [x.sv] [] 0 fx (Ret 0 (.s 0 0 32 32) [(0, .row ((le32 x.val).reverse.map bv) 5)] 1 []) := by
  have hll := le32_length x.val
  have tr := tReverse fx (le32 x.val) [] 32 (by rw [hll]; decide)
  rw [hll, List.append_nil, List.append_nil] at tr
  refine Tri.of_code tok Tryd.func88 rfl rfl rfl (by decide) rfl (Nat.le_of_ble_eq_true rfl) ?_
  conv => whnf
  repeat' ((first | refine And.intro (by repeat' first | exact trivial | refine And.intro rfl ?_) (And.intro (by first | exact fun _ h => h | exact fun _ => List.mem_cons_of_mem _ | exact fun _ => List.mem_append_right _) ?_) | (refine And.intro (fun h => ?_) (fun h => ?_) <;> (try simp only [n1, n2, n3, n4, n5, n6] at h) <;> first | (exfalso; omega) | (cases h; done) | skip) | refine And.intro (by omega) ?_ | refine Exists.intro _ (And.intro (by first | exact And.intro rfl rfl | exact Pl.den (by repeat constructor) | with_reducible rfl | exact cast_succ _ | assumption | exact (Int.toNat_of_nonneg (by omega)).symm | rfl) ?_) | refine hD _ _ ?_ | refine hL _ _ ?_ | (intro h; (try simp only [n1, n2, n3, n4, n5, n6] at h); first | (exfalso; omega) | (cases h; done) | skip)) <;> (conv => whnf))
  refine Tri.use ((tPutLittle fx x hx).one) [] rfl (fun _ _ _ => rfl) trivial (fun f hf => by first | exact hf | cases hf) (fun u hu => ?_)
  conv => whnf
  repeat' ((first | refine And.intro (by repeat' first | exact trivial | refine And.intro rfl ?_) (And.intro (by first | exact fun _ h => h | exact fun _ => List.mem_cons_of_mem _ | exact fun _ => List.mem_append_right _) ?_) | (refine And.intro (fun h => ?_) (fun h => ?_) <;> (try simp only [n1, n2, n3, n4, n5, n6] at h) <;> first | (exfalso; omega) | (cases h; done) | skip) | refine And.intro (by omega) ?_ | refine Exists.intro _ (And.intro (by first | exact And.intro rfl rfl | exact Pl.den (by repeat constructor) | with_reducible rfl | exact cast_succ _ | assumption | exact (Int.toNat_of_nonneg (by omega)).symm | rfl) ?_) | refine hD _ _ ?_ | refine hL _ _ ?_ | (intro h; (try simp only [n1, n2, n3, n4, n5, n6] at h); first | (exfalso; omega) | (cases h; done) | skip)) <;> (conv => whnf))
  refine Tri.use tr.one [1] rfl (args_ren rfl rfl) ⟨OSub.ren rfl rfl, trivial⟩ (fun f hf => by first | exact hf | cases hf | simp_all) (fun u hu => ?_)
  conv => whnf
  repeat' ((first | refine And.intro (by repeat' first | exact trivial | refine And.intro rfl ?_) (And.intro (by first | exact fun _ h => h | exact fun _ => List.mem_cons_of_mem _ | exact fun _ => List.mem_append_right _) ?_) | (refine And.intro (fun h => ?_) (fun h => ?_) <;> (try simp only [n1, n2, n3, n4, n5, n6] at h) <;> first | (exfalso; omega) | (cases h; done) | skip) | refine And.intro (by omega) ?_ | refine Exists.intro _ (And.intro (by first | exact And.intro rfl rfl | exact Pl.den (by repeat constructor) | with_reducible rfl | exact cast_succ _ | assumption | exact (Int.toNat_of_nonneg (by omega)).symm | rfl) ?_) | refine hD _ _ ?_ | refine hL _ _ ?_ | (intro h; (try simp only [n1, n2, n3, n4, n5, n6] at h); first | (exfalso; omega) | (cases h; done) | skip)) <;> (conv => whnf))
  exact Ret.mk [1] [(1, .row ((le32 x.val).reverse.map bv) 5)] (Fold.drop1 (by repeat first | exact List.mem_cons_self .. | apply List.mem_cons_of_mem)) rfl (SEq.ren rfl rfl) ⟨OSub.ren rfl rfl, trivial⟩ (fun _ h => nomatch h)
/-! ### A slice that is appended to, byte by byte -/
def BfS (r : Nat) (o : List UInt8) : Option (List Value) → SV
  | none => .v (.slice none 0 0)
  | some xs => .s r 0 o.length xs.length
def BfH (r : Nat) : Option (List Value) → List (Nat × SObj)
  | none => []
  | some xs => [(r, .row xs 5)]
def BfP (o : List UInt8) : Option (List Value) → Prop
  | none => o = []
  | some xs => xs.take o.length = o.map bv ∧ o.length ≤ xs.length
structure BfT where
  k : Nat
  row : Option (List Value)
theorem bf_first (c : UInt8) (sp : List Value) : BfP [c] (some (bv c :: sp)) := ⟨rfl, by simp⟩
theorem bf_next {o : List UInt8} {xs : List Value} (h : BfP o (some xs)) (c : UInt8) (sp : List Value) : BfP (o ++ [c]) (some (xs.take (o.length * 1) ++ [bv c] ++ sp)) := by
  obtain ⟨h1, h2⟩ := h
  rw [Nat.mul_one, h1]
  refine ⟨?_, by simp⟩
  rw [List.take_left' (by simp)]
  simp
theorem BytesAt.geti {fx : List Fact} {A : Option Addr} {l : List UInt8} (h : BytesAt fx A l) {i : Nat} {c : UInt8} (hc : l[i]? = some c) : ∃ ad, A = some ad ∧ FC fx (ad.add i) (bv c) := by
  cases A with
  | none => rw [h.1 rfl] at hc; cases hc
  | some ad => exact ⟨ad, rfl, h.2 ad rfl i _ hc⟩
set_option maxHeartbeats 1000000 in
theorem tTurned (fx : List Fact) (A : Option Addr) (cap : Nat) (l : List UInt8) (hA : BytesAt fx A l) (hl : l.length < 1000000000) (hc : l.length ≤ cap) :
    Tri Tryd.prog 116 [.v (.slice A l.length cap)] [] 0 fx (RetE (α := Option (List Value)) 0 (fun r => BfP l.reverse r) (fun r => BfS 0 l.reverse r) (fun r => BfH 0 r) 1 (fun _ => [])) := by
  refine Tri.of_code tok Tryd.func116 rfl rfl rfl (by decide) rfl (Nat.le_of_ble_eq_true rfl) ?_
  conv => whnf
  repeat' ((first | refine And.intro (by repeat' first | exact trivial | refine And.intro rfl ?_) (And.intro (by first | exact fun _ h => h | exact fun _ => List.mem_cons_of_mem _ | exact fun _ => List.mem_append_right _) ?_) | (refine And.intro (fun h => ?_) (fun h => ?_) <;> (try simp only [n1, n2, n3, n4, n5, n6] at h) <;> first | (exfalso; omega) | (cases h; done) | skip) | refine And.intro (by omega) ?_ | refine Exists.intro _ (And.intro (by first | exact And.intro rfl rfl | exact Pl.den (by repeat constructor) | with_reducible rfl | exact cast_succ _ | assumption | exact (Int.toNat_of_nonneg (by omega)).symm | rfl) ?_) | refine hD _ _ ?_ | refine hL _ _ ?_ | (intro h; (try simp only [n1, n2, n3, n4, n5, n6] at h); first | (exfalso; omega) | (cases h; done) | skip)) <;> (conv => whnf))
  refine loop_by tok (α := BfT) (fun s => match s with | ⟨k, row⟩ => ⟨[(0, .v (.slice A l.length cap)), (3, BfS 0 (l.reverse.take k) row), (4, .v (.int .i64 ((l.length : Int) - 1 - k)))], BfH 0 row, 1, fx⟩)
    (fun s => s.k ≤ l.length ∧ BfP (l.reverse.take s.k) s.row) (fun s => l.length - s.k) ⟨0, none⟩ [0] ⟨Nat.zero_le _, rfl⟩ ?_ ?_
  · exact ⟨rfl, ⟨(fun _ _ _ => rfl), (fun _ _ _ => rfl), (fun _ _ _ => by simp [den]), trivial⟩, trivial, fun f hf => hf⟩
  rintro ⟨k, row⟩ ⟨hk, hr⟩
  simp only at hk hr
  by_cases hkn : k < l.length
  · obtain ⟨c, hcl⟩ : ∃ c, l[l.length - 1 - k]? = some c := ⟨_, List.getElem?_eq_getElem (by omega)⟩
    obtain ⟨ad, hAe, hF⟩ := hA.geti hcl
    have hrc : l.reverse.take (k + 1) = l.reverse.take k ++ [c] := by
      rw [List.take_add_one, List.getElem?_reverse hkn, hcl]; rfl
    have htl : (l.reverse.take k).length = k := by simp; omega
    cases row with
    | none =>
      have e0 : l.reverse.take k = [] := hr
      have hk0 : k = 0 := by rw [← htl, e0]; rfl
      conv => whnf
      repeat' ((first | (refine Exists.intro ad (And.intro hAe ?_)) | (refine Exists.intro (bv c) (And.intro (by rw [show (((l.length : Int) - 1 - (k : Int)).toNat * 1) = l.length - 1 - k by omega]; exact hF) ?_)) | refine And.intro (by repeat' first | exact trivial | refine And.intro rfl ?_) (And.intro (by first | exact fun _ h => h | exact fun _ => List.mem_cons_of_mem _ | exact fun _ => List.mem_append_right _) ?_) | (refine And.intro (fun h => ?_) (fun h => ?_) <;> (try simp only [n1, n2, n3, n4, n5, n6] at h) <;> first | (exfalso; omega) | (cases h; done) | skip) | refine And.intro (by omega) ?_ | refine Exists.intro _ (And.intro (by first | exact And.intro rfl rfl | exact Pl.den (by repeat constructor) | with_reducible rfl | exact cast_succ _ | assumption | exact (Int.toNat_of_nonneg (by omega)).symm | rfl) ?_) | refine hD _ _ ?_ | refine hL _ _ ?_ | (intro h; (try simp only [n1, n2, n3, n4, n5, n6] at h); first | (exfalso; omega) | (cases h; done) | skip)) <;> (conv => whnf))
      rename_i m sp
      refine ⟨⟨k + 1, some (bv c :: sp)⟩, [2], ⟨⟨by simp only; omega, by rw [hrc, e0]; exact bf_first c sp⟩, by simp only; omega⟩, ⟨rfl, ⟨(fun _ _ _ => rfl), SEq.ren rfl ?_, (fun _ _ _ => by simp only [den]; congr 1; omega), trivial⟩, ⟨OSub.ren rfl rfl, trivial⟩, fun f hf => hf⟩⟩
      rw [hrc, e0]
      simp [BfS, ren, sg, h, Nat.add_comm]
    | some xs =>
      have hr1 := hr.1
      have hr2 := hr.2
      conv => whnf
      repeat' ((first | (refine Exists.intro ad (And.intro hAe ?_)) | (refine Exists.intro (bv c) (And.intro (by rw [show (((l.length : Int) - 1 - (k : Int)).toNat * 1) = l.length - 1 - k by omega]; exact hF) ?_)) | refine And.intro (by repeat' first | exact trivial | refine And.intro rfl ?_) (And.intro (by first | exact fun _ h => h | exact fun _ => List.mem_cons_of_mem _ | exact fun _ => List.mem_append_right _) ?_) | (refine And.intro (fun h => ?_) (fun h => ?_) <;> (try simp only [n1, n2, n3, n4, n5, n6] at h) <;> first | (exfalso; omega) | (cases h; done) | skip) | refine And.intro (by omega) ?_ | refine Exists.intro _ (And.intro (by first | exact And.intro rfl rfl | exact Pl.den (by repeat constructor) | with_reducible rfl | exact cast_succ _ | assumption | exact (Int.toNat_of_nonneg (by omega)).symm | rfl) ?_) | refine hD _ _ ?_ | refine hL _ _ ?_ | (intro h; (try simp only [n1, n2, n3, n4, n5, n6] at h); first | (exfalso; omega) | (cases h; done) | skip)) <;> (conv => whnf))
      refine And.intro ⟨by rw [htl]; omega, hr2, by omega, by simp [Value.oneCell', bv]⟩ fun m sp hsp => ?_
      conv => whnf
      repeat' ((first | refine And.intro (by repeat' first | exact trivial | refine And.intro rfl ?_) (And.intro (by first | exact fun _ h => h | exact fun _ => List.mem_cons_of_mem _ | exact fun _ => List.mem_append_right _) ?_) | (refine And.intro (fun h => ?_) (fun h => ?_) <;> (try simp only [n1, n2, n3, n4, n5, n6] at h) <;> first | (exfalso; omega) | (cases h; done) | skip) | refine And.intro (by omega) ?_ | refine Exists.intro _ (And.intro (by first | exact And.intro rfl rfl | exact Pl.den (by repeat constructor) | with_reducible rfl | exact cast_succ _ | assumption | exact (Int.toNat_of_nonneg (by omega)).symm | rfl) ?_) | refine hD _ _ ?_ | refine hL _ _ ?_ | (intro h; (try simp only [n1, n2, n3, n4, n5, n6] at h); first | (exfalso; omega) | (cases h; done) | skip)) <;> (conv => whnf))
      refine ⟨⟨k + 1, some (xs.take ((l.reverse.take k).length * 1) ++ [bv c] ++ sp)⟩, [2], ⟨⟨by simp only; omega, by rw [hrc]; exact bf_next hr c sp⟩, by simp only; omega⟩, ⟨rfl, ⟨(fun _ _ _ => rfl), SEq.ren rfl ?_, (fun _ _ _ => by simp only [den]; congr 1; omega), trivial⟩, ⟨OSub.ren rfl rfl, trivial⟩, fun f hf => hf⟩⟩
      have q1 : (l.reverse.take (k + 1)).length = k + 1 := by simp; omega
      have q2 : (xs.take ((l.reverse.take k).length * 1) ++ [bv c] ++ sp).length = k + 1 + m := by
        rw [htl] at hr2 ⊢
        simp only [List.length_append, List.length_take, List.length_singleton, Nat.mul_one]
        omega
      simp only [BfS, ren]
      rw [q1, q2, htl]
      rfl
  · have e : k = l.length := by omega
    subst e
    have e2 : l.reverse.take l.length = l.reverse := List.take_of_length_le (by simp)
    rw [e2] at hr
    cases row with
    | none =>
      conv => whnf
      repeat' ((first | refine And.intro (by repeat' first | exact trivial | refine And.intro rfl ?_) (And.intro (by first | exact fun _ h => h | exact fun _ => List.mem_cons_of_mem _ | exact fun _ => List.mem_append_right _) ?_) | (refine And.intro (fun h => ?_) (fun h => ?_) <;> (try simp only [n1, n2, n3, n4, n5, n6] at h) <;> first | (exfalso; omega) | (cases h; done) | skip) | refine And.intro (by omega) ?_ | refine Exists.intro _ (And.intro (by first | exact And.intro rfl rfl | exact Pl.den (by repeat constructor) | with_reducible rfl | exact cast_succ _ | assumption | exact (Int.toNat_of_nonneg (by omega)).symm | rfl) ?_) | refine hD _ _ ?_ | refine hL _ _ ?_ | (intro h; (try simp only [n1, n2, n3, n4, n5, n6] at h); first | (exfalso; omega) | (cases h; done) | skip)) <;> (conv => whnf))
      exact Ret.mk [0] [] (Fold.refl _) rfl (by rw [e2]; exact fun _ _ _ => rfl) trivial (fun _ h => nomatch h)
    | some xs =>
      conv => whnf
      repeat' ((first | refine And.intro (by repeat' first | exact trivial | refine And.intro rfl ?_) (And.intro (by first | exact fun _ h => h | exact fun _ => List.mem_cons_of_mem _ | exact fun _ => List.mem_append_right _) ?_) | (refine And.intro (fun h => ?_) (fun h => ?_) <;> (try simp only [n1, n2, n3, n4, n5, n6] at h) <;> first | (exfalso; omega) | (cases h; done) | skip) | refine And.intro (by omega) ?_ | refine Exists.intro _ (And.intro (by first | exact And.intro rfl rfl | exact Pl.den (by repeat constructor) | with_reducible rfl | exact cast_succ _ | assumption | exact (Int.toNat_of_nonneg (by omega)).symm | rfl) ?_) | refine hD _ _ ?_ | refine hL _ _ ?_ | (intro h; (try simp only [n1, n2, n3, n4, n5, n6] at h); first | (exfalso; omega) | (cases h; done) | skip)) <;> (conv => whnf))
      exact Ret.mk [0] [(0, .row xs 5)] (Fold.refl _) rfl (by rw [e2]; exact SEq.ren rfl rfl) ⟨OSub.ren rfl rfl, trivial⟩ (fun _ h => nomatch h)
structure BfU where
  i : Nat
  k : Nat
  row : Option (List Value)
theorem le32_take {n i : Nat} (h : i < 32) : (le32 n).take (i + 1) = (le32 n).take i ++ [byt n i] := by
  rw [List.take_add_one, le32_get n h]; rfl
theorem byt_limb {x : N4} (h : x.Ok) {q k : Nat} (hq : q < 4) (hk : k < 8) : IntKind.u8.wrap ((x.limb q / 256 ^ k % 256 : Nat) : Int) = ((byt x.val (8 * q + k)).toNat : Int) := by
  have e := limb_byte h (i := 8 * q + k) (by omega)
  rw [show (8 * q + k) / 8 = q by omega, show (8 * q + k) % 8 = k by omega] at e
  rw [wrap_u8_nat, e]
  unfold byt
  simp [UInt8.toNat_ofNat']
set_option maxHeartbeats 1000000 in
theorem tRPutLittle (fx : List Fact) (x : N4) (hx : x.Ok) : Tri Tryd.prog 119 [x.sv] [] 0 fx
    (RetE (α := Option (List Value)) 0 (fun r => BfP (le32 x.val) r) (fun r => BfS 0 (le32 x.val) r) (fun r => BfH 0 r) 1 (fun _ => [])) := by
  have hll := le32_length x.val
  refine Tri.of_code tok Tryd.func119 rfl rfl rfl (by decide) rfl (Nat.le_of_ble_eq_true rfl) ?_
  conv => whnf
  repeat' ((first | refine And.intro (by repeat' first | exact trivial | refine And.intro rfl ?_) (And.intro (by first | exact fun _ h => h | exact fun _ => List.mem_cons_of_mem _ | exact fun _ => List.mem_append_right _) ?_) | (refine And.intro (fun h => ?_) (fun h => ?_) <;> (try simp only [n1, n2, n3, n4, n5, n6] at h) <;> first | (exfalso; omega) | (cases h; done) | skip) | refine And.intro (by omega) ?_ | refine Exists.intro _ (And.intro (by first | exact And.intro rfl rfl | exact Pl.den (by repeat constructor) | with_reducible rfl | exact cast_succ _ | assumption | exact (Int.toNat_of_nonneg (by omega)).symm | rfl) ?_) | refine hD _ _ ?_ | refine hL _ _ ?_ | (intro h; (try simp only [n1, n2, n3, n4, n5, n6] at h); first | (exfalso; omega) | (cases h; done) | skip)) <;> (conv => whnf))
  refine loop_by tok (α := BfT) (fun s => match s with | ⟨k, row⟩ => ⟨[(1, .p 0 0), (3, BfS 1 ((le32 x.val).take (8 * k)) row), (4, .v (.int .i64 (k : Int)))], (0, .cells [.v (.int .u64 (x.a : Int)), .v (.int .u64 (x.b : Int)), .v (.int .u64 (x.c : Int)), .v (.int .u64 (x.d : Int))] 24) :: BfH 1 row, 2, fx⟩)
    (fun s => s.k ≤ 4 ∧ BfP ((le32 x.val).take (8 * s.k)) s.row) (fun s => 4 - s.k) ⟨0, none⟩ [0, 1] ⟨Nat.zero_le _, rfl⟩ ?_ ?_
  · exact ⟨rfl, ⟨SEq.ren rfl rfl, (fun _ _ _ => rfl), (fun _ _ _ => rfl), trivial⟩, ⟨OSub.ren rfl rfl, trivial⟩, fun f hf => hf⟩
  rintro ⟨q, row⟩ ⟨hq, hr⟩
  simp only at hq hr
  by_cases hq4 : q < 4
  · have hll2 := limb_lt hx q
    conv => whnf
    repeat' ((first | (refine Exists.intro q (And.intro rfl ?_)) | (refine Exists.intro _ (And.intro (limb_get x hq4) ?_)) | refine And.intro (by repeat' first | exact trivial | refine And.intro rfl ?_) (And.intro (by first | exact fun _ h => h | exact fun _ => List.mem_cons_of_mem _ | exact fun _ => List.mem_append_right _) ?_) | (refine And.intro (fun h => ?_) (fun h => ?_) <;> (try simp only [n1, n2, n3, n4, n5, n6] at h) <;> first | (exfalso; omega) | (cases h; done) | skip) | refine And.intro (by omega) ?_ | refine Exists.intro _ (And.intro (by first | exact And.intro rfl rfl | exact Pl.den (by repeat constructor) | with_reducible rfl | exact cast_succ _ | assumption | exact (Int.toNat_of_nonneg (by omega)).symm | rfl) ?_) | refine hD _ _ ?_ | refine hL _ _ ?_ | (intro h; (try simp only [n1, n2, n3, n4, n5, n6] at h); first | (exfalso; omega) | (cases h; done) | skip)) <;> (conv => whnf))
    obtain ⟨Y, hY⟩ : ∃ f : Nat → Nat, ∀ k, f k = x.limb q / 256 ^ k := ⟨_, fun _ => rfl⟩
    refine loop_by tok (α := BfT) (fun s => match s with | ⟨k, row⟩ => ⟨[(1, .p 0 0), (3, BfS 1 ((le32 x.val).take (8 * q + k)) row), (4, .v (.int .i64 (q : Int))), (5, .v (.int .u64 ((Y k : Nat) : Int))), (6, .v (.int .i64 (k : Int)))], (0, .cells [.v (.int .u64 (x.a : Int)), .v (.int .u64 (x.b : Int)), .v (.int .u64 (x.c : Int)), .v (.int .u64 (x.d : Int))] 24) :: BfH 1 row, 2, fx⟩)
      (fun s => s.k ≤ 8 ∧ BfP ((le32 x.val).take (8 * q + s.k)) s.row) (fun s => 8 - s.k) ⟨0, row⟩ [0, 1] ⟨Nat.zero_le _, hr⟩ ?_ ?_
    · cases row with
      | none => exact ⟨rfl, ⟨SEq.ren rfl rfl, (fun _ _ _ => rfl), (fun _ _ _ => rfl), (fun _ _ _ => by simp [den, hY]), (fun _ _ _ => rfl), trivial⟩, ⟨OSub.ren rfl rfl, trivial⟩, fun f hf => hf⟩
      | some xs => exact ⟨rfl, ⟨SEq.ren rfl rfl, SEq.ren rfl rfl, (fun _ _ _ => rfl), (fun _ _ _ => by simp [den, hY]), (fun _ _ _ => rfl), trivial⟩, ⟨OSub.ren rfl rfl, OSub.ren rfl rfl, trivial⟩, fun f hf => hf⟩
    rintro ⟨k, row⟩ ⟨hk, hr⟩
    simp only at hk hr
    have htl : ((le32 x.val).take (8 * q + k)).length = 8 * q + k := by rw [List.length_take, hll]; omega
    by_cases hk8 : k < 8
    · have hdk : Y k < 18446744073709551616 := by rw [hY]; exact Nat.lt_of_le_of_lt (Nat.div_le_self _ _) hll2
      have hrc := le32_take (n := x.val) (i := 8 * q + k) (by omega)
      have hv : IntKind.u8.wrap (((Y k : Nat) : Int) % 256) = ((byt x.val (8 * q + k)).toNat : Int) := by rw [← byt_limb hx hq4 hk8, hY]; congr 1
      have hnx : ((Y k : Nat) : Int) / 256 = ((Y (k + 1) : Nat) : Int) := by rw [hY, hY, Nat.pow_succ, ← Nat.div_div_eq_div_mul]; rfl
      cases row with
      | none =>
        have e0 : (le32 x.val).take (8 * q + k) = [] := hr
        have hk0 : 8 * q + k = 0 := by rw [← htl, e0]; rfl
        conv => whnf
        repeat' ((first | refine And.intro (by repeat' first | exact trivial | refine And.intro rfl ?_) (And.intro (by first | exact fun _ h => h | exact fun _ => List.mem_cons_of_mem _ | exact fun _ => List.mem_append_right _) ?_) | (refine And.intro (fun h => ?_) (fun h => ?_) <;> (try simp only [n1, n2, n3, n4, n5, n6] at h) <;> first | (exfalso; omega) | (cases h; done) | skip) | refine And.intro (by omega) ?_ | refine Exists.intro _ (And.intro (by first | exact And.intro rfl rfl | exact Pl.den (by repeat constructor) | with_reducible rfl | exact cast_succ _ | assumption | exact (Int.toNat_of_nonneg (by omega)).symm | rfl) ?_) | refine hD _ _ ?_ | refine hL _ _ ?_ | (intro h; (try simp only [n1, n2, n3, n4, n5, n6] at h); first | (exfalso; omega) | (cases h; done) | skip)) <;> (conv => whnf))
        rename_i m sp
        refine ⟨⟨k + 1, some (bv (byt x.val (8 * q + k)) :: sp)⟩, [0, 3], ⟨⟨by simp only; omega, by rw [show 8 * q + (k + 1) = 8 * q + k + 1 from rfl, hrc, e0]; exact bf_first _ sp⟩, by simp only; omega⟩, ⟨rfl, ⟨SEq.ren rfl rfl, SEq.ren rfl ?_, (fun _ _ _ => rfl), (fun _ _ _ => by simp only [den, hnx]), (fun _ _ _ => rfl), trivial⟩, ⟨OSub.ren rfl rfl, OSub.row (by rw [hv]; rfl), trivial⟩, fun f hf => hf⟩⟩
        rw [show 8 * q + (k + 1) = 8 * q + k + 1 from rfl, hrc, e0]
        simp [BfS, ren, sg, h, Nat.add_comm]
      | some xs =>
        have hr1 := hr.1
        have hr2 := hr.2
        conv => whnf
        repeat' ((first | refine And.intro (by repeat' first | exact trivial | refine And.intro rfl ?_) (And.intro (by first | exact fun _ h => h | exact fun _ => List.mem_cons_of_mem _ | exact fun _ => List.mem_append_right _) ?_) | (refine And.intro (fun h => ?_) (fun h => ?_) <;> (try simp only [n1, n2, n3, n4, n5, n6] at h) <;> first | (exfalso; omega) | (cases h; done) | skip) | refine And.intro (by omega) ?_ | refine Exists.intro _ (And.intro (by first | exact And.intro rfl rfl | exact Pl.den (by repeat constructor) | with_reducible rfl | exact cast_succ _ | assumption | exact (Int.toNat_of_nonneg (by omega)).symm | rfl) ?_) | refine hD _ _ ?_ | refine hL _ _ ?_ | (intro h; (try simp only [n1, n2, n3, n4, n5, n6] at h); first | (exfalso; omega) | (cases h; done) | skip)) <;> (conv => whnf))
        refine And.intro ⟨by rw [htl]; omega, hr2, by omega, by simp [Value.oneCell', bv]⟩ fun m sp hsp => ?_
        conv => whnf
        repeat' ((first | refine And.intro (by repeat' first | exact trivial | refine And.intro rfl ?_) (And.intro (by first | exact fun _ h => h | exact fun _ => List.mem_cons_of_mem _ | exact fun _ => List.mem_append_right _) ?_) | (refine And.intro (fun h => ?_) (fun h => ?_) <;> (try simp only [n1, n2, n3, n4, n5, n6] at h) <;> first | (exfalso; omega) | (cases h; done) | skip) | refine And.intro (by omega) ?_ | refine Exists.intro _ (And.intro (by first | exact And.intro rfl rfl | exact Pl.den (by repeat constructor) | with_reducible rfl | exact cast_succ _ | assumption | exact (Int.toNat_of_nonneg (by omega)).symm | rfl) ?_) | refine hD _ _ ?_ | refine hL _ _ ?_ | (intro h; (try simp only [n1, n2, n3, n4, n5, n6] at h); first | (exfalso; omega) | (cases h; done) | skip)) <;> (conv => whnf))
        refine ⟨⟨k + 1, some (xs.take (((le32 x.val).take (8 * q + k)).length * 1) ++ [bv (byt x.val (8 * q + k))] ++ sp)⟩, [0, 3], ⟨⟨by simp only; omega, by rw [show 8 * q + (k + 1) = 8 * q + k + 1 from rfl, hrc]; exact bf_next hr _ sp⟩, by simp only; omega⟩, ⟨rfl, ⟨SEq.ren rfl rfl, SEq.ren rfl ?_, (fun _ _ _ => rfl), (fun _ _ _ => by simp only [den, hnx]), (fun _ _ _ => rfl), trivial⟩, ⟨OSub.ren rfl rfl, OSub.row (by rw [hv]; rfl), trivial⟩, fun f hf => hf⟩⟩
        have q1 : ((le32 x.val).take (8 * q + (k + 1))).length = 8 * q + k + 1 := by rw [List.length_take, hll]; omega
        have q2 : (xs.take (((le32 x.val).take (8 * q + k)).length * 1) ++ [bv (byt x.val (8 * q + k))] ++ sp).length = 8 * q + k + 1 + m := by
          rw [htl] at hr2 ⊢
          simp only [List.length_append, List.length_take, List.length_singleton, Nat.mul_one]
          omega
        simp only [BfS, ren]
        rw [q1, q2, htl]
        rfl
    · have e : k = 8 := by omega
      subst e
      cases row with
      | none =>
        conv => whnf
        repeat' ((first | refine And.intro (by repeat' first | exact trivial | refine And.intro rfl ?_) (And.intro (by first | exact fun _ h => h | exact fun _ => List.mem_cons_of_mem _ | exact fun _ => List.mem_append_right _) ?_) | (refine And.intro (fun h => ?_) (fun h => ?_) <;> (try simp only [n1, n2, n3, n4, n5, n6] at h) <;> first | (exfalso; omega) | (cases h; done) | skip) | refine And.intro (by omega) ?_ | refine Exists.intro _ (And.intro (by first | exact And.intro rfl rfl | exact Pl.den (by repeat constructor) | with_reducible rfl | exact cast_succ _ | assumption | exact (Int.toNat_of_nonneg (by omega)).symm | rfl) ?_) | refine hD _ _ ?_ | refine hL _ _ ?_ | (intro h; (try simp only [n1, n2, n3, n4, n5, n6] at h); first | (exfalso; omega) | (cases h; done) | skip)) <;> (conv => whnf))
        refine ⟨⟨q + 1, none⟩, [0, 1], ⟨⟨by simp only; omega, hr⟩, by simp only; omega⟩, ⟨rfl, ⟨SEq.ren rfl rfl, (fun _ _ _ => rfl), (fun _ _ _ => rfl), trivial⟩, ⟨OSub.ren rfl rfl, trivial⟩, fun f hf => hf⟩⟩
      | some xs =>
        conv => whnf
        repeat' ((first | refine And.intro (by repeat' first | exact trivial | refine And.intro rfl ?_) (And.intro (by first | exact fun _ h => h | exact fun _ => List.mem_cons_of_mem _ | exact fun _ => List.mem_append_right _) ?_) | (refine And.intro (fun h => ?_) (fun h => ?_) <;> (try simp only [n1, n2, n3, n4, n5, n6] at h) <;> first | (exfalso; omega) | (cases h; done) | skip) | refine And.intro (by omega) ?_ | refine Exists.intro _ (And.intro (by first | exact And.intro rfl rfl | exact Pl.den (by repeat constructor) | with_reducible rfl | exact cast_succ _ | assumption | exact (Int.toNat_of_nonneg (by omega)).symm | rfl) ?_) | refine hD _ _ ?_ | refine hL _ _ ?_ | (intro h; (try simp only [n1, n2, n3, n4, n5, n6] at h); first | (exfalso; omega) | (cases h; done) | skip)) <;> (conv => whnf))
        refine ⟨⟨q + 1, some xs⟩, [0, 1], ⟨⟨by simp only; omega, hr⟩, by simp only; omega⟩, ⟨rfl, ⟨SEq.ren rfl rfl, SEq.ren rfl rfl, (fun _ _ _ => rfl), trivial⟩, ⟨OSub.ren rfl rfl, OSub.ren rfl rfl, trivial⟩, fun f hf => hf⟩⟩
  · have e : q = 4 := by omega
    subst e
    rw [show 8 * 4 = 32 from rfl, List.take_of_length_le (by omega)] at hr
    cases row with
    | none => exact absurd (congrArg List.length (show le32 x.val = [] from hr)) (by rw [hll]; decide)
    | some xs =>
      conv => whnf
      repeat' ((first | refine And.intro (by repeat' first | exact trivial | refine And.intro rfl ?_) (And.intro (by first | exact fun _ h => h | exact fun _ => List.mem_cons_of_mem _ | exact fun _ => List.mem_append_right _) ?_) | (refine And.intro (fun h => ?_) (fun h => ?_) <;> (try simp only [n1, n2, n3, n4, n5, n6] at h) <;> first | (exfalso; omega) | (cases h; done) | skip) | refine And.intro (by omega) ?_ | refine Exists.intro _ (And.intro (by first | exact And.intro rfl rfl | exact Pl.den (by repeat constructor) | with_reducible rfl | exact cast_succ _ | assumption | exact (Int.toNat_of_nonneg (by omega)).symm | rfl) ?_) | refine hD _ _ ?_ | refine hL _ _ ?_ | (intro h; (try simp only [n1, n2, n3, n4, n5, n6] at h); first | (exfalso; omega) | (cases h; done) | skip)) <;> (conv => whnf))
      exact Ret.mk [1] [(1, .row xs 5)] (Fold.drop1 (by repeat first | exact List.mem_cons_self .. | apply List.mem_cons_of_mem)) rfl (by rw [show 8 * 4 = 32 from rfl, List.take_of_length_le (by omega)]; exact SEq.ren rfl rfl) ⟨OSub.ren rfl rfl, trivial⟩ (fun _ h => nomatch h)
end Go.Proofs.YtekgjjanikicnaaDoor.Sx
