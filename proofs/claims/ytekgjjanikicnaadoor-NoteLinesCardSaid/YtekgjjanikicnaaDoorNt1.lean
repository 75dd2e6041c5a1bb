/- Notes, plainly; a head's text. -/
import Derived.Test.YtekgjjanikicnaaDoorGu5
import Derived.Test.YtekgjjanikicnaaDoorTx8

namespace Go.Proofs.YtekgjjanikicnaaDoor.Sx
open Go Go.RowKit
set_option maxRecDepth 100000
set_option linter.unusedSimpArgs false
set_option linter.unusedVariables false
/-- A head. -/
structure Hd where
  org : ByteArray
  size : Int
  root : List UInt8
structure Hd.Fit (h : Hd) : Prop where
  root : h.root.length = 32
  size : -9223372036854775808 ≤ h.size ∧ h.size < 9223372036854775808
  org : h.org.size < 9223372036854775808
def Hd.cells (h : Hd) : List Value := [.string h.org, .int .i64 h.size] ++ h.root.map bv
def Hd.v (h : Hd) : Value := .agg ⟨h.cells⟩
def Hd.ok (h : Hd) : Bool := nameOk h.org.data.toList && decide (0 ≤ h.size ∧ h.size < 2147483648)
def Hd.text (h : Hd) : List UInt8 := h.org.data.toList ++ [10] ++ Lib.decDigits h.size.toNat ++ [10] ++ enc h.root ++ [10]
def strS (l : List UInt8) : Value := .string ⟨l.toArray⟩
def Hd.res (h : Hd) : SV := if h.ok then .tup [.v (strS h.text), .b true] else .tup [.v (.string ⟨#[]⟩), .b false]
theorem Hd.one {h : Hd} : ∀ u ∈ h.cells, u.oneCell' = true := by
  intro u hu
  rcases List.mem_append.1 hu with hu | hu
  · simp only [List.mem_cons, List.mem_nil_iff, or_false] at hu
    rcases hu with rfl | rfl <;> rfl
  · obtain ⟨c, _, rfl⟩ := List.mem_map.1 hu
    rfl
theorem nameOk_len {l : List UInt8} (h : nameOk l = true) : 1 ≤ l.length ∧ l.length ≤ 40 := by
  simp only [nameOk, Bool.and_eq_true, decide_eq_true_eq] at h
  exact h.2
theorem Hd.res_ok {d : Hd} (h : d.ok = true) : d.res = .tup [.v (strS d.text), .b true] := by unfold Hd.res; rw [h]; rfl
theorem Hd.res_no {d : Hd} (h : d.ok = false) : d.res = .tup [.v (.string ⟨#[]⟩), .b false] := by unfold Hd.res; rw [h]; rfl
theorem wrap_nat (n : Nat) (h : n < 18446744073709551616) : IntKind.u64.wrap (n : Int) = (n : Int) := by rw [wrap_u64_nat, Nat.mod_eq_of_lt h]
theorem tText (fx : List Fact) (hg : gTab ∈ fx) (d : Hd) (hf : d.Fit) : Tri Tryd.prog 34 [.v d.v] [] 0 fx (Ret 0 d.res [] 0 []) := by
  refine Tri.of_code tok Tryd.func34 rfl rfl rfl (by decide) rfl (Nat.le_of_ble_eq_true rfl) ?_
  conv => whnf
  repeat' ((first | refine And.intro (by repeat' first | exact trivial | refine And.intro rfl ?_) (And.intro (by first | exact fun _ h => h | exact fun _ => List.mem_cons_of_mem _ | exact fun _ => List.mem_append_right _) ?_) | (refine And.intro (fun h => ?_) (fun h => ?_) <;> (try simp only [n1, n2, n3, n4, n5, n6] at h) <;> first | (exfalso; omega) | (cases h; done) | skip) | refine And.intro (by omega) ?_ | refine Exists.intro _ (And.intro (by first | exact And.intro rfl rfl | exact Pl.den (by repeat constructor) | with_reducible rfl | exact cast_succ _ | assumption | exact (Int.toNat_of_nonneg (by omega)).symm | rfl) ?_) | refine hD _ _ ?_ | refine hL _ _ ?_ | (intro h; (try simp only [n1, n2, n3, n4, n5, n6] at h); first | (exfalso; omega) | (cases h; done) | skip)) <;> (conv => whnf))
  refine And.intro Hd.one ?_
  conv => whnf
  repeat' ((first | refine And.intro (by repeat' first | exact trivial | refine And.intro rfl ?_) (And.intro (by first | exact fun _ h => h | exact fun _ => List.mem_cons_of_mem _ | exact fun _ => List.mem_append_right _) ?_) | (refine And.intro (fun h => ?_) (fun h => ?_) <;> (try simp only [n1, n2, n3, n4, n5, n6] at h) <;> first | (exfalso; omega) | (cases h; done) | skip) | refine And.intro (by omega) ?_ | refine Exists.intro _ (And.intro (by first | exact And.intro rfl rfl | exact Pl.den (by repeat constructor) | with_reducible rfl | exact cast_succ _ | assumption | exact (Int.toNat_of_nonneg (by omega)).symm | rfl) ?_) | refine hD _ _ ?_ | refine hL _ _ ?_ | (intro h; (try simp only [n1, n2, n3, n4, n5, n6] at h); first | (exfalso; omega) | (cases h; done) | skip)) <;> (conv => whnf))
  refine Tri.use (tName d.org (by have := hf.org; omega)) [] rfl (fun _ _ _ => rfl) trivial (fun f hf => by first | exact hf | cases hf) (fun u hu => ?_)
  conv => whnf
  repeat' ((first | refine And.intro (by repeat' first | exact trivial | refine And.intro rfl ?_) (And.intro (by first | exact fun _ h => h | exact fun _ => List.mem_cons_of_mem _ | exact fun _ => List.mem_append_right _) ?_) | (refine And.intro (fun h => ?_) (fun h => ?_) <;> (try simp only [n1, n2, n3, n4, n5, n6] at h) <;> first | (exfalso; omega) | (cases h; done) | skip) | refine And.intro (by omega) ?_ | refine Exists.intro _ (And.intro (by first | exact And.intro rfl rfl | exact Pl.den (by repeat constructor) | with_reducible rfl | exact cast_succ _ | assumption | exact (Int.toNat_of_nonneg (by omega)).symm | rfl) ?_) | refine hD _ _ ?_ | refine hL _ _ ?_ | (intro h; (try simp only [n1, n2, n3, n4, n5, n6] at h); first | (exfalso; omega) | (cases h; done) | skip)) <;> (conv => whnf))
  · rw [Hd.res_no (by unfold Hd.ok; rw [h]; rfl)]
    exact Ret.noneS rfl (fun _ _ => rfl) (fun g hg => by cases hg)
  · rw [Hd.res_no (by unfold Hd.ok; rw [decide_eq_false (by omega)]; simp)]
    exact Ret.noneS rfl (fun _ _ => rfl) (fun g hg => by cases hg)
  · rw [Hd.res_no (by unfold Hd.ok; rw [decide_eq_false (by omega)]; simp)]
    exact Ret.noneS rfl (fun _ _ => rfl) (fun g hg => by cases hg)
  rename_i hn h0
  obtain ⟨org, size, root⟩ := d
  obtain ⟨n, rfl⟩ : ∃ n : Nat, size = (n : Int) := ⟨size.toNat, by simp only at *; omega⟩
  have hn1 := nameOk_len hn
  have horg := list_size org
  simp only at hn h0 h hn1 horg
  rw [horg] at hn1
  have h64 : n < 18446744073709551616 := by omega
  rw [Hd.res_ok (by unfold Hd.ok; rw [decide_eq_true (by simp only; omega), hn]; rfl)]
  refine draw_opaque fun KD hD => ?_
  refine draw_all tok (by kernel_rfl) [.any 0, .any 3, .any 9, .any 10, .load 1, .any 2, .one 4, .any 5, .one 6, .any 7, .any 8, .one 11, .any 12, .any 13, .any 14, .any 15] [] (by kernel_rfl) rfl rfl (by repeat' (first | exact trivial | refine And.intro rfl ?_)) ?_
  have ew := wrap_nat n h64
  have hdl := nDigits_le n h64
  have hds := decDigits_size n h64
  have hrl : root.length = 32 := hf.root
  have h10 : (⟨#[10]⟩ : ByteArray).size = 1 := rfl
  conv => whnf
  repeat' ((first | (refine And.intro (by simp only [app_size, h10]; omega) ?_) | refine And.intro (by repeat' first | exact trivial | refine And.intro rfl ?_) (And.intro (by first | exact fun _ h => h | exact fun _ => List.mem_cons_of_mem _ | exact fun _ => List.mem_append_right _) ?_) | (refine And.intro (fun h => ?_) (fun h => ?_) <;> (try simp only [n1, n2, n3, n4, n5, n6] at h) <;> first | (exfalso; omega) | (cases h; done) | skip) | refine And.intro (by omega) ?_ | refine Exists.intro _ (And.intro (by first | exact And.intro rfl rfl | exact Pl.den (by repeat constructor) | with_reducible rfl | exact cast_succ _ | assumption | exact (Int.toNat_of_nonneg (by omega)).symm | rfl) ?_) | refine hD _ _ ?_ | refine hL _ _ ?_ | (intro h; (try simp only [n1, n2, n3, n4, n5, n6] at h); first | (exfalso; omega) | (cases h; done) | skip)) <;> (conv => whnf))
  refine Tri.use ((tDigits fx hg n h64).one) [] rfl (fun _ _ _ => by simp only [denL_cons, denL_nil, den, ew]; try rfl) trivial (fun f hf => by first | exact hf | cases hf) (fun v hv => ?_)
  conv => whnf
  repeat' ((first | (refine And.intro (by simp only [app_size, h10, hds]; omega) ?_) | refine And.intro (by repeat' first | exact trivial | refine And.intro rfl ?_) (And.intro (by first | exact fun _ h => h | exact fun _ => List.mem_cons_of_mem _ | exact fun _ => List.mem_append_right _) ?_) | (refine And.intro (fun h => ?_) (fun h => ?_) <;> (try simp only [n1, n2, n3, n4, n5, n6] at h) <;> first | (exfalso; omega) | (cases h; done) | skip) | refine And.intro (by omega) ?_ | refine Exists.intro _ (And.intro (by first | exact And.intro rfl rfl | exact Pl.den (by repeat constructor) | with_reducible rfl | exact cast_succ _ | assumption | exact (Int.toNat_of_nonneg (by omega)).symm | rfl) ?_) | refine hD _ _ ?_ | refine hL _ _ ?_ | (intro h; (try simp only [n1, n2, n3, n4, n5, n6] at h); first | (exfalso; omega) | (cases h; done) | skip)) <;> (conv => whnf))
  refine Tri.lend 0 (xs := Hd.cells ⟨org, (n : Int), root⟩) (T := 52) (fun b => [.v (.slice (some ⟨b, 2, none⟩) 32 32)]) (List.mem_cons_self ..) rowOf.row (fun _ => rfl) fun b => ?_
  refine Tri.use (tEncode (rowFact b (Hd.cells ⟨org, (n : Int), root⟩) 52 :: fx) (some ⟨b, 2, none⟩) 32 root (by omega) (by omega) (BytesAt.row (List.mem_cons_self ..) (by show (root.map bv).take root.length = _; rw [List.take_of_length_le (by simp)]))).one [] rfl (fun _ _ _ => by rw [hrl]; rfl) trivial (fun f hf => hf) fun u hu => ?_
  conv => whnf
  refine And.intro rfl ?_
  have hel := enc_length root
  have hes := arr_size (enc root)
  conv => whnf
  repeat' ((first | (refine And.intro (by simp only [app_size, h10, hds, hes]; omega) ?_) | refine And.intro (by repeat' first | exact trivial | refine And.intro rfl ?_) (And.intro (by first | exact fun _ h => h | exact fun _ => List.mem_cons_of_mem _ | exact fun _ => List.mem_append_right _) ?_) | (refine And.intro (fun h => ?_) (fun h => ?_) <;> (try simp only [n1, n2, n3, n4, n5, n6] at h) <;> first | (exfalso; omega) | (cases h; done) | skip) | refine And.intro (by omega) ?_ | refine Exists.intro _ (And.intro (by first | exact And.intro rfl rfl | exact Pl.den (by repeat constructor) | with_reducible rfl | exact cast_succ _ | assumption | exact (Int.toNat_of_nonneg (by omega)).symm | rfl) ?_) | refine hD _ _ ?_ | refine hL _ _ ?_ | (intro h; (try simp only [n1, n2, n3, n4, n5, n6] at h); first | (exfalso; omega) | (cases h; done) | skip)) <;> (conv => whnf))
  refine Ret.noneS rfl (fun _ _ => ?_) (fun g hg => by cases hg)
  simp only [den, denL_cons, denL_nil, strS, Hd.text]
  have e10 : (⟨#[10]⟩ : ByteArray) = ⟨([10] : List UInt8).toArray⟩ := rfl
  have eo : org = ⟨org.data.toList.toArray⟩ := by simp
  rw [e10]
  conv => rhs; rw [eo]
  simp only [ba_app, Int.toNat_natCast]
end Go.Proofs.YtekgjjanikicnaaDoor.Sx
