/- Notes: a signature's line. -/
import Derived.Test.YtekgjjanikicnaaDoorNt1

namespace Go.Proofs.YtekgjjanikicnaaDoor.Sx
open Go Go.RowKit
set_option maxRecDepth 100000
set_option linter.unusedSimpArgs false
set_option linter.unusedVariables false
theorem tRefText (fx : List Fact) (d : Hd) (hf : d.Fit) : Tri Tryd.prog 35 [.v d.v] [] 0 fx (Ret 0 d.res [] 0 []) := by
  refine Tri.of_code tok Tryd.func35 rfl rfl rfl (by decide) rfl (Nat.le_of_ble_eq_true rfl) ?_
  conv => whnf
  repeat' ((first | refine And.intro (by repeat' first | exact trivial | refine And.intro rfl ?_) (And.intro (by first | exact fun _ h => h | exact fun _ => List.mem_cons_of_mem _ | exact fun _ => List.mem_append_right _) ?_) | (refine And.intro (fun h => ?_) (fun h => ?_) <;> (try simp only [n1, n2, n3, n4, n5, n6] at h) <;> first | (exfalso; omega) | (cases h; done) | skip) | refine And.intro (by omega) ?_ | refine Exists.intro _ (And.intro (by first | exact And.intro rfl rfl | exact Pl.den (by repeat constructor) | with_reducible rfl | exact cast_succ _ | assumption | exact (Int.toNat_of_nonneg (by omega)).symm | rfl) ?_) | refine hD _ _ ?_ | refine hL _ _ ?_ | (intro h; (try simp only [n1, n2, n3, n4, n5, n6] at h); first | (exfalso; omega) | (cases h; done) | skip)) <;> (conv => whnf))
  refine And.intro Hd.one ?_
  conv => whnf
  repeat' ((first | refine And.intro (by repeat' first | exact trivial | refine And.intro rfl ?_) (And.intro (by first | exact fun _ h => h | exact fun _ => List.mem_cons_of_mem _ | exact fun _ => List.mem_append_right _) ?_) | (refine And.intro (fun h => ?_) (fun h => ?_) <;> (try simp only [n1, n2, n3, n4, n5, n6] at h) <;> first | (exfalso; omega) | (cases h; done) | skip) | refine And.intro (by omega) ?_ | refine Exists.intro _ (And.intro (by first | exact And.intro rfl rfl | exact Pl.den (by repeat constructor) | with_reducible rfl | exact cast_succ _ | assumption | exact (Int.toNat_of_nonneg (by omega)).symm | rfl) ?_) | refine hD _ _ ?_ | refine hL _ _ ?_ | (intro h; (try simp only [n1, n2, n3, n4, n5, n6] at h); first | (exfalso; omega) | (cases h; done) | skip)) <;> (conv => whnf))
  refine Tri.use ((tRefName fx d.org (by have := hf.org; omega)).one) [] rfl (fun _ _ _ => rfl) trivial (fun f hf => by first | exact hf | cases hf) (fun u hu => ?_)
  conv => whnf
  repeat' ((first | refine And.intro (by repeat' first | exact trivial | refine And.intro rfl ?_) (And.intro (by first | exact fun _ h => h | exact fun _ => List.mem_cons_of_mem _ | exact fun _ => List.mem_append_right _) ?_) | (refine And.intro (fun h => ?_) (fun h => ?_) <;> (try simp only [n1, n2, n3, n4, n5, n6] at h) <;> first | (exfalso; omega) | (cases h; done) | skip) | refine And.intro (by omega) ?_ | refine Exists.intro _ (And.intro (by first | exact And.intro rfl rfl | exact Pl.den (by repeat constructor) | with_reducible rfl | exact cast_succ _ | assumption | exact (Int.toNat_of_nonneg (by omega)).symm | rfl) ?_) | refine hD _ _ ?_ | refine hL _ _ ?_ | (intro h; (try simp only [n1, n2, n3, n4, n5, n6] at h); first | (exfalso; omega) | (cases h; done) | skip)) <;> (conv => whnf))
  · rw [Hd.res_no (by unfold Hd.ok; rw [h]; rfl)]
    exact Ret.noneS rfl (fun _ _ => rfl) (fun g hg => by cases hg)
  · rw [Hd.res_no (by unfold Hd.ok; rw [decide_eq_false (by omega)]; simp)]
    exact Ret.noneS rfl (fun _ _ => rfl) (fun g hg => by cases hg)
  · rw [Hd.res_no (by unfold Hd.ok; rw [decide_eq_false (by omega)]; simp)]
    exact Ret.noneS rfl (fun _ _ => rfl) (fun g hg => by cases hg)
  rename_i hn h0
  obtain ⟨org, size, root⟩ := d
  obtain ⟨n, rfl⟩ : ∃ n : Nat, size = (n : Int) := ⟨size.toNat, by simp only at *; omega⟩
  have hn1 := nameOk_len hn
  have horg := list_size org
  simp only at hn h0 h hn1 horg
  rw [horg] at hn1
  have h64 : n < 18446744073709551616 := by omega
  rw [Hd.res_ok (by unfold Hd.ok; rw [decide_eq_true (by simp only; omega), hn]; rfl)]
  refine draw_opaque fun KD hD => ?_
  refine draw_all tok (by kernel_rfl) [.any 0, .any 3, .any 9, .any 10, .load 1, .any 2, .one 4, .any 5, .one 6, .any 7, .any 8, .one 11, .any 12, .any 13, .any 14, .any 15] [] (by kernel_rfl) rfl rfl (by repeat' (first | exact trivial | refine And.intro rfl ?_)) ?_
  have ew := wrap_nat n h64
  have hdl := nDigits_le n h64
  have hds := decDigits_size n h64
  have hrl : root.length = 32 := hf.root
  have h10 : (⟨#[10]⟩ : ByteArray).size = 1 := rfl
  conv => whnf
  repeat' ((first | (refine And.intro (by simp only [app_size, h10]; omega) ?_) | refine And.intro (by repeat' first | exact trivial | refine And.intro rfl ?_) (And.intro (by first | exact fun _ h => h | exact fun _ => List.mem_cons_of_mem _ | exact fun _ => List.mem_append_right _) ?_) | (refine And.intro (fun h => ?_) (fun h => ?_) <;> (try simp only [n1, n2, n3, n4, n5, n6] at h) <;> first | (exfalso; omega) | (cases h; done) | skip) | refine And.intro (by omega) ?_ | refine Exists.intro _ (And.intro (by first | exact And.intro rfl rfl | exact Pl.den (by repeat constructor) | with_reducible rfl | exact cast_succ _ | assumption | exact (Int.toNat_of_nonneg (by omega)).symm | rfl) ?_) | refine hD _ _ ?_ | refine hL _ _ ?_ | (intro h; (try simp only [n1, n2, n3, n4, n5, n6] at h); first | (exfalso; omega) | (cases h; done) | skip)) <;> (conv => whnf))
  refine Tri.use ((tRefDigits fx n n (Nat.le_refl _) h64).one) [] rfl (fun _ _ _ => by simp only [denL_cons, denL_nil, den, ew]; try rfl) trivial (fun f hf => by first | exact hf | cases hf) (fun v hv => ?_)
  conv => whnf
  repeat' ((first | (refine And.intro (by simp only [app_size, h10, hds]; omega) ?_) | refine And.intro (by repeat' first | exact trivial | refine And.intro rfl ?_) (And.intro (by first | exact fun _ h => h | exact fun _ => List.mem_cons_of_mem _ | exact fun _ => List.mem_append_right _) ?_) | (refine And.intro (fun h => ?_) (fun h => ?_) <;> (try simp only [n1, n2, n3, n4, n5, n6] at h) <;> first | (exfalso; omega) | (cases h; done) | skip) | refine And.intro (by omega) ?_ | refine Exists.intro _ (And.intro (by first | exact And.intro rfl rfl | exact Pl.den (by repeat constructor) | with_reducible rfl | exact cast_succ _ | assumption | exact (Int.toNat_of_nonneg (by omega)).symm | rfl) ?_) | refine hD _ _ ?_ | refine hL _ _ ?_ | (intro h; (try simp only [n1, n2, n3, n4, n5, n6] at h); first | (exfalso; omega) | (cases h; done) | skip)) <;> (conv => whnf))
  refine Tri.lend 0 (xs := Hd.cells ⟨org, (n : Int), root⟩) (T := 47) (fun b => [.v (.slice (some ⟨b, 2, none⟩) 32 32)]) (List.mem_cons_self ..) rowOf.row (fun _ => rfl) fun b => ?_
  refine Tri.use (tRefEncode (rowFact b (Hd.cells ⟨org, (n : Int), root⟩) 47 :: fx) (some ⟨b, 2, none⟩) 32 root (by omega) (BytesAt.row (List.mem_cons_self ..) (by show (root.map bv).take root.length = _; rw [List.take_of_length_le (by simp)]))).one [] rfl (fun _ _ _ => by rw [hrl]; rfl) trivial (fun f hf => hf) fun u hu => ?_
  conv => whnf
  refine And.intro rfl ?_
  have hel := enc_length root
  have hes := arr_size (enc root)
  conv => whnf
  repeat' ((first | (refine And.intro (by simp only [app_size, h10, hds, hes]; omega) ?_) | refine And.intro (by repeat' first | exact trivial | refine And.intro rfl ?_) (And.intro (by first | exact fun _ h => h | exact fun _ => List.mem_cons_of_mem _ | exact fun _ => List.mem_append_right _) ?_) | (refine And.intro (fun h => ?_) (fun h => ?_) <;> (try simp only [n1, n2, n3, n4, n5, n6] at h) <;> first | (exfalso; omega) | (cases h; done) | skip) | refine And.intro (by omega) ?_ | refine Exists.intro _ (And.intro (by first | exact And.intro rfl rfl | exact Pl.den (by repeat constructor) | with_reducible rfl | exact cast_succ _ | assumption | exact (Int.toNat_of_nonneg (by omega)).symm | rfl) ?_) | refine hD _ _ ?_ | refine hL _ _ ?_ | (intro h; (try simp only [n1, n2, n3, n4, n5, n6] at h); first | (exfalso; omega) | (cases h; done) | skip)) <;> (conv => whnf))
  refine Ret.noneS rfl (fun _ _ => ?_) (fun g hg => by cases hg)
  simp only [den, denL_cons, denL_nil, strS, Hd.text]
  have e10 : (⟨#[10]⟩ : ByteArray) = ⟨([10] : List UInt8).toArray⟩ := rfl
  have eo : org = ⟨org.data.toList.toArray⟩ := by simp
  rw [e10]
  conv => rhs; rw [eo]
  simp only [ba_app, Int.toNat_natCast]
/-- A signature. -/
structure Sg where
  name : ByteArray
  kind : UInt8
  num : Nat
  A : Option Addr
  cap : Nat
  bs : List UInt8
structure Sg.Fit (fx : List Fact) (s : Sg) : Prop where
  name : s.name.size < 9223372036854775808
  num : s.num < 4294967296
  bs : BytesAt fx s.A s.bs
  cap : s.bs.length ≤ s.cap
  len : s.bs.length < 9223372036854775808
def Sg.cells (s : Sg) : List Value := [.string s.name, bv s.kind, .int .u32 s.num, .slice s.A s.bs.length s.cap]
def Sg.v (s : Sg) : Value := .agg ⟨s.cells⟩
def Sg.ok (s : Sg) : Bool := nameOk s.name.data.toList && decide (s.kind.toNat = 101 ∨ s.kind.toNat = 112) && decide (1 ≤ s.bs.length ∧ s.bs.length ≤ 80)
def Sg.line (s : Sg) : List UInt8 := [115, 105, 103, 32] ++ s.name.data.toList ++ [32] ++ [s.kind] ++ [32] ++ Lib.decDigits s.num ++ [32] ++ enc s.bs ++ [10]
theorem Sg.one {s : Sg} : ∀ u ∈ s.cells, u.oneCell' = true := by
  intro u hu
  simp only [Sg.cells, List.mem_cons, List.mem_nil_iff, or_false] at hu
  rcases hu with rfl | rfl | rfl | rfl <;> rfl
theorem Sg.ok_iff {s : Sg} : s.ok = true ↔ nameOk s.name.data.toList = true ∧ (s.kind.toNat = 101 ∨ s.kind.toNat = 112) ∧ 1 ≤ s.bs.length ∧ s.bs.length ≤ 80 := by
  simp only [Sg.ok, Bool.and_eq_true, decide_eq_true_eq, and_assoc]
theorem Sg.no_iff {s : Sg} : s.ok = false ↔ ¬ (nameOk s.name.data.toList = true ∧ (s.kind.toNat = 101 ∨ s.kind.toNat = 112) ∧ 1 ≤ s.bs.length ∧ s.bs.length ≤ 80) := by
  rw [← Sg.ok_iff, Bool.not_eq_true]
theorem tFormed (fx : List Fact) (s : Sg) (hf : s.Fit fx) : Tri Tryd.prog 82 [.v s.v] [] 0 fx (Ret 0 (.v (.bool s.ok)) [] 0 []) := by
  refine Tri.of_code tok Tryd.func82 rfl rfl rfl (by decide) rfl (Nat.le_of_ble_eq_true rfl) ?_
  conv => whnf
  repeat' ((first | refine And.intro (by repeat' first | exact trivial | refine And.intro rfl ?_) (And.intro (by first | exact fun _ h => h | exact fun _ => List.mem_cons_of_mem _ | exact fun _ => List.mem_append_right _) ?_) | (refine And.intro (fun h => ?_) (fun h => ?_) <;> (try simp only [n1, n2, n3, n4, n5, n6] at h) <;> first | (exfalso; omega) | (cases h; done) | skip) | refine And.intro (by omega) ?_ | refine Exists.intro _ (And.intro (by first | exact And.intro rfl rfl | exact Pl.den (by repeat constructor) | with_reducible rfl | exact cast_succ _ | assumption | exact (Int.toNat_of_nonneg (by omega)).symm | rfl) ?_) | refine hD _ _ ?_ | refine hL _ _ ?_ | (intro h; (try simp only [n1, n2, n3, n4, n5, n6] at h); first | (exfalso; omega) | (cases h; done) | skip)) <;> (conv => whnf))
  refine And.intro Sg.one ?_
  conv => whnf
  repeat' ((first | refine And.intro (by repeat' first | exact trivial | refine And.intro rfl ?_) (And.intro (by first | exact fun _ h => h | exact fun _ => List.mem_cons_of_mem _ | exact fun _ => List.mem_append_right _) ?_) | (refine And.intro (fun h => ?_) (fun h => ?_) <;> (try simp only [n1, n2, n3, n4, n5, n6] at h) <;> first | (exfalso; omega) | (cases h; done) | skip) | refine And.intro (by omega) ?_ | refine Exists.intro _ (And.intro (by first | exact And.intro rfl rfl | exact Pl.den (by repeat constructor) | with_reducible rfl | exact cast_succ _ | assumption | exact (Int.toNat_of_nonneg (by omega)).symm | rfl) ?_) | refine hD _ _ ?_ | refine hL _ _ ?_ | (intro h; (try simp only [n1, n2, n3, n4, n5, n6] at h); first | (exfalso; omega) | (cases h; done) | skip)) <;> (conv => whnf))
  refine Tri.use (tName s.name (by have := hf.name; omega)) [] rfl (fun _ _ _ => rfl) trivial (fun f hf => by first | exact hf | cases hf) (fun u hu => ?_)
  conv => whnf
  repeat' ((first | refine And.intro (by repeat' first | exact trivial | refine And.intro rfl ?_) (And.intro (by first | exact fun _ h => h | exact fun _ => List.mem_cons_of_mem _ | exact fun _ => List.mem_append_right _) ?_) | (refine And.intro (fun h => ?_) (fun h => ?_) <;> (try simp only [n1, n2, n3, n4, n5, n6] at h) <;> first | (exfalso; omega) | (cases h; done) | skip) | refine And.intro (by omega) ?_ | refine Exists.intro _ (And.intro (by first | exact And.intro rfl rfl | exact Pl.den (by repeat constructor) | with_reducible rfl | exact cast_succ _ | assumption | exact (Int.toNat_of_nonneg (by omega)).symm | rfl) ?_) | refine hD _ _ ?_ | refine hL _ _ ?_ | (intro h; (try simp only [n1, n2, n3, n4, n5, n6] at h); first | (exfalso; omega) | (cases h; done) | skip)) <;> (conv => whnf))
  all_goals refine Ret.noneS rfl (fun _ _ => ?_) (fun g hg => by cases hg)
  all_goals simp only [den]
  all_goals congr 1
  all_goals first
    | (refine Sg.no_iff.2 ?_; rintro ⟨a, b, c, d⟩; first | omega | (rw [a] at h; cases h))
    | (rw [Bool.eq_iff_iff, Sg.ok_iff, decide_eq_true_eq]; refine ⟨fun ⟨a, b, c, d⟩ => by omega, fun e => ⟨by assumption, by omega, by omega, by omega⟩⟩)
theorem tLine (fx : List Fact) (hg : gTab ∈ fx) (s : Sg) (hf : s.Fit fx) (hk : s.ok = true) : Tri Tryd.prog 83 [.v s.v] [] 0 fx (Ret 0 (.v (strS s.line)) [] 0 []) := by
  refine Tri.of_code tok Tryd.func83 rfl rfl rfl (by decide) rfl (Nat.le_of_ble_eq_true rfl) ?_
  conv => whnf
  repeat' ((first | refine And.intro (by repeat' first | exact trivial | refine And.intro rfl ?_) (And.intro (by first | exact fun _ h => h | exact fun _ => List.mem_cons_of_mem _ | exact fun _ => List.mem_append_right _) ?_) | (refine And.intro (fun h => ?_) (fun h => ?_) <;> (try simp only [n1, n2, n3, n4, n5, n6] at h) <;> first | (exfalso; omega) | (cases h; done) | skip) | refine And.intro (by omega) ?_ | refine Exists.intro _ (And.intro (by first | exact And.intro rfl rfl | exact Pl.den (by repeat constructor) | with_reducible rfl | exact cast_succ _ | assumption | exact (Int.toNat_of_nonneg (by omega)).symm | rfl) ?_) | refine hD _ _ ?_ | refine hL _ _ ?_ | (intro h; (try simp only [n1, n2, n3, n4, n5, n6] at h); first | (exfalso; omega) | (cases h; done) | skip)) <;> (conv => whnf))
  refine And.intro Sg.one ?_
  conv => whnf
  repeat' ((first | refine And.intro (by repeat' first | exact trivial | refine And.intro rfl ?_) (And.intro (by first | exact fun _ h => h | exact fun _ => List.mem_cons_of_mem _ | exact fun _ => List.mem_append_right _) ?_) | (refine And.intro (fun h => ?_) (fun h => ?_) <;> (try simp only [n1, n2, n3, n4, n5, n6] at h) <;> first | (exfalso; omega) | (cases h; done) | skip) | refine And.intro (by omega) ?_ | refine Exists.intro _ (And.intro (by first | exact And.intro rfl rfl | exact Pl.den (by repeat constructor) | with_reducible rfl | exact cast_succ _ | assumption | exact (Int.toNat_of_nonneg (by omega)).symm | rfl) ?_) | refine hD _ _ ?_ | refine hL _ _ ?_ | (intro h; (try simp only [n1, n2, n3, n4, n5, n6] at h); first | (exfalso; omega) | (cases h; done) | skip)) <;> (conv => whnf))
  obtain ⟨kn, kk, kl, kh⟩ := Sg.ok_iff.1 hk
  obtain ⟨name, kind, num, A, cap, bs⟩ := s
  have hn1 := nameOk_len kn
  have horg := list_size name
  simp only at kn kk kl kh hn1 horg
  rw [horg] at hn1
  have hnum : num < 4294967296 := hf.num
  have hcap : bs.length ≤ cap := hf.cap
  have hB : BytesAt fx A bs := hf.bs
  have h64 : num < 18446744073709551616 := by omega
  have ew := wrap_nat num h64
  have hdl := nDigits_le num h64
  have hds := decDigits_size num h64
  have h4 : (⟨#[115, 105, 103, 32]⟩ : ByteArray).size = 4 := rfl
  have h1 : (⟨#[32]⟩ : ByteArray).size = 1 := rfl
  have h10 : (⟨#[10]⟩ : ByteArray).size = 1 := rfl
  have hel := enc_length bs
  have hes := arr_size (enc bs)
  have hwk : IntKind.i32.wrap (kind.toNat : Int) = (kind.toNat : Int) := by simp [IntKind.wrap, IntKind.signed, IntKind.bits]; omega
  refine draw_opaque fun KD hD => ?_
  refine draw_all tok (by kernel_rfl) [.any 0, .any 4, .any 10, .any 16, .load 1, .any 2, .any 3, .load 5, .any 6, .any 7, .any 8, .any 9, .load 11, .any 12, .load 17, .one 13, .any 14, .any 15, .one 18, .any 19, .any 20, .any 21] [] (by kernel_rfl) rfl rfl (by repeat' (first | exact trivial | refine And.intro rfl ?_)) ?_
  conv => whnf
  repeat' ((first | (refine And.intro (by simp only [app_size, one_size, h4, h1]; omega) ?_) | refine And.intro (by repeat' first | exact trivial | refine And.intro rfl ?_) (And.intro (by first | exact fun _ h => h | exact fun _ => List.mem_cons_of_mem _ | exact fun _ => List.mem_append_right _) ?_) | (refine And.intro (fun h => ?_) (fun h => ?_) <;> (try simp only [n1, n2, n3, n4, n5, n6] at h) <;> first | (exfalso; omega) | (cases h; done) | skip) | refine And.intro (by omega) ?_ | refine Exists.intro _ (And.intro (by first | exact And.intro rfl rfl | exact Pl.den (by repeat constructor) | with_reducible rfl | exact cast_succ _ | assumption | exact (Int.toNat_of_nonneg (by omega)).symm | rfl) ?_) | refine hD _ _ ?_ | refine hL _ _ ?_ | (intro h; (try simp only [n1, n2, n3, n4, n5, n6] at h); first | (exfalso; omega) | (cases h; done) | skip)) <;> (conv => whnf))
  refine Tri.use ((tDigits fx hg num h64).one) [] rfl (fun _ _ _ => by simp only [denL_cons, denL_nil, den, ew]; try rfl) trivial (fun f hf => by first | exact hf | cases hf) (fun v hv => ?_)
  conv => whnf
  repeat' ((first | (refine And.intro (by simp only [app_size, one_size, h4, h1, hds]; omega) ?_) | refine And.intro (by repeat' first | exact trivial | refine And.intro rfl ?_) (And.intro (by first | exact fun _ h => h | exact fun _ => List.mem_cons_of_mem _ | exact fun _ => List.mem_append_right _) ?_) | (refine And.intro (fun h => ?_) (fun h => ?_) <;> (try simp only [n1, n2, n3, n4, n5, n6] at h) <;> first | (exfalso; omega) | (cases h; done) | skip) | refine And.intro (by omega) ?_ | refine Exists.intro _ (And.intro (by first | exact And.intro rfl rfl | exact Pl.den (by repeat constructor) | with_reducible rfl | exact cast_succ _ | assumption | exact (Int.toNat_of_nonneg (by omega)).symm | rfl) ?_) | refine hD _ _ ?_ | refine hL _ _ ?_ | (intro h; (try simp only [n1, n2, n3, n4, n5, n6] at h); first | (exfalso; omega) | (cases h; done) | skip)) <;> (conv => whnf))
  refine Tri.use ((tEncode fx A cap bs (by omega) hcap hB).one) [] rfl (fun _ _ _ => rfl) trivial (fun f hf => by first | exact hf | cases hf) (fun u hu => ?_)
  conv => whnf
  repeat' ((first | (refine And.intro (by simp only [app_size, one_size, h4, h1, h10, hds, hes]; omega) ?_) | refine And.intro (by repeat' first | exact trivial | refine And.intro rfl ?_) (And.intro (by first | exact fun _ h => h | exact fun _ => List.mem_cons_of_mem _ | exact fun _ => List.mem_append_right _) ?_) | (refine And.intro (fun h => ?_) (fun h => ?_) <;> (try simp only [n1, n2, n3, n4, n5, n6] at h) <;> first | (exfalso; omega) | (cases h; done) | skip) | refine And.intro (by omega) ?_ | refine Exists.intro _ (And.intro (by first | exact And.intro rfl rfl | exact Pl.den (by repeat constructor) | with_reducible rfl | exact cast_succ _ | assumption | exact (Int.toNat_of_nonneg (by omega)).symm | rfl) ?_) | refine hD _ _ ?_ | refine hL _ _ ?_ | (intro h; (try simp only [n1, n2, n3, n4, n5, n6] at h); first | (exfalso; omega) | (cases h; done) | skip)) <;> (conv => whnf))
  refine Ret.noneS rfl (fun _ _ => ?_) (fun g hg => by cases hg)
  simp only [den, denL_cons, denL_nil, strS, Sg.line]
  have e10 : (⟨#[10]⟩ : ByteArray) = ⟨([10] : List UInt8).toArray⟩ := rfl
  have e1 : (⟨#[32]⟩ : ByteArray) = ⟨([32] : List UInt8).toArray⟩ := rfl
  have e4 : (⟨#[115, 105, 103, 32]⟩ : ByteArray) = ⟨([115, 105, 103, 32] : List UInt8).toArray⟩ := rfl
  have ek : (⟨#[UInt8.ofNat (IntKind.i32.wrap (kind.toNat : Int)).toNat]⟩ : ByteArray) = ⟨([kind] : List UInt8).toArray⟩ := by rw [hwk]; simp
  have eo : name = ⟨name.data.toList.toArray⟩ := by simp
  rw [e10, e1, e4, ek]
  conv => rhs; rw [eo]
  simp only [ba_app]
theorem tRefLine (fx : List Fact) (s : Sg) (hf : s.Fit fx) : Tri Tryd.prog 84 [.v s.v] [] 0 fx (Ret 0 (.v (strS (if s.ok then s.line else []))) [] 0 []) := by
  refine Tri.of_code tok Tryd.func84 rfl rfl rfl (by decide) rfl (Nat.le_of_ble_eq_true rfl) ?_
  conv => whnf
  repeat' ((first | refine And.intro (by repeat' first | exact trivial | refine And.intro rfl ?_) (And.intro (by first | exact fun _ h => h | exact fun _ => List.mem_cons_of_mem _ | exact fun _ => List.mem_append_right _) ?_) | (refine And.intro (fun h => ?_) (fun h => ?_) <;> (try simp only [n1, n2, n3, n4, n5, n6] at h) <;> first | (exfalso; omega) | (cases h; done) | skip) | refine And.intro (by omega) ?_ | refine Exists.intro _ (And.intro (by first | exact And.intro rfl rfl | exact Pl.den (by repeat constructor) | with_reducible rfl | exact cast_succ _ | assumption | exact (Int.toNat_of_nonneg (by omega)).symm | rfl) ?_) | refine hD _ _ ?_ | refine hL _ _ ?_ | (intro h; (try simp only [n1, n2, n3, n4, n5, n6] at h); first | (exfalso; omega) | (cases h; done) | skip)) <;> (conv => whnf))
  refine And.intro Sg.one ?_
  conv => whnf
  repeat' ((first | refine And.intro (by repeat' first | exact trivial | refine And.intro rfl ?_) (And.intro (by first | exact fun _ h => h | exact fun _ => List.mem_cons_of_mem _ | exact fun _ => List.mem_append_right _) ?_) | (refine And.intro (fun h => ?_) (fun h => ?_) <;> (try simp only [n1, n2, n3, n4, n5, n6] at h) <;> first | (exfalso; omega) | (cases h; done) | skip) | refine And.intro (by omega) ?_ | refine Exists.intro _ (And.intro (by first | exact And.intro rfl rfl | exact Pl.den (by repeat constructor) | with_reducible rfl | exact cast_succ _ | assumption | exact (Int.toNat_of_nonneg (by omega)).symm | rfl) ?_) | refine hD _ _ ?_ | refine hL _ _ ?_ | (intro h; (try simp only [n1, n2, n3, n4, n5, n6] at h); first | (exfalso; omega) | (cases h; done) | skip)) <;> (conv => whnf))
  refine Tri.use ((tRefName fx s.name (by have := hf.name; omega)).one) [] rfl (fun _ _ _ => rfl) trivial (fun f hf => by first | exact hf | cases hf) (fun u hu => ?_)
  conv => whnf
  repeat' ((first | refine And.intro (by repeat' first | exact trivial | refine And.intro rfl ?_) (And.intro (by first | exact fun _ h => h | exact fun _ => List.mem_cons_of_mem _ | exact fun _ => List.mem_append_right _) ?_) | (refine And.intro (fun h => ?_) (fun h => ?_) <;> (try simp only [n1, n2, n3, n4, n5, n6] at h) <;> first | (exfalso; omega) | (cases h; done) | skip) | refine And.intro (by omega) ?_ | refine Exists.intro _ (And.intro (by first | exact And.intro rfl rfl | exact Pl.den (by repeat constructor) | with_reducible rfl | exact cast_succ _ | assumption | exact (Int.toNat_of_nonneg (by omega)).symm | rfl) ?_) | refine hD _ _ ?_ | refine hL _ _ ?_ | (intro h; (try simp only [n1, n2, n3, n4, n5, n6] at h); first | (exfalso; omega) | (cases h; done) | skip)) <;> (conv => whnf))
  · rw [if_neg (by rw [Sg.ok_iff]; rintro ⟨a, b, c, d⟩; first | omega | (rw [a] at h; cases h))]
    exact Ret.noneS rfl (fun _ _ => rfl) (fun g hg => by cases hg)
  · rw [if_neg (by rw [Sg.ok_iff]; rintro ⟨a, b, c, d⟩; first | omega | (rw [a] at h; cases h))]
    exact Ret.noneS rfl (fun _ _ => rfl) (fun g hg => by cases hg)
  · rw [if_neg (by rw [Sg.ok_iff]; rintro ⟨a, b, c, d⟩; first | omega | (rw [a] at h; cases h))]
    exact Ret.noneS rfl (fun _ _ => rfl) (fun g hg => by cases hg)
  · rw [if_neg (by rw [Sg.ok_iff]; rintro ⟨a, b, c, d⟩; first | omega | (rw [a] at h; cases h))]
    exact Ret.noneS rfl (fun _ _ => rfl) (fun g hg => by cases hg)
  · have hok : s.ok = true := Sg.ok_iff.2 ⟨by assumption, by omega, by omega, by omega⟩
    rw [if_pos hok]
    obtain ⟨kn, kk, kl, kh⟩ := Sg.ok_iff.1 hok
    have hk : s.kind.toNat = 112 := by omega
    obtain ⟨name, kind, num, A, cap, bs⟩ := s
    have hn1 := nameOk_len kn
    have horg := list_size name
    simp only at kn kk kl kh hn1 horg hk
    rw [horg] at hn1
    have hnum : num < 4294967296 := hf.num
    have hB : BytesAt fx A bs := hf.bs
    have h64 : num < 18446744073709551616 := by omega
    have ew := wrap_nat num h64
    have hdl := nDigits_le num h64
    have hds := decDigits_size num h64
    have h4 : (⟨#[115, 105, 103, 32]⟩ : ByteArray).size = 4 := rfl
    have h1 : (⟨#[32]⟩ : ByteArray).size = 1 := rfl
    have h10 : (⟨#[10]⟩ : ByteArray).size = 1 := rfl
    have hk1 : (⟨#[112]⟩ : ByteArray).size = 1 := rfl
    have hel := enc_length bs
    have hes := arr_size (enc bs)
    refine draw_opaque fun KD hD => ?_
    refine draw_all tok (by kernel_rfl) [.any 0, .any 4, .any 7, .any 13, .load 1, .any 2, .any 3, .any 5, .any 6, .load 8, .any 9, .load 14, .one 10, .any 11, .any 12, .one 15, .any 16, .any 17, .any 18] [] (by kernel_rfl) rfl rfl (by repeat' (first | exact trivial | refine And.intro rfl ?_)) ?_
    conv => whnf
    repeat' ((first | (refine And.intro (by simp only [app_size, h4, h1, hk1]; omega) ?_) | refine And.intro (by repeat' first | exact trivial | refine And.intro rfl ?_) (And.intro (by first | exact fun _ h => h | exact fun _ => List.mem_cons_of_mem _ | exact fun _ => List.mem_append_right _) ?_) | (refine And.intro (fun h => ?_) (fun h => ?_) <;> (try simp only [n1, n2, n3, n4, n5, n6] at h) <;> first | (exfalso; omega) | (cases h; done) | skip) | refine And.intro (by omega) ?_ | refine Exists.intro _ (And.intro (by first | exact And.intro rfl rfl | exact Pl.den (by repeat constructor) | with_reducible rfl | exact cast_succ _ | assumption | exact (Int.toNat_of_nonneg (by omega)).symm | rfl) ?_) | refine hD _ _ ?_ | refine hL _ _ ?_ | (intro h; (try simp only [n1, n2, n3, n4, n5, n6] at h); first | (exfalso; omega) | (cases h; done) | skip)) <;> (conv => whnf))
    refine Tri.use ((tRefDigits fx num num (Nat.le_refl _) h64).one) [] rfl (fun _ _ _ => by simp only [denL_cons, denL_nil, den, ew]; try rfl) trivial (fun f hf => by first | exact hf | cases hf) (fun v hv => ?_)
    conv => whnf
    repeat' ((first | (refine And.intro (by simp only [app_size, hk1, h4, h1, hds]; omega) ?_) | refine And.intro (by repeat' first | exact trivial | refine And.intro rfl ?_) (And.intro (by first | exact fun _ h => h | exact fun _ => List.mem_cons_of_mem _ | exact fun _ => List.mem_append_right _) ?_) | (refine And.intro (fun h => ?_) (fun h => ?_) <;> (try simp only [n1, n2, n3, n4, n5, n6] at h) <;> first | (exfalso; omega) | (cases h; done) | skip) | refine And.intro (by omega) ?_ | refine Exists.intro _ (And.intro (by first | exact And.intro rfl rfl | exact Pl.den (by repeat constructor) | with_reducible rfl | exact cast_succ _ | assumption | exact (Int.toNat_of_nonneg (by omega)).symm | rfl) ?_) | refine hD _ _ ?_ | refine hL _ _ ?_ | (intro h; (try simp only [n1, n2, n3, n4, n5, n6] at h); first | (exfalso; omega) | (cases h; done) | skip)) <;> (conv => whnf))
    refine Tri.use ((tRefEncode fx A cap bs (by omega) hB).one) [] rfl (fun _ _ _ => rfl) trivial (fun f hf => by first | exact hf | cases hf) (fun u hu => ?_)
    conv => whnf
    repeat' ((first | (refine And.intro (by simp only [app_size, hk1, h4, h1, h10, hds, hes]; omega) ?_) | refine And.intro (by repeat' first | exact trivial | refine And.intro rfl ?_) (And.intro (by first | exact fun _ h => h | exact fun _ => List.mem_cons_of_mem _ | exact fun _ => List.mem_append_right _) ?_) | (refine And.intro (fun h => ?_) (fun h => ?_) <;> (try simp only [n1, n2, n3, n4, n5, n6] at h) <;> first | (exfalso; omega) | (cases h; done) | skip) | refine And.intro (by omega) ?_ | refine Exists.intro _ (And.intro (by first | exact And.intro rfl rfl | exact Pl.den (by repeat constructor) | with_reducible rfl | exact cast_succ _ | assumption | exact (Int.toNat_of_nonneg (by omega)).symm | rfl) ?_) | refine hD _ _ ?_ | refine hL _ _ ?_ | (intro h; (try simp only [n1, n2, n3, n4, n5, n6] at h); first | (exfalso; omega) | (cases h; done) | skip)) <;> (conv => whnf))
    refine Ret.noneS rfl (fun _ _ => ?_) (fun g hg => by cases hg)
    simp only [den, denL_cons, denL_nil, strS, Sg.line]
    have e10 : (⟨#[10]⟩ : ByteArray) = ⟨([10] : List UInt8).toArray⟩ := rfl
    have e1 : (⟨#[32]⟩ : ByteArray) = ⟨([32] : List UInt8).toArray⟩ := rfl
    have e4 : (⟨#[115, 105, 103, 32]⟩ : ByteArray) = ⟨([115, 105, 103, 32] : List UInt8).toArray⟩ := rfl
    have hkk : kind = 112 := UInt8.toNat_inj.1 hk
    have ek : (⟨#[112]⟩ : ByteArray) = ⟨([112] : List UInt8).toArray⟩ := rfl
    have eo : name = ⟨name.data.toList.toArray⟩ := by simp
    rw [hkk, e10, e1, e4, ek]
    conv => rhs; rw [eo]
    simp only [ba_app]
  · rw [if_neg (by rw [Sg.ok_iff]; rintro ⟨a, b, c, d⟩; first | omega | (rw [a] at h; cases h))]
    exact Ret.noneS rfl (fun _ _ => rfl) (fun g hg => by cases hg)
  · rw [if_neg (by rw [Sg.ok_iff]; rintro ⟨a, b, c, d⟩; first | omega | (rw [a] at h; cases h))]
    exact Ret.noneS rfl (fun _ _ => rfl) (fun g hg => by cases hg)
  · have hok : s.ok = true := Sg.ok_iff.2 ⟨by assumption, by omega, by omega, by omega⟩
    rw [if_pos hok]
    obtain ⟨kn, kk, kl, kh⟩ := Sg.ok_iff.1 hok
    have hk : s.kind.toNat = 101 := by omega
    obtain ⟨name, kind, num, A, cap, bs⟩ := s
    have hn1 := nameOk_len kn
    have horg := list_size name
    simp only at kn kk kl kh hn1 horg hk
    rw [horg] at hn1
    have hnum : num < 4294967296 := hf.num
    have hB : BytesAt fx A bs := hf.bs
    have h64 : num < 18446744073709551616 := by omega
    have ew := wrap_nat num h64
    have hdl := nDigits_le num h64
    have hds := decDigits_size num h64
    have h4 : (⟨#[115, 105, 103, 32]⟩ : ByteArray).size = 4 := rfl
    have h1 : (⟨#[32]⟩ : ByteArray).size = 1 := rfl
    have h10 : (⟨#[10]⟩ : ByteArray).size = 1 := rfl
    have hk1 : (⟨#[101]⟩ : ByteArray).size = 1 := rfl
    have hel := enc_length bs
    have hes := arr_size (enc bs)
    refine draw_opaque fun KD hD => ?_
    refine draw_all tok (by kernel_rfl) [.any 0, .any 4, .any 7, .any 13, .load 1, .any 2, .any 3, .any 5, .any 6, .load 8, .any 9, .load 14, .one 10, .any 11, .any 12, .one 15, .any 16, .any 17, .any 18] [] (by kernel_rfl) rfl rfl (by repeat' (first | exact trivial | refine And.intro rfl ?_)) ?_
    conv => whnf
    repeat' ((first | (refine And.intro (by simp only [app_size, h4, h1, hk1]; omega) ?_) | refine And.intro (by repeat' first | exact trivial | refine And.intro rfl ?_) (And.intro (by first | exact fun _ h => h | exact fun _ => List.mem_cons_of_mem _ | exact fun _ => List.mem_append_right _) ?_) | (refine And.intro (fun h => ?_) (fun h => ?_) <;> (try simp only [n1, n2, n3, n4, n5, n6] at h) <;> first | (exfalso; omega) | (cases h; done) | skip) | refine And.intro (by omega) ?_ | refine Exists.intro _ (And.intro (by first | exact And.intro rfl rfl | exact Pl.den (by repeat constructor) | with_reducible rfl | exact cast_succ _ | assumption | exact (Int.toNat_of_nonneg (by omega)).symm | rfl) ?_) | refine hD _ _ ?_ | refine hL _ _ ?_ | (intro h; (try simp only [n1, n2, n3, n4, n5, n6] at h); first | (exfalso; omega) | (cases h; done) | skip)) <;> (conv => whnf))
    refine Tri.use ((tRefDigits fx num num (Nat.le_refl _) h64).one) [] rfl (fun _ _ _ => by simp only [denL_cons, denL_nil, den, ew]; try rfl) trivial (fun f hf => by first | exact hf | cases hf) (fun v hv => ?_)
    conv => whnf
    repeat' ((first | (refine And.intro (by simp only [app_size, hk1, h4, h1, hds]; omega) ?_) | refine And.intro (by repeat' first | exact trivial | refine And.intro rfl ?_) (And.intro (by first | exact fun _ h => h | exact fun _ => List.mem_cons_of_mem _ | exact fun _ => List.mem_append_right _) ?_) | (refine And.intro (fun h => ?_) (fun h => ?_) <;> (try simp only [n1, n2, n3, n4, n5, n6] at h) <;> first | (exfalso; omega) | (cases h; done) | skip) | refine And.intro (by omega) ?_ | refine Exists.intro _ (And.intro (by first | exact And.intro rfl rfl | exact Pl.den (by repeat constructor) | with_reducible rfl | exact cast_succ _ | assumption | exact (Int.toNat_of_nonneg (by omega)).symm | rfl) ?_) | refine hD _ _ ?_ | refine hL _ _ ?_ | (intro h; (try simp only [n1, n2, n3, n4, n5, n6] at h); first | (exfalso; omega) | (cases h; done) | skip)) <;> (conv => whnf))
    refine Tri.use ((tRefEncode fx A cap bs (by omega) hB).one) [] rfl (fun _ _ _ => rfl) trivial (fun f hf => by first | exact hf | cases hf) (fun u hu => ?_)
    conv => whnf
    repeat' ((first | (refine And.intro (by simp only [app_size, hk1, h4, h1, h10, hds, hes]; omega) ?_) | refine And.intro (by repeat' first | exact trivial | refine And.intro rfl ?_) (And.intro (by first | exact fun _ h => h | exact fun _ => List.mem_cons_of_mem _ | exact fun _ => List.mem_append_right _) ?_) | (refine And.intro (fun h => ?_) (fun h => ?_) <;> (try simp only [n1, n2, n3, n4, n5, n6] at h) <;> first | (exfalso; omega) | (cases h; done) | skip) | refine And.intro (by omega) ?_ | refine Exists.intro _ (And.intro (by first | exact And.intro rfl rfl | exact Pl.den (by repeat constructor) | with_reducible rfl | exact cast_succ _ | assumption | exact (Int.toNat_of_nonneg (by omega)).symm | rfl) ?_) | refine hD _ _ ?_ | refine hL _ _ ?_ | (intro h; (try simp only [n1, n2, n3, n4, n5, n6] at h); first | (exfalso; omega) | (cases h; done) | skip)) <;> (conv => whnf))
    refine Ret.noneS rfl (fun _ _ => ?_) (fun g hg => by cases hg)
    simp only [den, denL_cons, denL_nil, strS, Sg.line]
    have e10 : (⟨#[10]⟩ : ByteArray) = ⟨([10] : List UInt8).toArray⟩ := rfl
    have e1 : (⟨#[32]⟩ : ByteArray) = ⟨([32] : List UInt8).toArray⟩ := rfl
    have e4 : (⟨#[115, 105, 103, 32]⟩ : ByteArray) = ⟨([115, 105, 103, 32] : List UInt8).toArray⟩ := rfl
    have hkk : kind = 101 := UInt8.toNat_inj.1 hk
    have ek : (⟨#[101]⟩ : ByteArray) = ⟨([101] : List UInt8).toArray⟩ := rfl
    have eo : name = ⟨name.data.toList.toArray⟩ := by simp
    rw [hkk, e10, e1, e4, ek]
    conv => rhs; rw [eo]
    simp only [ba_app]
end Go.Proofs.YtekgjjanikicnaaDoor.Sx
