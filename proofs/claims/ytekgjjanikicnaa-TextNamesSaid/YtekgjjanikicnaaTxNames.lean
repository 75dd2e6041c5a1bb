/- The law TextNames: what its code does. -/
import Derived.Test.YtekgjjanikicnaaTxParts
namespace Go.Proofs.Ytekgjjanikicnaa.Sx
open Go
set_option maxRecDepth 100000
set_option linter.unusedSimpArgs false
set_option linter.unusedVariables false

def badB (j : Nat) : UInt8 := ([32, 10, 43, 95, 0, 200, 126, 44] : List UInt8).getD j 0
theorem badB_at {j : Nat} (h : j < 8) : ([SV.k IntKind.u8 32, SV.k IntKind.u8 10, SV.k IntKind.u8 43, SV.k IntKind.u8 95, SV.k IntKind.u8 0, SV.k IntKind.u8 200, SV.k IntKind.u8 126, SV.k IntKind.u8 44])[0 + j * 1]? = some (.k .u8 ((badB j).toNat : Int)) := by
  have : j = 0 ∨ j = 1 ∨ j = 2 ∨ j = 3 ∨ j = 4 ∨ j = 5 ∨ j = 6 ∨ j = 7 := by omega
  rcases this with rfl | rfl | rfl | rfl | rfl | rfl | rfl | rfl <;> rfl
theorem badB_not {j : Nat} (h : j < 8) : nameSign (badB j) = false := by
  have : j = 0 ∨ j = 1 ∨ j = 2 ∨ j = 3 ∨ j = 4 ∨ j = 5 ∨ j = 6 ∨ j = 7 := by omega
  rcases this with rfl | rfl | rfl | rfl | rfl | rfl | rfl | rfl <;> rfl
theorem tNames (fx : List Fact) (s : ByteArray) (k c : Int) (hk : 0 ≤ k ∧ k ≤ 255) (hc : 0 ≤ c ∧ c ≤ 255) (hs : s.size < 9223372036854775808) :
    Tri Try.prog 5 [.v (.string s), .v (.int .u8 k), .v (.int .u8 c)] [] 0 fx (Ret 0 (.b true) [] 0 []) := by
  refine Tri.of_code tok Try.func5 rfl rfl rfl (by decide) rfl (Nat.le_of_ble_eq_true rfl) ?_
  conv => whnf
  repeat' (first
    | (refine And.intro (by first | exact trivial | exact And.intro rfl trivial | exact And.intro rfl (And.intro rfl trivial) | exact And.intro rfl (And.intro rfl (And.intro rfl trivial))) (And.intro (fun _ h => h) ?_); (conv => whnf))
    | (refine And.intro (fun h => ?_) (fun h => ?_) <;> (try simp only [decide_eq_true_eq, decide_eq_false_iff_not, Bool.not_eq_true', Bool.not_eq_false', Bool.not_true, Bool.not_false] at h) <;> first | (exfalso; omega) | (conv => whnf))
    | (refine And.intro ?_ ?_; (omega); (conv => whnf))
    | (refine Exists.intro _ (And.intro (And.intro rfl rfl) ?_); (conv => whnf))
    | (refine Exists.intro ?w (And.intro (Pl.den ?p) ?k); (case p => repeat constructor); (conv => whnf))
    | (refine Exists.intro _ (And.intro (by with_reducible rfl) ?_); (conv => whnf))
    | (refine Exists.intro _ (And.intro (cast_succ _) ?_); (conv => whnf))
    | (refine Exists.intro _ (And.intro (by assumption) ?_); (conv => whnf))
    | (refine Exists.intro _ (And.intro (Int.toNat_of_nonneg ?_).symm ?_); (omega); (conv => whnf))
    | (refine Exists.intro _ (And.intro rfl ?_); (conv => whnf))
    | (intro h; (try simp only [decide_eq_true_eq, decide_eq_false_iff_not, Bool.not_eq_true', Bool.not_eq_false', Bool.not_true, Bool.not_false] at h); first | (exfalso; omega) | (conv => whnf)))
  refine Tri.use (tAwake fx).one [] rfl (args_ren rfl rfl) trivial (fun f hf => by first | exact hf | cases hf | simp_all) (fun u hu => ?_)
  conv => whnf
  repeat' (first
    | (refine And.intro (by first | exact trivial | exact And.intro rfl trivial | exact And.intro rfl (And.intro rfl trivial) | exact And.intro rfl (And.intro rfl (And.intro rfl trivial))) (And.intro (fun _ h => h) ?_); (conv => whnf))
    | (refine And.intro (fun h => ?_) (fun h => ?_) <;> (try simp only [decide_eq_true_eq, decide_eq_false_iff_not, Bool.not_eq_true', Bool.not_eq_false', Bool.not_true, Bool.not_false] at h) <;> first | (exfalso; omega) | (conv => whnf))
    | (refine And.intro ?_ ?_; (omega); (conv => whnf))
    | (refine Exists.intro _ (And.intro (And.intro rfl rfl) ?_); (conv => whnf))
    | (refine Exists.intro ?w (And.intro (Pl.den ?p) ?k); (case p => repeat constructor); (conv => whnf))
    | (refine Exists.intro _ (And.intro (by with_reducible rfl) ?_); (conv => whnf))
    | (refine Exists.intro _ (And.intro (cast_succ _) ?_); (conv => whnf))
    | (refine Exists.intro _ (And.intro (by assumption) ?_); (conv => whnf))
    | (refine Exists.intro _ (And.intro (Int.toNat_of_nonneg ?_).symm ?_); (omega); (conv => whnf))
    | (refine Exists.intro _ (And.intro rfl ?_); (conv => whnf))
    | (intro h; (try simp only [decide_eq_true_eq, decide_eq_false_iff_not, Bool.not_eq_true', Bool.not_eq_false', Bool.not_true, Bool.not_false] at h); first | (exfalso; omega) | (conv => whnf)))
  · refine Tri.use (tAwake fx).one [] rfl (args_ren rfl rfl) trivial (fun f hf => by first | exact hf | cases hf | simp_all) (fun u hu => ?_)
    conv => whnf
    repeat' (first
      | (refine And.intro (by first | exact trivial | exact And.intro rfl trivial | exact And.intro rfl (And.intro rfl trivial) | exact And.intro rfl (And.intro rfl (And.intro rfl trivial))) (And.intro (fun _ h => h) ?_); (conv => whnf))
      | (refine And.intro (fun h => ?_) (fun h => ?_) <;> (try simp only [decide_eq_true_eq, decide_eq_false_iff_not, Bool.not_eq_true', Bool.not_eq_false', Bool.not_true, Bool.not_false] at h) <;> first | (exfalso; omega) | (conv => whnf))
      | (refine And.intro ?_ ?_; (omega); (conv => whnf))
      | (refine Exists.intro _ (And.intro (And.intro rfl rfl) ?_); (conv => whnf))
      | (refine Exists.intro ?w (And.intro (Pl.den ?p) ?k); (case p => repeat constructor); (conv => whnf))
      | (refine Exists.intro _ (And.intro (by with_reducible rfl) ?_); (conv => whnf))
      | (refine Exists.intro _ (And.intro (cast_succ _) ?_); (conv => whnf))
      | (refine Exists.intro _ (And.intro (by assumption) ?_); (conv => whnf))
      | (refine Exists.intro _ (And.intro (Int.toNat_of_nonneg ?_).symm ?_); (omega); (conv => whnf))
      | (refine Exists.intro _ (And.intro rfl ?_); (conv => whnf))
      | (intro h; (try simp only [decide_eq_true_eq, decide_eq_false_iff_not, Bool.not_eq_true', Bool.not_eq_false', Bool.not_true, Bool.not_false] at h); first | (exfalso; omega) | (conv => whnf)))
    exact Ret.noneS rfl (fun _ _ => rfl) (fun _ h => nomatch h)
  refine Tri.use (tName s hs) [] rfl (args_ren rfl rfl) trivial (fun f hf => by first | exact hf | cases hf | simp_all) (fun u hu => ?_)
  conv => whnf
  repeat' (first
    | (refine And.intro (by first | exact trivial | exact And.intro rfl trivial | exact And.intro rfl (And.intro rfl trivial) | exact And.intro rfl (And.intro rfl (And.intro rfl trivial))) (And.intro (fun _ h => h) ?_); (conv => whnf))
    | (refine And.intro (fun h => ?_) (fun h => ?_) <;> (try simp only [decide_eq_true_eq, decide_eq_false_iff_not, Bool.not_eq_true', Bool.not_eq_false', Bool.not_true, Bool.not_false] at h) <;> first | (exfalso; omega) | (conv => whnf))
    | (refine And.intro ?_ ?_; (omega); (conv => whnf))
    | (refine Exists.intro _ (And.intro (And.intro rfl rfl) ?_); (conv => whnf))
    | (refine Exists.intro ?w (And.intro (Pl.den ?p) ?k); (case p => repeat constructor); (conv => whnf))
    | (refine Exists.intro _ (And.intro (by with_reducible rfl) ?_); (conv => whnf))
    | (refine Exists.intro _ (And.intro (cast_succ _) ?_); (conv => whnf))
    | (refine Exists.intro _ (And.intro (by assumption) ?_); (conv => whnf))
    | (refine Exists.intro _ (And.intro (Int.toNat_of_nonneg ?_).symm ?_); (omega); (conv => whnf))
    | (refine Exists.intro _ (And.intro rfl ?_); (conv => whnf))
    | (intro h; (try simp only [decide_eq_true_eq, decide_eq_false_iff_not, Bool.not_eq_true', Bool.not_eq_false', Bool.not_true, Bool.not_false] at h); first | (exfalso; omega) | (conv => whnf)))
  · refine Tri.use (tAwake fx).one [] rfl (args_ren rfl rfl) trivial (fun f hf => by first | exact hf | cases hf | simp_all) (fun u hu => ?_)
    conv => whnf
    repeat' (first
      | (refine And.intro (by first | exact trivial | exact And.intro rfl trivial | exact And.intro rfl (And.intro rfl trivial) | exact And.intro rfl (And.intro rfl (And.intro rfl trivial))) (And.intro (fun _ h => h) ?_); (conv => whnf))
      | (refine And.intro (fun h => ?_) (fun h => ?_) <;> (try simp only [decide_eq_true_eq, decide_eq_false_iff_not, Bool.not_eq_true', Bool.not_eq_false', Bool.not_true, Bool.not_false] at h) <;> first | (exfalso; omega) | (conv => whnf))
      | (refine And.intro ?_ ?_; (omega); (conv => whnf))
      | (refine Exists.intro _ (And.intro (And.intro rfl rfl) ?_); (conv => whnf))
      | (refine Exists.intro ?w (And.intro (Pl.den ?p) ?k); (case p => repeat constructor); (conv => whnf))
      | (refine Exists.intro _ (And.intro (by with_reducible rfl) ?_); (conv => whnf))
      | (refine Exists.intro _ (And.intro (cast_succ _) ?_); (conv => whnf))
      | (refine Exists.intro _ (And.intro (by assumption) ?_); (conv => whnf))
      | (refine Exists.intro _ (And.intro (Int.toNat_of_nonneg ?_).symm ?_); (omega); (conv => whnf))
      | (refine Exists.intro _ (And.intro rfl ?_); (conv => whnf))
      | (intro h; (try simp only [decide_eq_true_eq, decide_eq_false_iff_not, Bool.not_eq_true', Bool.not_eq_false', Bool.not_true, Bool.not_false] at h); first | (exfalso; omega) | (conv => whnf)))
    exact Ret.noneS rfl (fun _ _ => rfl) (fun _ h => nomatch h)
  have hn := h
  have hn' := hn
  simp only [nameOk, Bool.and_eq_true, decide_eq_true_eq] at hn'
  have hsz : s.data.toList.length = s.size := by rw [Array.length_toList]; rfl
  obtain ⟨hall, hn1, hn2⟩ := hn'
  rw [hsz] at hn1 hn2
  conv => whnf
  repeat' (first
    | (refine And.intro (by first | exact trivial | exact And.intro rfl trivial | exact And.intro rfl (And.intro rfl trivial) | exact And.intro rfl (And.intro rfl (And.intro rfl trivial))) (And.intro (fun _ h => h) ?_); (conv => whnf))
    | (refine And.intro (fun h => ?_) (fun h => ?_) <;> (try simp only [decide_eq_true_eq, decide_eq_false_iff_not, Bool.not_eq_true', Bool.not_eq_false', Bool.not_true, Bool.not_false] at h) <;> first | (exfalso; omega) | (conv => whnf))
    | (refine And.intro ?_ ?_; (omega); (conv => whnf))
    | (refine Exists.intro _ (And.intro (And.intro rfl rfl) ?_); (conv => whnf))
    | (refine Exists.intro ?w (And.intro (Pl.den ?p) ?k); (case p => repeat constructor); (conv => whnf))
    | (refine Exists.intro _ (And.intro (by with_reducible rfl) ?_); (conv => whnf))
    | (refine Exists.intro _ (And.intro (cast_succ _) ?_); (conv => whnf))
    | (refine Exists.intro _ (And.intro (by assumption) ?_); (conv => whnf))
    | (refine Exists.intro _ (And.intro (Int.toNat_of_nonneg ?_).symm ?_); (omega); (conv => whnf))
    | (refine Exists.intro _ (And.intro rfl ?_); (conv => whnf))
    | (intro h; (try simp only [decide_eq_true_eq, decide_eq_false_iff_not, Bool.not_eq_true', Bool.not_eq_false', Bool.not_true, Bool.not_false] at h); first | (exfalso; omega) | (conv => whnf)))
  obtain ⟨q, hq, hq1⟩ : ∃ q : Nat, k % (s.size : Int) = q ∧ q < s.size :=
    ⟨(k % (s.size : Int)).toNat, (Int.toNat_of_nonneg (Int.emod_nonneg k (by omega))).symm, by have := Int.emod_lt_of_pos k (b := (s.size : Int)) (by omega); have := Int.emod_nonneg k (b := (s.size : Int)) (by omega); omega⟩
  obtain ⟨j, hj, hj1⟩ : ∃ j : Nat, c % 8 = j ∧ j < 8 := ⟨(c % 8).toNat, by omega, by omega⟩
  rw [hq]
  refine draw_rule tok (by kernel_rfl) [.any 0, .any 1, .any 2, .any 3, .any 4, .any 5, .any 6, .any 7, .any 8, .any 9, .any 14, .any 15, .any 16, .any 17, .one 10, .one 11, .one 12, .any 13, .any 18, .any 19] [] [] (by kernel_rfl) rfl rfl trivial ?_
  conv => whnf
  repeat' (first
    | (refine And.intro (by first | exact trivial | exact And.intro rfl trivial | exact And.intro rfl (And.intro rfl trivial) | exact And.intro rfl (And.intro rfl (And.intro rfl trivial))) (And.intro (fun _ h => h) ?_); (conv => whnf))
    | (refine And.intro (fun h => ?_) (fun h => ?_) <;> (try simp only [decide_eq_true_eq, decide_eq_false_iff_not, Bool.not_eq_true', Bool.not_eq_false', Bool.not_true, Bool.not_false] at h) <;> first | (exfalso; omega) | (conv => whnf))
    | (refine And.intro ?_ ?_; (omega); (conv => whnf))
    | (refine Exists.intro _ (And.intro (And.intro rfl rfl) ?_); (conv => whnf))
    | (refine Exists.intro ?w (And.intro (Pl.den ?p) ?k); (case p => repeat constructor); (conv => whnf))
    | (refine Exists.intro _ (And.intro (by with_reducible rfl) ?_); (conv => whnf))
    | (refine Exists.intro _ (And.intro (cast_succ _) ?_); (conv => whnf))
    | (refine Exists.intro _ (And.intro (by assumption) ?_); (conv => whnf))
    | (refine Exists.intro _ (And.intro (Int.toNat_of_nonneg ?_).symm ?_); (omega); (conv => whnf))
    | (refine Exists.intro _ (And.intro rfl ?_); (conv => whnf))
    | (intro h; (try simp only [decide_eq_true_eq, decide_eq_false_iff_not, Bool.not_eq_true', Bool.not_eq_false', Bool.not_true, Bool.not_false] at h); first | (exfalso; omega) | (conv => whnf)))
  refine ⟨_, badB_at hj1, ?_⟩
  conv => whnf
  repeat' (first
    | (refine And.intro (by first | exact trivial | exact And.intro rfl trivial | exact And.intro rfl (And.intro rfl trivial) | exact And.intro rfl (And.intro rfl (And.intro rfl trivial))) (And.intro (fun _ h => h) ?_); (conv => whnf))
    | (refine And.intro (fun h => ?_) (fun h => ?_) <;> (try simp only [decide_eq_true_eq, decide_eq_false_iff_not, Bool.not_eq_true', Bool.not_eq_false', Bool.not_true, Bool.not_false] at h) <;> first | (exfalso; omega) | (conv => whnf))
    | (refine And.intro ?_ ?_; (omega); (conv => whnf))
    | (refine Exists.intro _ (And.intro (And.intro rfl rfl) ?_); (conv => whnf))
    | (refine Exists.intro ?w (And.intro (Pl.den ?p) ?k); (case p => repeat constructor); (conv => whnf))
    | (refine Exists.intro _ (And.intro (by with_reducible rfl) ?_); (conv => whnf))
    | (refine Exists.intro _ (And.intro (cast_succ _) ?_); (conv => whnf))
    | (refine Exists.intro _ (And.intro (by assumption) ?_); (conv => whnf))
    | (refine Exists.intro _ (And.intro (Int.toNat_of_nonneg ?_).symm ?_); (omega); (conv => whnf))
    | (refine Exists.intro _ (And.intro rfl ?_); (conv => whnf))
    | (intro h; (try simp only [decide_eq_true_eq, decide_eq_false_iff_not, Bool.not_eq_true', Bool.not_eq_false', Bool.not_true, Bool.not_false] at h); first | (exfalso; omega) | (conv => whnf)))
  refine ⟨[badB j], rfl, ?_⟩
  conv => whnf
  repeat' (first
    | (refine And.intro (by first | exact trivial | exact And.intro rfl trivial | exact And.intro rfl (And.intro rfl trivial) | exact And.intro rfl (And.intro rfl (And.intro rfl trivial))) (And.intro (fun _ h => h) ?_); (conv => whnf))
    | (refine And.intro (fun h => ?_) (fun h => ?_) <;> (try simp only [decide_eq_true_eq, decide_eq_false_iff_not, Bool.not_eq_true', Bool.not_eq_false', Bool.not_true, Bool.not_false] at h) <;> first | (exfalso; omega) | (conv => whnf))
    | (refine And.intro ?_ ?_; (omega); (conv => whnf))
    | (refine Exists.intro _ (And.intro (And.intro rfl rfl) ?_); (conv => whnf))
    | (refine Exists.intro ?w (And.intro (Pl.den ?p) ?k); (case p => repeat constructor); (conv => whnf))
    | (refine Exists.intro _ (And.intro (by with_reducible rfl) ?_); (conv => whnf))
    | (refine Exists.intro _ (And.intro (cast_succ _) ?_); (conv => whnf))
    | (refine Exists.intro _ (And.intro (by assumption) ?_); (conv => whnf))
    | (refine Exists.intro _ (And.intro (Int.toNat_of_nonneg ?_).symm ?_); (omega); (conv => whnf))
    | (refine Exists.intro _ (And.intro rfl ?_); (conv => whnf))
    | (intro h; (try simp only [decide_eq_true_eq, decide_eq_false_iff_not, Bool.not_eq_true', Bool.not_eq_false', Bool.not_true, Bool.not_false] at h); first | (exfalso; omega) | (conv => whnf)))
  refine And.intro (by simp only [app_size, ext_size, one_size]; omega) ?_
  conv => whnf
  repeat' (first
    | (refine And.intro (by first | exact trivial | exact And.intro rfl trivial | exact And.intro rfl (And.intro rfl trivial) | exact And.intro rfl (And.intro rfl (And.intro rfl trivial))) (And.intro (fun _ h => h) ?_); (conv => whnf))
    | (refine And.intro (fun h => ?_) (fun h => ?_) <;> (try simp only [decide_eq_true_eq, decide_eq_false_iff_not, Bool.not_eq_true', Bool.not_eq_false', Bool.not_true, Bool.not_false] at h) <;> first | (exfalso; omega) | (conv => whnf))
    | (refine And.intro ?_ ?_; (omega); (conv => whnf))
    | (refine Exists.intro _ (And.intro (And.intro rfl rfl) ?_); (conv => whnf))
    | (refine Exists.intro ?w (And.intro (Pl.den ?p) ?k); (case p => repeat constructor); (conv => whnf))
    | (refine Exists.intro _ (And.intro (by with_reducible rfl) ?_); (conv => whnf))
    | (refine Exists.intro _ (And.intro (cast_succ _) ?_); (conv => whnf))
    | (refine Exists.intro _ (And.intro (by assumption) ?_); (conv => whnf))
    | (refine Exists.intro _ (And.intro (Int.toNat_of_nonneg ?_).symm ?_); (omega); (conv => whnf))
    | (refine Exists.intro _ (And.intro rfl ?_); (conv => whnf))
    | (intro h; (try simp only [decide_eq_true_eq, decide_eq_false_iff_not, Bool.not_eq_true', Bool.not_eq_false', Bool.not_true, Bool.not_false] at h); first | (exfalso; omega) | (conv => whnf)))
  refine And.intro (by simp only [app_size, ext_size, one_size]; omega) ?_
  conv => whnf
  repeat' (first
    | (refine And.intro (by first | exact trivial | exact And.intro rfl trivial | exact And.intro rfl (And.intro rfl trivial) | exact And.intro rfl (And.intro rfl (And.intro rfl trivial))) (And.intro (fun _ h => h) ?_); (conv => whnf))
    | (refine And.intro (fun h => ?_) (fun h => ?_) <;> (try simp only [decide_eq_true_eq, decide_eq_false_iff_not, Bool.not_eq_true', Bool.not_eq_false', Bool.not_true, Bool.not_false] at h) <;> first | (exfalso; omega) | (conv => whnf))
    | (refine And.intro ?_ ?_; (omega); (conv => whnf))
    | (refine Exists.intro _ (And.intro (And.intro rfl rfl) ?_); (conv => whnf))
    | (refine Exists.intro ?w (And.intro (Pl.den ?p) ?k); (case p => repeat constructor); (conv => whnf))
    | (refine Exists.intro _ (And.intro (by with_reducible rfl) ?_); (conv => whnf))
    | (refine Exists.intro _ (And.intro (cast_succ _) ?_); (conv => whnf))
    | (refine Exists.intro _ (And.intro (by assumption) ?_); (conv => whnf))
    | (refine Exists.intro _ (And.intro (Int.toNat_of_nonneg ?_).symm ?_); (omega); (conv => whnf))
    | (refine Exists.intro _ (And.intro rfl ?_); (conv => whnf))
    | (intro h; (try simp only [decide_eq_true_eq, decide_eq_false_iff_not, Bool.not_eq_true', Bool.not_eq_false', Bool.not_true, Bool.not_false] at h); first | (exfalso; omega) | (conv => whnf)))
  refine draw_rule tok (by kernel_rfl) [.any 0, .any 1, .any 2, .any 3, .any 4, .any 5, .any 6, .one 7, .any 8, .any 9, .any 10, .any 11, .any 12, .one 13, .any 14, .any 15, .any 16, .one 17, .any 18, .any 19, .any 20, .any 21, .any 22, .one 23, .any 24, .any 25, .any 26] [] [] (by kernel_rfl) rfl rfl trivial ?_
  conv => whnf
  repeat' (first
    | (refine And.intro (by first | exact trivial | exact And.intro rfl trivial | exact And.intro rfl (And.intro rfl trivial) | exact And.intro rfl (And.intro rfl (And.intro rfl trivial))) (And.intro (fun _ h => h) ?_); (conv => whnf))
    | (refine And.intro (fun h => ?_) (fun h => ?_) <;> (try simp only [decide_eq_true_eq, decide_eq_false_iff_not, Bool.not_eq_true', Bool.not_eq_false', Bool.not_true, Bool.not_false] at h) <;> first | (exfalso; omega) | (conv => whnf))
    | (refine And.intro ?_ ?_; (omega); (conv => whnf))
    | (refine Exists.intro _ (And.intro (And.intro rfl rfl) ?_); (conv => whnf))
    | (refine Exists.intro ?w (And.intro (Pl.den ?p) ?k); (case p => repeat constructor); (conv => whnf))
    | (refine Exists.intro _ (And.intro (by with_reducible rfl) ?_); (conv => whnf))
    | (refine Exists.intro _ (And.intro (cast_succ _) ?_); (conv => whnf))
    | (refine Exists.intro _ (And.intro (by assumption) ?_); (conv => whnf))
    | (refine Exists.intro _ (And.intro (Int.toNat_of_nonneg ?_).symm ?_); (omega); (conv => whnf))
    | (refine Exists.intro _ (And.intro rfl ?_); (conv => whnf))
    | (intro h; (try simp only [decide_eq_true_eq, decide_eq_false_iff_not, Bool.not_eq_true', Bool.not_eq_false', Bool.not_true, Bool.not_false] at h); first | (exfalso; omega) | (conv => whnf)))
  refine And.intro (by simp only [app_size, ext_size, one_size]; omega) ?_
  conv => whnf
  repeat' (first
    | (refine And.intro (by first | exact trivial | exact And.intro rfl trivial | exact And.intro rfl (And.intro rfl trivial) | exact And.intro rfl (And.intro rfl (And.intro rfl trivial))) (And.intro (fun _ h => h) ?_); (conv => whnf))
    | (refine And.intro (fun h => ?_) (fun h => ?_) <;> (try simp only [decide_eq_true_eq, decide_eq_false_iff_not, Bool.not_eq_true', Bool.not_eq_false', Bool.not_true, Bool.not_false] at h) <;> first | (exfalso; omega) | (conv => whnf))
    | (refine And.intro ?_ ?_; (omega); (conv => whnf))
    | (refine Exists.intro _ (And.intro (And.intro rfl rfl) ?_); (conv => whnf))
    | (refine Exists.intro ?w (And.intro (Pl.den ?p) ?k); (case p => repeat constructor); (conv => whnf))
    | (refine Exists.intro _ (And.intro (by with_reducible rfl) ?_); (conv => whnf))
    | (refine Exists.intro _ (And.intro (cast_succ _) ?_); (conv => whnf))
    | (refine Exists.intro _ (And.intro (by assumption) ?_); (conv => whnf))
    | (refine Exists.intro _ (And.intro (Int.toNat_of_nonneg ?_).symm ?_); (omega); (conv => whnf))
    | (refine Exists.intro _ (And.intro rfl ?_); (conv => whnf))
    | (intro h; (try simp only [decide_eq_true_eq, decide_eq_false_iff_not, Bool.not_eq_true', Bool.not_eq_false', Bool.not_true, Bool.not_false] at h); first | (exfalso; omega) | (conv => whnf)))
  have hA : ∀ c ∈ s.data.toList, nameSign c = true := List.all_eq_true.1 hall
  have n1 : nameOk (s.extract ((some q).getD 0) s.size ++ s.extract (none.getD 0) q).data.toList = true := by
    simp only [nameOk, app_list, ext_list, Bool.and_eq_true, decide_eq_true_eq, List.all_eq_true, List.mem_append, List.length_append, List.length_drop, List.length_take, hsz, Option.getD]
    refine ⟨fun c hc => hA c ?_, by omega, by omega⟩
    rcases hc with hc | hc
    · exact List.mem_of_mem_take (List.mem_of_mem_drop hc)
    · exact List.mem_of_mem_take (List.mem_of_mem_drop hc)
  refine Tri.use ((tName (s.extract ((some q).getD 0) s.size ++ s.extract (none.getD 0) q) (by simp only [app_size, ext_size]; omega)).reval (v' := .b true) (fun _ => by rw [n1]; rfl)) [] rfl (args_ren rfl rfl) trivial (fun f hf => by first | exact hf | cases hf | simp_all) (fun u hu => ?_)
  conv => whnf
  repeat' (first
    | (refine And.intro (by first | exact trivial | exact And.intro rfl trivial | exact And.intro rfl (And.intro rfl trivial) | exact And.intro rfl (And.intro rfl (And.intro rfl trivial))) (And.intro (fun _ h => h) ?_); (conv => whnf))
    | (refine And.intro (fun h => ?_) (fun h => ?_) <;> (try simp only [decide_eq_true_eq, decide_eq_false_iff_not, Bool.not_eq_true', Bool.not_eq_false', Bool.not_true, Bool.not_false] at h) <;> first | (exfalso; omega) | (conv => whnf))
    | (refine And.intro ?_ ?_; (omega); (conv => whnf))
    | (refine Exists.intro _ (And.intro (And.intro rfl rfl) ?_); (conv => whnf))
    | (refine Exists.intro ?w (And.intro (Pl.den ?p) ?k); (case p => repeat constructor); (conv => whnf))
    | (refine Exists.intro _ (And.intro (by with_reducible rfl) ?_); (conv => whnf))
    | (refine Exists.intro _ (And.intro (cast_succ _) ?_); (conv => whnf))
    | (refine Exists.intro _ (And.intro (by assumption) ?_); (conv => whnf))
    | (refine Exists.intro _ (And.intro (Int.toNat_of_nonneg ?_).symm ?_); (omega); (conv => whnf))
    | (refine Exists.intro _ (And.intro rfl ?_); (conv => whnf))
    | (intro h; (try simp only [decide_eq_true_eq, decide_eq_false_iff_not, Bool.not_eq_true', Bool.not_eq_false', Bool.not_true, Bool.not_false] at h); first | (exfalso; omega) | (conv => whnf)))
  have n2 : nameOk (s.extract (none.getD 0) (q + 1)).data.toList = true := by
    simp only [nameOk, ext_list, Bool.and_eq_true, decide_eq_true_eq, List.all_eq_true, List.length_drop, List.length_take, hsz, Option.getD]
    exact ⟨fun c hc => hA c (List.mem_of_mem_take (List.mem_of_mem_drop hc)), by omega, by omega⟩
  refine Tri.use ((tName (s.extract (none.getD 0) (q + 1)) (by simp only [app_size, ext_size]; omega)).reval (v' := .b true) (fun _ => by rw [n2]; rfl)) [] rfl (args_ren rfl rfl) trivial (fun f hf => by first | exact hf | cases hf | simp_all) (fun u hu => ?_)
  conv => whnf
  repeat' (first
    | (refine And.intro (by first | exact trivial | exact And.intro rfl trivial | exact And.intro rfl (And.intro rfl trivial) | exact And.intro rfl (And.intro rfl (And.intro rfl trivial))) (And.intro (fun _ h => h) ?_); (conv => whnf))
    | (refine And.intro (fun h => ?_) (fun h => ?_) <;> (try simp only [decide_eq_true_eq, decide_eq_false_iff_not, Bool.not_eq_true', Bool.not_eq_false', Bool.not_true, Bool.not_false] at h) <;> first | (exfalso; omega) | (conv => whnf))
    | (refine And.intro ?_ ?_; (omega); (conv => whnf))
    | (refine Exists.intro _ (And.intro (And.intro rfl rfl) ?_); (conv => whnf))
    | (refine Exists.intro ?w (And.intro (Pl.den ?p) ?k); (case p => repeat constructor); (conv => whnf))
    | (refine Exists.intro _ (And.intro (by with_reducible rfl) ?_); (conv => whnf))
    | (refine Exists.intro _ (And.intro (cast_succ _) ?_); (conv => whnf))
    | (refine Exists.intro _ (And.intro (by assumption) ?_); (conv => whnf))
    | (refine Exists.intro _ (And.intro (Int.toNat_of_nonneg ?_).symm ?_); (omega); (conv => whnf))
    | (refine Exists.intro _ (And.intro rfl ?_); (conv => whnf))
    | (intro h; (try simp only [decide_eq_true_eq, decide_eq_false_iff_not, Bool.not_eq_true', Bool.not_eq_false', Bool.not_true, Bool.not_false] at h); first | (exfalso; omega) | (conv => whnf)))
  have n3 : nameOk (s.extract (none.getD 0) q ++ ⟨#[badB j]⟩ ++ s.extract ((some (q + 1)).getD 0) s.size).data.toList = false := by
    simp only [nameOk, app_list, List.all_append]
    have : ([badB j].all nameSign) = false := by simp [badB_not hj1]
    rw [this]; simp
  refine Tri.use ((tName (s.extract (none.getD 0) q ++ ⟨#[badB j]⟩ ++ s.extract ((some (q + 1)).getD 0) s.size) (by simp only [app_size, ext_size, one_size]; omega)).reval (v' := .b false) (fun _ => by rw [n3]; rfl)) [] rfl (args_ren rfl rfl) trivial (fun f hf => by first | exact hf | cases hf | simp_all) (fun u hu => ?_)
  conv => whnf
  repeat' (first
    | (refine And.intro (by first | exact trivial | exact And.intro rfl trivial | exact And.intro rfl (And.intro rfl trivial) | exact And.intro rfl (And.intro rfl (And.intro rfl trivial))) (And.intro (fun _ h => h) ?_); (conv => whnf))
    | (refine And.intro (fun h => ?_) (fun h => ?_) <;> (try simp only [decide_eq_true_eq, decide_eq_false_iff_not, Bool.not_eq_true', Bool.not_eq_false', Bool.not_true, Bool.not_false] at h) <;> first | (exfalso; omega) | (conv => whnf))
    | (refine And.intro ?_ ?_; (omega); (conv => whnf))
    | (refine Exists.intro _ (And.intro (And.intro rfl rfl) ?_); (conv => whnf))
    | (refine Exists.intro ?w (And.intro (Pl.den ?p) ?k); (case p => repeat constructor); (conv => whnf))
    | (refine Exists.intro _ (And.intro (by with_reducible rfl) ?_); (conv => whnf))
    | (refine Exists.intro _ (And.intro (cast_succ _) ?_); (conv => whnf))
    | (refine Exists.intro _ (And.intro (by assumption) ?_); (conv => whnf))
    | (refine Exists.intro _ (And.intro (Int.toNat_of_nonneg ?_).symm ?_); (omega); (conv => whnf))
    | (refine Exists.intro _ (And.intro rfl ?_); (conv => whnf))
    | (intro h; (try simp only [decide_eq_true_eq, decide_eq_false_iff_not, Bool.not_eq_true', Bool.not_eq_false', Bool.not_true, Bool.not_false] at h); first | (exfalso; omega) | (conv => whnf)))
  have hz : (⟨#[48, 49, 50, 51, 52, 53, 54, 55, 56, 57, 48, 49, 50, 51, 52, 53, 54, 55, 56, 57, 48, 49, 50, 51, 52, 53, 54, 55, 56, 57, 48, 49, 50, 51, 52, 53, 54, 55, 56, 57]⟩ : ByteArray).size = 40 := rfl
  generalize (⟨#[48, 49, 50, 51, 52, 53, 54, 55, 56, 57, 48, 49, 50, 51, 52, 53, 54, 55, 56, 57, 48, 49, 50, 51, 52, 53, 54, 55, 56, 57, 48, 49, 50, 51, 52, 53, 54, 55, 56, 57]⟩ : ByteArray) = z at hz ⊢
  refine And.intro (by omega) ?_
  conv => whnf
  repeat' (first
    | (refine And.intro (by first | exact trivial | exact And.intro rfl trivial | exact And.intro rfl (And.intro rfl trivial) | exact And.intro rfl (And.intro rfl (And.intro rfl trivial))) (And.intro (fun _ h => h) ?_); (conv => whnf))
    | (refine And.intro (fun h => ?_) (fun h => ?_) <;> (try simp only [decide_eq_true_eq, decide_eq_false_iff_not, Bool.not_eq_true', Bool.not_eq_false', Bool.not_true, Bool.not_false] at h) <;> first | (exfalso; omega) | (conv => whnf))
    | (refine And.intro ?_ ?_; (omega); (conv => whnf))
    | (refine Exists.intro _ (And.intro (And.intro rfl rfl) ?_); (conv => whnf))
    | (refine Exists.intro ?w (And.intro (Pl.den ?p) ?k); (case p => repeat constructor); (conv => whnf))
    | (refine Exists.intro _ (And.intro (by with_reducible rfl) ?_); (conv => whnf))
    | (refine Exists.intro _ (And.intro (cast_succ _) ?_); (conv => whnf))
    | (refine Exists.intro _ (And.intro (by assumption) ?_); (conv => whnf))
    | (refine Exists.intro _ (And.intro (Int.toNat_of_nonneg ?_).symm ?_); (omega); (conv => whnf))
    | (refine Exists.intro _ (And.intro rfl ?_); (conv => whnf))
    | (intro h; (try simp only [decide_eq_true_eq, decide_eq_false_iff_not, Bool.not_eq_true', Bool.not_eq_false', Bool.not_true, Bool.not_false] at h); first | (exfalso; omega) | (conv => whnf)))
  have n4 : nameOk (s ++ z).data.toList = false := by
    have hlz : z.data.toList.length = 40 := by rw [Array.length_toList]; exact hz
    simp only [nameOk, app_list, List.length_append, hsz, hlz]
    rw [decide_eq_false (by omega)]; simp
  refine Tri.use ((tName (s ++ z) (by simp only [app_size]; omega)).reval (v' := .b false) (fun _ => by rw [n4]; rfl)) [] rfl (args_ren rfl rfl) trivial (fun f hf => by first | exact hf | cases hf | simp_all) (fun u hu => ?_)
  conv => whnf
  repeat' (first
    | (refine And.intro (by first | exact trivial | exact And.intro rfl trivial | exact And.intro rfl (And.intro rfl trivial) | exact And.intro rfl (And.intro rfl (And.intro rfl trivial))) (And.intro (fun _ h => h) ?_); (conv => whnf))
    | (refine And.intro (fun h => ?_) (fun h => ?_) <;> (try simp only [decide_eq_true_eq, decide_eq_false_iff_not, Bool.not_eq_true', Bool.not_eq_false', Bool.not_true, Bool.not_false] at h) <;> first | (exfalso; omega) | (conv => whnf))
    | (refine And.intro ?_ ?_; (omega); (conv => whnf))
    | (refine Exists.intro _ (And.intro (And.intro rfl rfl) ?_); (conv => whnf))
    | (refine Exists.intro ?w (And.intro (Pl.den ?p) ?k); (case p => repeat constructor); (conv => whnf))
    | (refine Exists.intro _ (And.intro (by with_reducible rfl) ?_); (conv => whnf))
    | (refine Exists.intro _ (And.intro (cast_succ _) ?_); (conv => whnf))
    | (refine Exists.intro _ (And.intro (by assumption) ?_); (conv => whnf))
    | (refine Exists.intro _ (And.intro (Int.toNat_of_nonneg ?_).symm ?_); (omega); (conv => whnf))
    | (refine Exists.intro _ (And.intro rfl ?_); (conv => whnf))
    | (intro h; (try simp only [decide_eq_true_eq, decide_eq_false_iff_not, Bool.not_eq_true', Bool.not_eq_false', Bool.not_true, Bool.not_false] at h); first | (exfalso; omega) | (conv => whnf)))
  exact Ret.noneS rfl (fun _ _ => rfl) (fun _ h => nomatch h)
end Go.Proofs.Ytekgjjanikicnaa.Sx
