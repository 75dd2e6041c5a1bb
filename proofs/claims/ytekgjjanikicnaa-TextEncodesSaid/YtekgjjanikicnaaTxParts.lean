/- The law TextParts: what its code does. -/
import Derived.Test.YtekgjjanikicnaaTx3
namespace Go.Proofs.Ytekgjjanikicnaa.Sx
open Go
set_option maxRecDepth 100000
set_option linter.unusedSimpArgs false
set_option linter.unusedVariables false

theorem tAwake (fx : List Fact) : Tri Try.prog 21 [] [] 0 fx (Ret 0 (.b true) [] 0 []) := by
  refine Tri.of_code tok Try.func21 rfl rfl rfl (by decide) rfl (Nat.le_of_ble_eq_true rfl) ?_
  conv => whnf
  repeat' (first
    | (refine And.intro (by first | exact trivial | exact And.intro rfl trivial | exact And.intro rfl (And.intro rfl trivial) | exact And.intro rfl (And.intro rfl (And.intro rfl trivial))) (And.intro (fun _ h => h) ?_); (conv => whnf))
    | (refine And.intro (fun h => ?_) (fun h => ?_) <;> (try simp only [decide_eq_true_eq, decide_eq_false_iff_not, Bool.not_eq_true', Bool.not_eq_false', Bool.not_true, Bool.not_false] at h) <;> first | (exfalso; omega) | (conv => whnf))
    | (refine And.intro ?_ ?_; (omega); (conv => whnf))
    | (refine Exists.intro _ (And.intro (And.intro rfl rfl) ?_); (conv => whnf))
    | (refine Exists.intro ?w (And.intro (Pl.den ?p) ?k); (case p => repeat constructor); (conv => whnf))
    | (refine Exists.intro _ (And.intro (by with_reducible rfl) ?_); (conv => whnf))
    | (refine Exists.intro _ (And.intro (cast_succ _) ?_); (conv => whnf))
    | (refine Exists.intro _ (And.intro (by assumption) ?_); (conv => whnf))
    | (refine Exists.intro _ (And.intro (Int.toNat_of_nonneg ?_).symm ?_); (omega); (conv => whnf))
    | (refine Exists.intro _ (And.intro rfl ?_); (conv => whnf))
    | (intro h; (try simp only [decide_eq_true_eq, decide_eq_false_iff_not, Bool.not_eq_true', Bool.not_eq_false', Bool.not_true, Bool.not_false] at h); first | (exfalso; omega) | (conv => whnf)))
  refine Tri.lend 0 (xs := [bv 97, bv 98]) (T := 5) (fun b => [.v (.slice (some ⟨b, 0, none⟩) 2 2)]) (List.mem_cons_self ..) (rowOf.cells fun _ => rfl) (fun _ => rfl) fun b => ?_
  refine Tri.use (tEncode (rowFact b [bv 97, bv 98] 5 :: fx) _ 2 [97, 98] (by simp) (by simp) (BytesAt.row (List.mem_cons_self ..) rfl)).one [] rfl (fun _ _ _ => rfl) trivial (fun f hf => hf) fun u hu => ?_
  conv => whnf
  refine And.intro rfl ?_
  conv => whnf
  repeat' (first
    | (refine And.intro (by first | exact trivial | exact And.intro rfl trivial | exact And.intro rfl (And.intro rfl trivial) | exact And.intro rfl (And.intro rfl (And.intro rfl trivial))) (And.intro (fun _ h => h) ?_); (conv => whnf))
    | (refine And.intro (fun h => ?_) (fun h => ?_) <;> (try simp only [decide_eq_true_eq, decide_eq_false_iff_not, Bool.not_eq_true', Bool.not_eq_false', Bool.not_true, Bool.not_false] at h) <;> first | (exfalso; omega) | (conv => whnf))
    | (refine And.intro ?_ ?_; (omega); (conv => whnf))
    | (refine Exists.intro _ (And.intro (And.intro rfl rfl) ?_); (conv => whnf))
    | (refine Exists.intro ?w (And.intro (Pl.den ?p) ?k); (case p => repeat constructor); (conv => whnf))
    | (refine Exists.intro _ (And.intro (by with_reducible rfl) ?_); (conv => whnf))
    | (refine Exists.intro _ (And.intro (cast_succ _) ?_); (conv => whnf))
    | (refine Exists.intro _ (And.intro (by assumption) ?_); (conv => whnf))
    | (refine Exists.intro _ (And.intro (Int.toNat_of_nonneg ?_).symm ?_); (omega); (conv => whnf))
    | (refine Exists.intro _ (And.intro rfl ?_); (conv => whnf))
    | (intro h; (try simp only [decide_eq_true_eq, decide_eq_false_iff_not, Bool.not_eq_true', Bool.not_eq_false', Bool.not_true, Bool.not_false] at h); first | (exfalso; omega) | (conv => whnf)))
  exact Ret.noneS rfl (fun _ _ => rfl) (fun _ h => nomatch h)
theorem enc_append : ∀ (a b : List UInt8), a.length % 3 = 0 → enc (a ++ b) = enc a ++ enc b
  | [], b, _ => by simp [enc]
  | [_], _, h => by simp at h
  | [_, _], _, h => by simp at h
  | x :: y :: z :: r, b, h => by
    simp only [List.length_cons] at h
    simp only [List.cons_append, enc]
    rw [enc_append r b (by omega)]
theorem tParts (fx : List Fact) (A B : Option Addr) (ca cb : Nat) (a b : List UInt8) (ha : a.length ≤ ca) (hb : b.length ≤ cb) (hA : BytesAt fx A a) (hB : BytesAt fx B b) :
    Tri Try.prog 3 [.v (.slice A a.length ca), .v (.slice B b.length cb)] [] 0 fx (Ret 0 (.b true) [] 0 []) := by
  refine Tri.of_code tok Try.func3 rfl rfl rfl (by decide) rfl (Nat.le_of_ble_eq_true rfl) ?_
  conv => whnf
  repeat' (first
    | (refine And.intro (by first | exact trivial | exact And.intro rfl trivial | exact And.intro rfl (And.intro rfl trivial) | exact And.intro rfl (And.intro rfl (And.intro rfl trivial))) (And.intro (fun _ h => h) ?_); (conv => whnf))
    | (refine And.intro (fun h => ?_) (fun h => ?_) <;> (try simp only [decide_eq_true_eq, decide_eq_false_iff_not, Bool.not_eq_true', Bool.not_eq_false', Bool.not_true, Bool.not_false] at h) <;> first | (exfalso; omega) | (conv => whnf))
    | (refine And.intro ?_ ?_; (omega); (conv => whnf))
    | (refine Exists.intro _ (And.intro (And.intro rfl rfl) ?_); (conv => whnf))
    | (refine Exists.intro ?w (And.intro (Pl.den ?p) ?k); (case p => repeat constructor); (conv => whnf))
    | (refine Exists.intro _ (And.intro (by with_reducible rfl) ?_); (conv => whnf))
    | (refine Exists.intro _ (And.intro (cast_succ _) ?_); (conv => whnf))
    | (refine Exists.intro _ (And.intro (by assumption) ?_); (conv => whnf))
    | (refine Exists.intro _ (And.intro (Int.toNat_of_nonneg ?_).symm ?_); (omega); (conv => whnf))
    | (refine Exists.intro _ (And.intro rfl ?_); (conv => whnf))
    | (intro h; (try simp only [decide_eq_true_eq, decide_eq_false_iff_not, Bool.not_eq_true', Bool.not_eq_false', Bool.not_true, Bool.not_false] at h); first | (exfalso; omega) | (conv => whnf)))
  refine Tri.use (tAwake fx).one [] rfl (args_ren rfl rfl) trivial (fun f hf => by first | exact hf | cases hf | simp_all) (fun u hu => ?_)
  conv => whnf
  repeat' (first
    | (refine And.intro (by first | exact trivial | exact And.intro rfl trivial | exact And.intro rfl (And.intro rfl trivial) | exact And.intro rfl (And.intro rfl (And.intro rfl trivial))) (And.intro (fun _ h => h) ?_); (conv => whnf))
    | (refine And.intro (fun h => ?_) (fun h => ?_) <;> (try simp only [decide_eq_true_eq, decide_eq_false_iff_not, Bool.not_eq_true', Bool.not_eq_false', Bool.not_true, Bool.not_false] at h) <;> first | (exfalso; omega) | (conv => whnf))
    | (refine And.intro ?_ ?_; (omega); (conv => whnf))
    | (refine Exists.intro _ (And.intro (And.intro rfl rfl) ?_); (conv => whnf))
    | (refine Exists.intro ?w (And.intro (Pl.den ?p) ?k); (case p => repeat constructor); (conv => whnf))
    | (refine Exists.intro _ (And.intro (by with_reducible rfl) ?_); (conv => whnf))
    | (refine Exists.intro _ (And.intro (cast_succ _) ?_); (conv => whnf))
    | (refine Exists.intro _ (And.intro (by assumption) ?_); (conv => whnf))
    | (refine Exists.intro _ (And.intro (Int.toNat_of_nonneg ?_).symm ?_); (omega); (conv => whnf))
    | (refine Exists.intro _ (And.intro rfl ?_); (conv => whnf))
    | (intro h; (try simp only [decide_eq_true_eq, decide_eq_false_iff_not, Bool.not_eq_true', Bool.not_eq_false', Bool.not_true, Bool.not_false] at h); first | (exfalso; omega) | (conv => whnf)))
  · refine Tri.use (tAwake fx).one [] rfl (args_ren rfl rfl) trivial (fun f hf => by first | exact hf | cases hf | simp_all) (fun u hu => ?_)
    conv => whnf
    repeat' (first
      | (refine And.intro (by first | exact trivial | exact And.intro rfl trivial | exact And.intro rfl (And.intro rfl trivial) | exact And.intro rfl (And.intro rfl (And.intro rfl trivial))) (And.intro (fun _ h => h) ?_); (conv => whnf))
      | (refine And.intro (fun h => ?_) (fun h => ?_) <;> (try simp only [decide_eq_true_eq, decide_eq_false_iff_not, Bool.not_eq_true', Bool.not_eq_false', Bool.not_true, Bool.not_false] at h) <;> first | (exfalso; omega) | (conv => whnf))
      | (refine And.intro ?_ ?_; (omega); (conv => whnf))
      | (refine Exists.intro _ (And.intro (And.intro rfl rfl) ?_); (conv => whnf))
      | (refine Exists.intro ?w (And.intro (Pl.den ?p) ?k); (case p => repeat constructor); (conv => whnf))
      | (refine Exists.intro _ (And.intro (by with_reducible rfl) ?_); (conv => whnf))
      | (refine Exists.intro _ (And.intro (cast_succ _) ?_); (conv => whnf))
      | (refine Exists.intro _ (And.intro (by assumption) ?_); (conv => whnf))
      | (refine Exists.intro _ (And.intro (Int.toNat_of_nonneg ?_).symm ?_); (omega); (conv => whnf))
      | (refine Exists.intro _ (And.intro rfl ?_); (conv => whnf))
      | (intro h; (try simp only [decide_eq_true_eq, decide_eq_false_iff_not, Bool.not_eq_true', Bool.not_eq_false', Bool.not_true, Bool.not_false] at h); first | (exfalso; omega) | (conv => whnf)))
    exact Ret.noneS rfl (fun _ _ => rfl) (fun _ h => nomatch h)
  · refine Tri.use (tAwake fx).one [] rfl (args_ren rfl rfl) trivial (fun f hf => by first | exact hf | cases hf | simp_all) (fun u hu => ?_)
    conv => whnf
    repeat' (first
      | (refine And.intro (by first | exact trivial | exact And.intro rfl trivial | exact And.intro rfl (And.intro rfl trivial) | exact And.intro rfl (And.intro rfl (And.intro rfl trivial))) (And.intro (fun _ h => h) ?_); (conv => whnf))
      | (refine And.intro (fun h => ?_) (fun h => ?_) <;> (try simp only [decide_eq_true_eq, decide_eq_false_iff_not, Bool.not_eq_true', Bool.not_eq_false', Bool.not_true, Bool.not_false] at h) <;> first | (exfalso; omega) | (conv => whnf))
      | (refine And.intro ?_ ?_; (omega); (conv => whnf))
      | (refine Exists.intro _ (And.intro (And.intro rfl rfl) ?_); (conv => whnf))
      | (refine Exists.intro ?w (And.intro (Pl.den ?p) ?k); (case p => repeat constructor); (conv => whnf))
      | (refine Exists.intro _ (And.intro (by with_reducible rfl) ?_); (conv => whnf))
      | (refine Exists.intro _ (And.intro (cast_succ _) ?_); (conv => whnf))
      | (refine Exists.intro _ (And.intro (by assumption) ?_); (conv => whnf))
      | (refine Exists.intro _ (And.intro (Int.toNat_of_nonneg ?_).symm ?_); (omega); (conv => whnf))
      | (refine Exists.intro _ (And.intro rfl ?_); (conv => whnf))
      | (intro h; (try simp only [decide_eq_true_eq, decide_eq_false_iff_not, Bool.not_eq_true', Bool.not_eq_false', Bool.not_true, Bool.not_false] at h); first | (exfalso; omega) | (conv => whnf)))
    exact Ret.noneS rfl (fun _ _ => rfl) (fun _ h => nomatch h)
  refine draw_rule tok (by kernel_rfl) [.any 1, .any 2, .any 3, .any 5, .any 8, .any 9, .any 10, .any 12, .one 0, .one 4, .one 6, .one 7, .one 11, .one 13, .any 14, .any 15, .any 16] [] [] (by kernel_rfl) rfl rfl trivial ?_
  conv => whnf
  repeat' (first
    | (refine And.intro (by first | exact trivial | exact And.intro rfl trivial | exact And.intro rfl (And.intro rfl trivial) | exact And.intro rfl (And.intro rfl (And.intro rfl trivial))) (And.intro (fun _ h => h) ?_); (conv => whnf))
    | (refine And.intro (fun h => ?_) (fun h => ?_) <;> (try simp only [decide_eq_true_eq, decide_eq_false_iff_not, Bool.not_eq_true', Bool.not_eq_false', Bool.not_true, Bool.not_false] at h) <;> first | (exfalso; omega) | (conv => whnf))
    | (refine And.intro ?_ ?_; (omega); (conv => whnf))
    | (refine Exists.intro _ (And.intro (And.intro rfl rfl) ?_); (conv => whnf))
    | (refine Exists.intro ?w (And.intro (Pl.den ?p) ?k); (case p => repeat constructor); (conv => whnf))
    | (refine Exists.intro _ (And.intro (by with_reducible rfl) ?_); (conv => whnf))
    | (refine Exists.intro _ (And.intro (cast_succ _) ?_); (conv => whnf))
    | (refine Exists.intro _ (And.intro (by assumption) ?_); (conv => whnf))
    | (refine Exists.intro _ (And.intro (Int.toNat_of_nonneg ?_).symm ?_); (omega); (conv => whnf))
    | (refine Exists.intro _ (And.intro rfl ?_); (conv => whnf))
    | (intro h; (try simp only [decide_eq_true_eq, decide_eq_false_iff_not, Bool.not_eq_true', Bool.not_eq_false', Bool.not_true, Bool.not_false] at h); first | (exfalso; omega) | (conv => whnf)))
  have hk : (((a.length : Int)) / 3 * 3).toNat = a.length / 3 * 3 := by omega
  have hone : ∀ (l : List UInt8), ∀ u ∈ l.map bv, u.oneCell' = true := by
    intro l u hu
    obtain ⟨c, _, rfl⟩ := List.mem_map.1 hu
    rfl
  rw [hk]
  refine ⟨(a.take (a.length / 3 * 3)).map bv, ⟨by simp; omega, (hA.take _).rowAt⟩, ?_⟩
  conv => whnf
  refine ⟨⟨by omega, by omega, rfl, hone _⟩, fun m sp hsp => ?_⟩
  conv => whnf
  repeat' (first
    | (refine And.intro (by first | exact trivial | exact And.intro rfl trivial | exact And.intro rfl (And.intro rfl trivial) | exact And.intro rfl (And.intro rfl (And.intro rfl trivial))) (And.intro (fun _ h => h) ?_); (conv => whnf))
    | (refine And.intro (fun h => ?_) (fun h => ?_) <;> (try simp only [decide_eq_true_eq, decide_eq_false_iff_not, Bool.not_eq_true', Bool.not_eq_false', Bool.not_true, Bool.not_false] at h) <;> first | (exfalso; omega) | (conv => whnf))
    | (refine And.intro ?_ ?_; (omega); (conv => whnf))
    | (refine Exists.intro _ (And.intro (And.intro rfl rfl) ?_); (conv => whnf))
    | (refine Exists.intro ?w (And.intro (Pl.den ?p) ?k); (case p => repeat constructor); (conv => whnf))
    | (refine Exists.intro _ (And.intro (by with_reducible rfl) ?_); (conv => whnf))
    | (refine Exists.intro _ (And.intro (cast_succ _) ?_); (conv => whnf))
    | (refine Exists.intro _ (And.intro (by assumption) ?_); (conv => whnf))
    | (refine Exists.intro _ (And.intro (Int.toNat_of_nonneg ?_).symm ?_); (omega); (conv => whnf))
    | (refine Exists.intro _ (And.intro rfl ?_); (conv => whnf))
    | (intro h; (try simp only [decide_eq_true_eq, decide_eq_false_iff_not, Bool.not_eq_true', Bool.not_eq_false', Bool.not_true, Bool.not_false] at h); first | (exfalso; omega) | (conv => whnf)))
  refine ⟨b.map bv, ⟨by simp, hB.rowAt⟩, ?_⟩
  conv => whnf
  refine ⟨⟨by omega, by omega, by simp; omega, hone _⟩, fun m' sp' hsp' => ?_⟩
  conv => whnf
  repeat' (first
    | (refine And.intro (by first | exact trivial | exact And.intro rfl trivial | exact And.intro rfl (And.intro rfl trivial) | exact And.intro rfl (And.intro rfl (And.intro rfl trivial))) (And.intro (fun _ h => h) ?_); (conv => whnf))
    | (refine And.intro (fun h => ?_) (fun h => ?_) <;> (try simp only [decide_eq_true_eq, decide_eq_false_iff_not, Bool.not_eq_true', Bool.not_eq_false', Bool.not_true, Bool.not_false] at h) <;> first | (exfalso; omega) | (conv => whnf))
    | (refine And.intro ?_ ?_; (omega); (conv => whnf))
    | (refine Exists.intro _ (And.intro (And.intro rfl rfl) ?_); (conv => whnf))
    | (refine Exists.intro ?w (And.intro (Pl.den ?p) ?k); (case p => repeat constructor); (conv => whnf))
    | (refine Exists.intro _ (And.intro (by with_reducible rfl) ?_); (conv => whnf))
    | (refine Exists.intro _ (And.intro (cast_succ _) ?_); (conv => whnf))
    | (refine Exists.intro _ (And.intro (by assumption) ?_); (conv => whnf))
    | (refine Exists.intro _ (And.intro (Int.toNat_of_nonneg ?_).symm ?_); (omega); (conv => whnf))
    | (refine Exists.intro _ (And.intro rfl ?_); (conv => whnf))
    | (intro h; (try simp only [decide_eq_true_eq, decide_eq_false_iff_not, Bool.not_eq_true', Bool.not_eq_false', Bool.not_true, Bool.not_false] at h); first | (exfalso; omega) | (conv => whnf)))
  generalize hkk : a.length / 3 * 3 = k at *
  have hka : (a.take k).length = k := by simp; omega
  have e1 : List.take ((0 + k) * 1) (List.take (0 * 1) [] ++ List.map bv (List.take k a) ++ sp) ++ List.map bv b ++ sp' = (a.take k ++ b).map bv ++ sp' := by
    rw [Nat.zero_add, Nat.mul_one, Nat.zero_mul, List.take_zero, List.nil_append, List.take_left' (by simpa using hka), List.map_append]
  have e2 : 0 + k + b.length = (a.take k ++ b).length := by rw [List.length_append, hka, Nat.zero_add]
  rw [e1, e2]
  refine Tri.lend 2 (xs := (a.take k ++ b).map bv ++ sp') (T := 5) (fun c => [.v (.slice (some ⟨c, 0, none⟩) (a.take k ++ b).length ((a.take k ++ b).length + m'))]) (List.mem_cons_self ..) rowOf.row (fun _ => rfl) fun c => ?_
  refine Tri.use (tEncode _ _ _ (a.take k ++ b) (by simp; omega) (by omega) (BytesAt.row (List.mem_cons_self ..) (by rw [List.drop_zero, List.take_left' (by simp)]))).one [] rfl (fun _ _ _ => rfl) trivial (fun f hf => hf) fun u hu => ?_
  conv => whnf
  refine And.intro rfl ?_
  conv => whnf
  repeat' (first
    | (refine And.intro (by first | exact trivial | exact And.intro rfl trivial | exact And.intro rfl (And.intro rfl trivial) | exact And.intro rfl (And.intro rfl (And.intro rfl trivial))) (And.intro (fun _ h => h) ?_); (conv => whnf))
    | (refine And.intro (fun h => ?_) (fun h => ?_) <;> (try simp only [decide_eq_true_eq, decide_eq_false_iff_not, Bool.not_eq_true', Bool.not_eq_false', Bool.not_true, Bool.not_false] at h) <;> first | (exfalso; omega) | (conv => whnf))
    | (refine And.intro ?_ ?_; (omega); (conv => whnf))
    | (refine Exists.intro _ (And.intro (And.intro rfl rfl) ?_); (conv => whnf))
    | (refine Exists.intro ?w (And.intro (Pl.den ?p) ?k); (case p => repeat constructor); (conv => whnf))
    | (refine Exists.intro _ (And.intro (by with_reducible rfl) ?_); (conv => whnf))
    | (refine Exists.intro _ (And.intro (cast_succ _) ?_); (conv => whnf))
    | (refine Exists.intro _ (And.intro (by assumption) ?_); (conv => whnf))
    | (refine Exists.intro _ (And.intro (Int.toNat_of_nonneg ?_).symm ?_); (omega); (conv => whnf))
    | (refine Exists.intro _ (And.intro rfl ?_); (conv => whnf))
    | (intro h; (try simp only [decide_eq_true_eq, decide_eq_false_iff_not, Bool.not_eq_true', Bool.not_eq_false', Bool.not_true, Bool.not_false] at h); first | (exfalso; omega) | (conv => whnf)))
  refine Tri.use (tEncode fx A ca (a.take k) (by simp; omega) (by omega) (hA.take k)).one [] rfl (fun _ _ _ => by rw [hka]; rfl) trivial (fun f hf => hf) fun u hu => ?_
  conv => whnf
  repeat' (first
    | (refine And.intro (by first | exact trivial | exact And.intro rfl trivial | exact And.intro rfl (And.intro rfl trivial) | exact And.intro rfl (And.intro rfl (And.intro rfl trivial))) (And.intro (fun _ h => h) ?_); (conv => whnf))
    | (refine And.intro (fun h => ?_) (fun h => ?_) <;> (try simp only [decide_eq_true_eq, decide_eq_false_iff_not, Bool.not_eq_true', Bool.not_eq_false', Bool.not_true, Bool.not_false] at h) <;> first | (exfalso; omega) | (conv => whnf))
    | (refine And.intro ?_ ?_; (omega); (conv => whnf))
    | (refine Exists.intro _ (And.intro (And.intro rfl rfl) ?_); (conv => whnf))
    | (refine Exists.intro ?w (And.intro (Pl.den ?p) ?k); (case p => repeat constructor); (conv => whnf))
    | (refine Exists.intro _ (And.intro (by with_reducible rfl) ?_); (conv => whnf))
    | (refine Exists.intro _ (And.intro (cast_succ _) ?_); (conv => whnf))
    | (refine Exists.intro _ (And.intro (by assumption) ?_); (conv => whnf))
    | (refine Exists.intro _ (And.intro (Int.toNat_of_nonneg ?_).symm ?_); (omega); (conv => whnf))
    | (refine Exists.intro _ (And.intro rfl ?_); (conv => whnf))
    | (intro h; (try simp only [decide_eq_true_eq, decide_eq_false_iff_not, Bool.not_eq_true', Bool.not_eq_false', Bool.not_true, Bool.not_false] at h); first | (exfalso; omega) | (conv => whnf)))
  refine Tri.use (tEncode fx B cb b (by omega) hb hB).one [] rfl (args_ren rfl rfl) trivial (fun f hf => by first | exact hf | cases hf | simp_all) (fun u hu => ?_)
  conv => whnf
  refine And.intro trivial (And.intro (fun _ h => h) ?_)
  conv => whnf
  have hen := enc_length (a.take k)
  have hen2 := enc_length b
  refine And.intro ?_ ?_
  · simp [ByteArray.size] ; omega
  conv => whnf
  repeat' (first
    | (refine And.intro (by first | exact trivial | exact And.intro rfl trivial | exact And.intro rfl (And.intro rfl trivial) | exact And.intro rfl (And.intro rfl (And.intro rfl trivial))) (And.intro (fun _ h => h) ?_); (conv => whnf))
    | (refine And.intro (fun h => ?_) (fun h => ?_) <;> (try simp only [decide_eq_true_eq, decide_eq_false_iff_not, Bool.not_eq_true', Bool.not_eq_false', Bool.not_true, Bool.not_false] at h) <;> first | (exfalso; omega) | (conv => whnf))
    | (refine And.intro ?_ ?_; (omega); (conv => whnf))
    | (refine Exists.intro _ (And.intro (And.intro rfl rfl) ?_); (conv => whnf))
    | (refine Exists.intro ?w (And.intro (Pl.den ?p) ?k); (case p => repeat constructor); (conv => whnf))
    | (refine Exists.intro _ (And.intro (by with_reducible rfl) ?_); (conv => whnf))
    | (refine Exists.intro _ (And.intro (cast_succ _) ?_); (conv => whnf))
    | (refine Exists.intro _ (And.intro (by assumption) ?_); (conv => whnf))
    | (refine Exists.intro _ (And.intro (Int.toNat_of_nonneg ?_).symm ?_); (omega); (conv => whnf))
    | (refine Exists.intro _ (And.intro rfl ?_); (conv => whnf))
    | (intro h; (try simp only [decide_eq_true_eq, decide_eq_false_iff_not, Bool.not_eq_true', Bool.not_eq_false', Bool.not_true, Bool.not_false] at h); first | (exfalso; omega) | (conv => whnf)))
  refine Ret.noneS rfl (fun _ _ => ?_) (fun _ h => nomatch h)
  simp only [den]
  rw [enc_append _ _ (by rw [hka]; omega)]
  simp
end Go.Proofs.Ytekgjjanikicnaa.Sx
