/- The law TextBack: what its code does. -/
import Derived.Test.YtekgjjanikicnaaTx9
namespace Go.Proofs.Ytekgjjanikicnaa.Sx
open Go
set_option maxRecDepth 100000
set_option linter.unusedSimpArgs false
set_option linter.unusedVariables false

theorem tBack (fx : List Fact) (A : Option Addr) (ca : Nat) (bs : List UInt8) (s : ByteArray) (hb : bs.length ≤ ca) (hB : BytesAt fx A bs) :
    Tri Try.prog 8 [.v (.slice A bs.length ca), .v (.string s)] [] 0 fx (Ret 0 (.b true) [] 0 []) := by
  refine Tri.of_code tok Try.func8 rfl rfl rfl (by decide) rfl (Nat.le_of_ble_eq_true rfl) ?_
  conv => whnf
  repeat' (first
    | (refine And.intro (by first | exact trivial | exact And.intro rfl trivial | exact And.intro rfl (And.intro rfl trivial) | exact And.intro rfl (And.intro rfl (And.intro rfl trivial))) (And.intro (fun _ h => h) ?_); (conv => whnf))
    | (refine And.intro (fun h => ?_) (fun h => ?_) <;> (try simp only [decide_eq_true_eq, decide_eq_false_iff_not, Bool.not_eq_true', Bool.not_eq_false', Bool.not_true, Bool.not_false] at h) <;> first | (exfalso; omega) | (conv => whnf))
    | (refine And.intro ?_ ?_; (omega); (conv => whnf))
    | (refine Exists.intro _ (And.intro (And.intro rfl rfl) ?_); (conv => whnf))
    | (refine Exists.intro ?w (And.intro (Pl.den ?p) ?k); (case p => repeat constructor); (conv => whnf))
    | (refine Exists.intro _ (And.intro (by with_reducible rfl) ?_); (conv => whnf))
    | (refine Exists.intro _ (And.intro (cast_succ _) ?_); (conv => whnf))
    | (refine Exists.intro _ (And.intro (by assumption) ?_); (conv => whnf))
    | (refine Exists.intro _ (And.intro (Int.toNat_of_nonneg ?_).symm ?_); (omega); (conv => whnf))
    | (refine Exists.intro _ (And.intro rfl ?_); (conv => whnf))
    | (intro h; (try simp only [decide_eq_true_eq, decide_eq_false_iff_not, Bool.not_eq_true', Bool.not_eq_false', Bool.not_true, Bool.not_false] at h); first | (exfalso; omega) | (conv => whnf)))
  refine Tri.use (tAwake fx).one [] rfl (args_ren rfl rfl) trivial (fun f hf => by first | exact hf | cases hf | simp_all) (fun u hu => ?_)
  conv => whnf
  repeat' (first
    | (refine And.intro (by first | exact trivial | exact And.intro rfl trivial | exact And.intro rfl (And.intro rfl trivial) | exact And.intro rfl (And.intro rfl (And.intro rfl trivial))) (And.intro (fun _ h => h) ?_); (conv => whnf))
    | (refine And.intro (fun h => ?_) (fun h => ?_) <;> (try simp only [decide_eq_true_eq, decide_eq_false_iff_not, Bool.not_eq_true', Bool.not_eq_false', Bool.not_true, Bool.not_false] at h) <;> first | (exfalso; omega) | (conv => whnf))
    | (refine And.intro ?_ ?_; (omega); (conv => whnf))
    | (refine Exists.intro _ (And.intro (And.intro rfl rfl) ?_); (conv => whnf))
    | (refine Exists.intro ?w (And.intro (Pl.den ?p) ?k); (case p => repeat constructor); (conv => whnf))
    | (refine Exists.intro _ (And.intro (by with_reducible rfl) ?_); (conv => whnf))
    | (refine Exists.intro _ (And.intro (cast_succ _) ?_); (conv => whnf))
    | (refine Exists.intro _ (And.intro (by assumption) ?_); (conv => whnf))
    | (refine Exists.intro _ (And.intro (Int.toNat_of_nonneg ?_).symm ?_); (omega); (conv => whnf))
    | (refine Exists.intro _ (And.intro rfl ?_); (conv => whnf))
    | (intro h; (try simp only [decide_eq_true_eq, decide_eq_false_iff_not, Bool.not_eq_true', Bool.not_eq_false', Bool.not_true, Bool.not_false] at h); first | (exfalso; omega) | (conv => whnf)))
  · refine Tri.use (tAwake fx).one [] rfl (args_ren rfl rfl) trivial (fun f hf => by first | exact hf | cases hf | simp_all) (fun u hu => ?_)
    conv => whnf
    repeat' (first
      | (refine And.intro (by first | exact trivial | exact And.intro rfl trivial | exact And.intro rfl (And.intro rfl trivial) | exact And.intro rfl (And.intro rfl (And.intro rfl trivial))) (And.intro (fun _ h => h) ?_); (conv => whnf))
      | (refine And.intro (fun h => ?_) (fun h => ?_) <;> (try simp only [decide_eq_true_eq, decide_eq_false_iff_not, Bool.not_eq_true', Bool.not_eq_false', Bool.not_true, Bool.not_false] at h) <;> first | (exfalso; omega) | (conv => whnf))
      | (refine And.intro ?_ ?_; (omega); (conv => whnf))
      | (refine Exists.intro _ (And.intro (And.intro rfl rfl) ?_); (conv => whnf))
      | (refine Exists.intro ?w (And.intro (Pl.den ?p) ?k); (case p => repeat constructor); (conv => whnf))
      | (refine Exists.intro _ (And.intro (by with_reducible rfl) ?_); (conv => whnf))
      | (refine Exists.intro _ (And.intro (cast_succ _) ?_); (conv => whnf))
      | (refine Exists.intro _ (And.intro (by assumption) ?_); (conv => whnf))
      | (refine Exists.intro _ (And.intro (Int.toNat_of_nonneg ?_).symm ?_); (omega); (conv => whnf))
      | (refine Exists.intro _ (And.intro rfl ?_); (conv => whnf))
      | (intro h; (try simp only [decide_eq_true_eq, decide_eq_false_iff_not, Bool.not_eq_true', Bool.not_eq_false', Bool.not_true, Bool.not_false] at h); first | (exfalso; omega) | (conv => whnf)))
    exact Ret.noneS rfl (fun _ _ => rfl) (fun _ h => nomatch h)
  · refine Tri.use (tAwake fx).one [] rfl (args_ren rfl rfl) trivial (fun f hf => by first | exact hf | cases hf | simp_all) (fun u hu => ?_)
    conv => whnf
    repeat' (first
      | (refine And.intro (by first | exact trivial | exact And.intro rfl trivial | exact And.intro rfl (And.intro rfl trivial) | exact And.intro rfl (And.intro rfl (And.intro rfl trivial))) (And.intro (fun _ h => h) ?_); (conv => whnf))
      | (refine And.intro (fun h => ?_) (fun h => ?_) <;> (try simp only [decide_eq_true_eq, decide_eq_false_iff_not, Bool.not_eq_true', Bool.not_eq_false', Bool.not_true, Bool.not_false] at h) <;> first | (exfalso; omega) | (conv => whnf))
      | (refine And.intro ?_ ?_; (omega); (conv => whnf))
      | (refine Exists.intro _ (And.intro (And.intro rfl rfl) ?_); (conv => whnf))
      | (refine Exists.intro ?w (And.intro (Pl.den ?p) ?k); (case p => repeat constructor); (conv => whnf))
      | (refine Exists.intro _ (And.intro (by with_reducible rfl) ?_); (conv => whnf))
      | (refine Exists.intro _ (And.intro (cast_succ _) ?_); (conv => whnf))
      | (refine Exists.intro _ (And.intro (by assumption) ?_); (conv => whnf))
      | (refine Exists.intro _ (And.intro (Int.toNat_of_nonneg ?_).symm ?_); (omega); (conv => whnf))
      | (refine Exists.intro _ (And.intro rfl ?_); (conv => whnf))
      | (intro h; (try simp only [decide_eq_true_eq, decide_eq_false_iff_not, Bool.not_eq_true', Bool.not_eq_false', Bool.not_true, Bool.not_false] at h); first | (exfalso; omega) | (conv => whnf)))
    exact Ret.noneS rfl (fun _ _ => rfl) (fun _ h => nomatch h)
  refine Tri.use (tEncode fx A ca bs (by omega) hb hB).one [] rfl (args_ren rfl rfl) trivial (fun f hf => by first | exact hf | cases hf | simp_all) (fun u hu => ?_)
  conv => whnf
  repeat' (first
    | (refine And.intro (by first | exact trivial | exact And.intro rfl trivial | exact And.intro rfl (And.intro rfl trivial) | exact And.intro rfl (And.intro rfl (And.intro rfl trivial))) (And.intro (fun _ h => h) ?_); (conv => whnf))
    | (refine And.intro (fun h => ?_) (fun h => ?_) <;> (try simp only [decide_eq_true_eq, decide_eq_false_iff_not, Bool.not_eq_true', Bool.not_eq_false', Bool.not_true, Bool.not_false] at h) <;> first | (exfalso; omega) | (conv => whnf))
    | (refine And.intro ?_ ?_; (omega); (conv => whnf))
    | (refine Exists.intro _ (And.intro (And.intro rfl rfl) ?_); (conv => whnf))
    | (refine Exists.intro ?w (And.intro (Pl.den ?p) ?k); (case p => repeat constructor); (conv => whnf))
    | (refine Exists.intro _ (And.intro (by with_reducible rfl) ?_); (conv => whnf))
    | (refine Exists.intro _ (And.intro (cast_succ _) ?_); (conv => whnf))
    | (refine Exists.intro _ (And.intro (by assumption) ?_); (conv => whnf))
    | (refine Exists.intro _ (And.intro (Int.toNat_of_nonneg ?_).symm ?_); (omega); (conv => whnf))
    | (refine Exists.intro _ (And.intro rfl ?_); (conv => whnf))
    | (intro h; (try simp only [decide_eq_true_eq, decide_eq_false_iff_not, Bool.not_eq_true', Bool.not_eq_false', Bool.not_true, Bool.not_false] at h); first | (exfalso; omega) | (conv => whnf)))
  have he := enc_length bs
  refine Tri.use (tDecode fx ⟨(enc bs).toArray⟩ (by rw [arr_size]; omega)) [] rfl (args_ren rfl rfl) trivial (fun f hf => by first | exact hf | cases hf | simp_all) (fun u hu => ?_)
  obtain ⟨xA, xb, xc, xok, xf⟩ := u
  have hx := hu
  have hxok : xok = true := by
    cases xok with
    | true => rfl
    | false => exact absurd rfl ((hx.no rfl).2 bs)
  subst hxok
  obtain rfl : bs = xb := enc_inj (hx.yes rfl)
  have hxB := hx.at_
  have hxc := hx.cap
  simp only at hxB hxc
  conv => whnf
  refine appFK_intro (a := xf) (b := fx) ?_
  have hB' : BytesAt (xf ++ fx) A bs := hB.mono (fun f hf => List.mem_append_right _ hf)
  have hxB' : BytesAt (xf ++ fx) xA bs := hxB.mono (fun f hf => List.mem_append_left _ hf)
  conv => whnf
  repeat' (first
    | (refine And.intro (by first | exact trivial | exact And.intro rfl trivial | exact And.intro rfl (And.intro rfl trivial) | exact And.intro rfl (And.intro rfl (And.intro rfl trivial))) (And.intro (fun _ h => h) ?_); (conv => whnf))
    | (refine And.intro (fun h => ?_) (fun h => ?_) <;> (try simp only [decide_eq_true_eq, decide_eq_false_iff_not, Bool.not_eq_true', Bool.not_eq_false', Bool.not_true, Bool.not_false] at h) <;> first | (exfalso; omega) | (conv => whnf))
    | (refine And.intro ?_ ?_; (omega); (conv => whnf))
    | (refine Exists.intro _ (And.intro (And.intro rfl rfl) ?_); (conv => whnf))
    | (refine Exists.intro ?w (And.intro (Pl.den ?p) ?k); (case p => repeat constructor); (conv => whnf))
    | (refine Exists.intro _ (And.intro (by with_reducible rfl) ?_); (conv => whnf))
    | (refine Exists.intro _ (And.intro (cast_succ _) ?_); (conv => whnf))
    | (refine Exists.intro _ (And.intro (by assumption) ?_); (conv => whnf))
    | (refine Exists.intro _ (And.intro (Int.toNat_of_nonneg ?_).symm ?_); (omega); (conv => whnf))
    | (refine Exists.intro _ (And.intro rfl ?_); (conv => whnf))
    | (intro h; (try simp only [decide_eq_true_eq, decide_eq_false_iff_not, Bool.not_eq_true', Bool.not_eq_false', Bool.not_true, Bool.not_false] at h); first | (exfalso; omega) | (conv => whnf)))
  refine Tri.use (tDecode (xf ++ fx) s (by omega)) [] rfl (args_ren rfl rfl) trivial (fun f hf => by first | exact hf | cases hf | simp_all) (fun u hu => ?_)
  obtain ⟨yA, yb, yc, yok, yf⟩ := u
  have hy := hu
  have hyB := hy.at_
  have hyc := hy.cap
  simp only at hyB hyc
  conv => whnf
  refine appFK_intro (a := yf) (b := xf ++ fx) ?_
  have hB2 : BytesAt (yf ++ (xf ++ fx)) A bs := hB'.mono (fun f hf => List.mem_append_right _ hf)
  have hxB2 : BytesAt (yf ++ (xf ++ fx)) xA bs := hxB'.mono (fun f hf => List.mem_append_right _ hf)
  have hyB2 : BytesAt (yf ++ (xf ++ fx)) yA yb := hyB.mono (fun f hf => List.mem_append_left _ hf)
  generalize yf ++ (xf ++ fx) = FX at hB2 hxB2 hyB2 ⊢
  cases yok with
  | false =>
    conv => whnf
    repeat' (first
      | (refine And.intro (by first | exact trivial | exact And.intro rfl trivial | exact And.intro rfl (And.intro rfl trivial) | exact And.intro rfl (And.intro rfl (And.intro rfl trivial))) (And.intro (fun _ h => h) ?_); (conv => whnf))
      | (refine And.intro (fun h => ?_) (fun h => ?_) <;> (try simp only [decide_eq_true_eq, decide_eq_false_iff_not, Bool.not_eq_true', Bool.not_eq_false', Bool.not_true, Bool.not_false] at h) <;> first | (exfalso; omega) | (conv => whnf))
      | (refine And.intro ?_ ?_; (omega); (conv => whnf))
      | (refine Exists.intro _ (And.intro (And.intro rfl rfl) ?_); (conv => whnf))
      | (refine Exists.intro ?w (And.intro (Pl.den ?p) ?k); (case p => repeat constructor); (conv => whnf))
      | (refine Exists.intro _ (And.intro (by with_reducible rfl) ?_); (conv => whnf))
      | (refine Exists.intro _ (And.intro (cast_succ _) ?_); (conv => whnf))
      | (refine Exists.intro _ (And.intro (by assumption) ?_); (conv => whnf))
      | (refine Exists.intro _ (And.intro (Int.toNat_of_nonneg ?_).symm ?_); (omega); (conv => whnf))
      | (refine Exists.intro _ (And.intro rfl ?_); (conv => whnf))
      | (intro h; (try simp only [decide_eq_true_eq, decide_eq_false_iff_not, Bool.not_eq_true', Bool.not_eq_false', Bool.not_true, Bool.not_false] at h); first | (exfalso; omega) | (conv => whnf)))
    refine Tri.use ((tSame FX xA A xc ca bs bs hxB2 hB2 (by omega)).one.reval (v' := .b true) (fun _ => by simp [den])) [] rfl (args_ren rfl rfl) trivial (fun f hf => by first | exact hf | cases hf | simp_all) (fun u hu => ?_)
    conv => whnf
    repeat' (first
      | (refine And.intro (by first | exact trivial | exact And.intro rfl trivial | exact And.intro rfl (And.intro rfl trivial) | exact And.intro rfl (And.intro rfl (And.intro rfl trivial))) (And.intro (fun _ h => h) ?_); (conv => whnf))
      | (refine And.intro (fun h => ?_) (fun h => ?_) <;> (try simp only [decide_eq_true_eq, decide_eq_false_iff_not, Bool.not_eq_true', Bool.not_eq_false', Bool.not_true, Bool.not_false] at h) <;> first | (exfalso; omega) | (conv => whnf))
      | (refine And.intro ?_ ?_; (omega); (conv => whnf))
      | (refine Exists.intro _ (And.intro (And.intro rfl rfl) ?_); (conv => whnf))
      | (refine Exists.intro ?w (And.intro (Pl.den ?p) ?k); (case p => repeat constructor); (conv => whnf))
      | (refine Exists.intro _ (And.intro (by with_reducible rfl) ?_); (conv => whnf))
      | (refine Exists.intro _ (And.intro (cast_succ _) ?_); (conv => whnf))
      | (refine Exists.intro _ (And.intro (by assumption) ?_); (conv => whnf))
      | (refine Exists.intro _ (And.intro (Int.toNat_of_nonneg ?_).symm ?_); (omega); (conv => whnf))
      | (refine Exists.intro _ (And.intro rfl ?_); (conv => whnf))
      | (intro h; (try simp only [decide_eq_true_eq, decide_eq_false_iff_not, Bool.not_eq_true', Bool.not_eq_false', Bool.not_true, Bool.not_false] at h); first | (exfalso; omega) | (conv => whnf)))
    refine Tri.use (tEncode FX A ca bs (by omega) hb hB2).one [] rfl (args_ren rfl rfl) trivial (fun f hf => by first | exact hf | cases hf | simp_all) (fun u hu => ?_)
    conv => whnf
    repeat' (first
      | (refine And.intro (by first | exact trivial | exact And.intro rfl trivial | exact And.intro rfl (And.intro rfl trivial) | exact And.intro rfl (And.intro rfl (And.intro rfl trivial))) (And.intro (fun _ h => h) ?_); (conv => whnf))
      | (refine And.intro (fun h => ?_) (fun h => ?_) <;> (try simp only [decide_eq_true_eq, decide_eq_false_iff_not, Bool.not_eq_true', Bool.not_eq_false', Bool.not_true, Bool.not_false] at h) <;> first | (exfalso; omega) | (conv => whnf))
      | (refine And.intro ?_ ?_; (omega); (conv => whnf))
      | (refine Exists.intro _ (And.intro (And.intro rfl rfl) ?_); (conv => whnf))
      | (refine Exists.intro ?w (And.intro (Pl.den ?p) ?k); (case p => repeat constructor); (conv => whnf))
      | (refine Exists.intro _ (And.intro (by with_reducible rfl) ?_); (conv => whnf))
      | (refine Exists.intro _ (And.intro (cast_succ _) ?_); (conv => whnf))
      | (refine Exists.intro _ (And.intro (by assumption) ?_); (conv => whnf))
      | (refine Exists.intro _ (And.intro (Int.toNat_of_nonneg ?_).symm ?_); (omega); (conv => whnf))
      | (refine Exists.intro _ (And.intro rfl ?_); (conv => whnf))
      | (intro h; (try simp only [decide_eq_true_eq, decide_eq_false_iff_not, Bool.not_eq_true', Bool.not_eq_false', Bool.not_true, Bool.not_false] at h); first | (exfalso; omega) | (conv => whnf)))
    refine Ret.noneS rfl (fun _ _ => ?_) (fun _ h => nomatch h)
    have : ((⟨(enc bs).toArray⟩ : ByteArray).size : Int) = ((bs.length : Int) + 2) / 3 * 4 := by rw [arr_size]; omega
    simp only [den, this, decide_true]
  | true =>
    conv => whnf
    repeat' (first
      | (refine And.intro (by first | exact trivial | exact And.intro rfl trivial | exact And.intro rfl (And.intro rfl trivial) | exact And.intro rfl (And.intro rfl (And.intro rfl trivial))) (And.intro (fun _ h => h) ?_); (conv => whnf))
      | (refine And.intro (fun h => ?_) (fun h => ?_) <;> (try simp only [decide_eq_true_eq, decide_eq_false_iff_not, Bool.not_eq_true', Bool.not_eq_false', Bool.not_true, Bool.not_false] at h) <;> first | (exfalso; omega) | (conv => whnf))
      | (refine And.intro ?_ ?_; (omega); (conv => whnf))
      | (refine Exists.intro _ (And.intro (And.intro rfl rfl) ?_); (conv => whnf))
      | (refine Exists.intro ?w (And.intro (Pl.den ?p) ?k); (case p => repeat constructor); (conv => whnf))
      | (refine Exists.intro _ (And.intro (by with_reducible rfl) ?_); (conv => whnf))
      | (refine Exists.intro _ (And.intro (cast_succ _) ?_); (conv => whnf))
      | (refine Exists.intro _ (And.intro (by assumption) ?_); (conv => whnf))
      | (refine Exists.intro _ (And.intro (Int.toNat_of_nonneg ?_).symm ?_); (omega); (conv => whnf))
      | (refine Exists.intro _ (And.intro rfl ?_); (conv => whnf))
      | (intro h; (try simp only [decide_eq_true_eq, decide_eq_false_iff_not, Bool.not_eq_true', Bool.not_eq_false', Bool.not_true, Bool.not_false] at h); first | (exfalso; omega) | (conv => whnf)))
    refine Tri.use ((tSame FX xA A xc ca bs bs hxB2 hB2 (by omega)).one.reval (v' := .b true) (fun _ => by simp [den])) [] rfl (args_ren rfl rfl) trivial (fun f hf => by first | exact hf | cases hf | simp_all) (fun u hu => ?_)
    conv => whnf
    repeat' (first
      | (refine And.intro (by first | exact trivial | exact And.intro rfl trivial | exact And.intro rfl (And.intro rfl trivial) | exact And.intro rfl (And.intro rfl (And.intro rfl trivial))) (And.intro (fun _ h => h) ?_); (conv => whnf))
      | (refine And.intro (fun h => ?_) (fun h => ?_) <;> (try simp only [decide_eq_true_eq, decide_eq_false_iff_not, Bool.not_eq_true', Bool.not_eq_false', Bool.not_true, Bool.not_false] at h) <;> first | (exfalso; omega) | (conv => whnf))
      | (refine And.intro ?_ ?_; (omega); (conv => whnf))
      | (refine Exists.intro _ (And.intro (And.intro rfl rfl) ?_); (conv => whnf))
      | (refine Exists.intro ?w (And.intro (Pl.den ?p) ?k); (case p => repeat constructor); (conv => whnf))
      | (refine Exists.intro _ (And.intro (by with_reducible rfl) ?_); (conv => whnf))
      | (refine Exists.intro _ (And.intro (cast_succ _) ?_); (conv => whnf))
      | (refine Exists.intro _ (And.intro (by assumption) ?_); (conv => whnf))
      | (refine Exists.intro _ (And.intro (Int.toNat_of_nonneg ?_).symm ?_); (omega); (conv => whnf))
      | (refine Exists.intro _ (And.intro rfl ?_); (conv => whnf))
      | (intro h; (try simp only [decide_eq_true_eq, decide_eq_false_iff_not, Bool.not_eq_true', Bool.not_eq_false', Bool.not_true, Bool.not_false] at h); first | (exfalso; omega) | (conv => whnf)))
    have hsy : s.data.toList = enc yb := hy.yes rfl
    have hyl := enc_length yb
    rw [← hsy, list_size] at hyl
    refine Tri.use (tEncode FX yA yc yb (by omega) hyc hyB2).one [] rfl (args_ren rfl rfl) trivial (fun f hf => by first | exact hf | cases hf | simp_all) (fun u hu => ?_)
    conv => whnf
    repeat' (first
      | (refine And.intro (by first | exact trivial | exact And.intro rfl trivial | exact And.intro rfl (And.intro rfl trivial) | exact And.intro rfl (And.intro rfl (And.intro rfl trivial))) (And.intro (fun _ h => h) ?_); (conv => whnf))
      | (refine And.intro (fun h => ?_) (fun h => ?_) <;> (try simp only [decide_eq_true_eq, decide_eq_false_iff_not, Bool.not_eq_true', Bool.not_eq_false', Bool.not_true, Bool.not_false] at h) <;> first | (exfalso; omega) | (conv => whnf))
      | (refine And.intro ?_ ?_; (omega); (conv => whnf))
      | (refine Exists.intro _ (And.intro (And.intro rfl rfl) ?_); (conv => whnf))
      | (refine Exists.intro ?w (And.intro (Pl.den ?p) ?k); (case p => repeat constructor); (conv => whnf))
      | (refine Exists.intro _ (And.intro (by with_reducible rfl) ?_); (conv => whnf))
      | (refine Exists.intro _ (And.intro (cast_succ _) ?_); (conv => whnf))
      | (refine Exists.intro _ (And.intro (by assumption) ?_); (conv => whnf))
      | (refine Exists.intro _ (And.intro (Int.toNat_of_nonneg ?_).symm ?_); (omega); (conv => whnf))
      | (refine Exists.intro _ (And.intro rfl ?_); (conv => whnf))
      | (intro h; (try simp only [decide_eq_true_eq, decide_eq_false_iff_not, Bool.not_eq_true', Bool.not_eq_false', Bool.not_true, Bool.not_false] at h); first | (exfalso; omega) | (conv => whnf)))
    · refine Tri.use (tEncode FX A ca bs (by omega) hb hB2).one [] rfl (args_ren rfl rfl) trivial (fun f hf => by first | exact hf | cases hf | simp_all) (fun u hu => ?_)
      conv => whnf
      repeat' (first
        | (refine And.intro (by first | exact trivial | exact And.intro rfl trivial | exact And.intro rfl (And.intro rfl trivial) | exact And.intro rfl (And.intro rfl (And.intro rfl trivial))) (And.intro (fun _ h => h) ?_); (conv => whnf))
        | (refine And.intro (fun h => ?_) (fun h => ?_) <;> (try simp only [decide_eq_true_eq, decide_eq_false_iff_not, Bool.not_eq_true', Bool.not_eq_false', Bool.not_true, Bool.not_false] at h) <;> first | (exfalso; omega) | (conv => whnf))
        | (refine And.intro ?_ ?_; (omega); (conv => whnf))
        | (refine Exists.intro _ (And.intro (And.intro rfl rfl) ?_); (conv => whnf))
        | (refine Exists.intro ?w (And.intro (Pl.den ?p) ?k); (case p => repeat constructor); (conv => whnf))
        | (refine Exists.intro _ (And.intro (by with_reducible rfl) ?_); (conv => whnf))
        | (refine Exists.intro _ (And.intro (cast_succ _) ?_); (conv => whnf))
        | (refine Exists.intro _ (And.intro (by assumption) ?_); (conv => whnf))
        | (refine Exists.intro _ (And.intro (Int.toNat_of_nonneg ?_).symm ?_); (omega); (conv => whnf))
        | (refine Exists.intro _ (And.intro rfl ?_); (conv => whnf))
        | (intro h; (try simp only [decide_eq_true_eq, decide_eq_false_iff_not, Bool.not_eq_true', Bool.not_eq_false', Bool.not_true, Bool.not_false] at h); first | (exfalso; omega) | (conv => whnf)))
      refine Ret.noneS rfl (fun _ _ => ?_) (fun _ h => nomatch h)
      have : ((⟨(enc bs).toArray⟩ : ByteArray).size : Int) = ((bs.length : Int) + 2) / 3 * 4 := by rw [arr_size]; omega
      simp only [den, this, decide_true]
    · rw [hsy] at h
      simp at h
end Go.Proofs.Ytekgjjanikicnaa.Sx
