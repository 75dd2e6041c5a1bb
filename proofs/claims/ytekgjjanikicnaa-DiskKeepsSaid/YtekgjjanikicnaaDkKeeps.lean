/- The law DiskKeeps: what its code does. -/
import Derived.Test.YtekgjjanikicnaaDk8
namespace Go.Proofs.Ytekgjjanikicnaa.Sx
open Go
set_option maxRecDepth 100000
set_option linter.unusedSimpArgs false
set_option linter.unusedVariables false

structure KeP (b : List UInt8) (N : Nat) (x : Nat × (Int → Option Sec) × (Int → Option Sec) × List UInt8) : Prop where
  k : x.1 ≤ b.length
  wl : x.2.2.2.length = 41
  dok : (DS.mk (List.replicate N zsec) x.2.1 (-1) false).Ok
  eok : (DS.mk (List.replicate N zsec) x.2.2.1 (-1) false).Ok
  same : ∀ i : Nat, i < N → ((x.2.1 (i : Int)).getD zsec)[63]? = x.2.2.2[i]?
theorem tDiskKeeps (fx : List Fact) (n v : Int) (A : Option Addr) (cap : Nat) (b : List UInt8) (hn : 0 ≤ n ∧ n < 256) (hv : 0 ≤ v ∧ v < 256) (hB : BytesAt fx A b) (hb : b.length ≤ cap ∧ cap ≤ maxLen) :
    Tri Try.prog 6 [.v (.int .u8 n), .v (.slice A b.length cap), .v (.int .u8 v)] [] 0 fx (Ret 0 (.b true) [] 0 []) := by
  obtain ⟨N, hN⟩ : ∃ N : Nat, 1 + n % 40 = N := ⟨(1 + n % 40).toNat, by omega⟩
  refine Tri.of_code tok Try.func6 rfl rfl rfl (by decide) rfl (Nat.le_of_ble_eq_true rfl) ?_
  conv => whnf
  repeat' (first
    | (refine And.intro (by first | exact trivial | exact And.intro rfl trivial | exact And.intro rfl (And.intro rfl trivial) | exact And.intro rfl (And.intro rfl (And.intro rfl trivial))) (And.intro (fun _ h => h) ?_); (conv => whnf))
    | (refine And.intro (fun h => ?_) (fun h => ?_) <;> (try simp only [decide_eq_true_eq, decide_eq_false_iff_not, Bool.not_eq_true', Bool.not_eq_false', Bool.not_true, Bool.not_false] at h) <;> first | (exfalso; omega) | (cases h; done) | (conv => whnf))
    | (refine And.intro ?_ ?_; (omega); (conv => whnf))
    | (refine Exists.intro _ (And.intro (And.intro rfl rfl) ?_); (conv => whnf))
    | (refine Exists.intro ?w (And.intro (Pl.den ?p) ?k); (case p => repeat constructor); (conv => whnf))
    | (refine Exists.intro _ (And.intro (by with_reducible rfl) ?_); (conv => whnf))
    | (refine Exists.intro _ (And.intro (cast_succ _) ?_); (conv => whnf))
    | (refine Exists.intro _ (And.intro (by assumption) ?_); (conv => whnf))
    | (refine Exists.intro _ (And.intro (Int.toNat_of_nonneg ?_).symm ?_); (omega); (conv => whnf))
    | (refine Exists.intro _ (And.intro rfl ?_); (conv => whnf))
    | (intro h; (try simp only [decide_eq_true_eq, decide_eq_false_iff_not, Bool.not_eq_true', Bool.not_eq_false', Bool.not_true, Bool.not_false] at h); first | (exfalso; omega) | (cases h; done) | (conv => whnf)))
  refine Tri.use (tDAwake fx).one [] rfl (args_ren rfl rfl) trivial (fun f hf => by first | exact hf | cases hf | simp_all) (fun u hu => ?_)
  conv => whnf
  repeat' (first
    | (refine And.intro (by first | exact trivial | exact And.intro rfl trivial | exact And.intro rfl (And.intro rfl trivial) | exact And.intro rfl (And.intro rfl (And.intro rfl trivial))) (And.intro (fun _ h => h) ?_); (conv => whnf))
    | (refine And.intro (fun h => ?_) (fun h => ?_) <;> (try simp only [decide_eq_true_eq, decide_eq_false_iff_not, Bool.not_eq_true', Bool.not_eq_false', Bool.not_true, Bool.not_false] at h) <;> first | (exfalso; omega) | (cases h; done) | (conv => whnf))
    | (refine And.intro ?_ ?_; (omega); (conv => whnf))
    | (refine Exists.intro _ (And.intro (And.intro rfl rfl) ?_); (conv => whnf))
    | (refine Exists.intro ?w (And.intro (Pl.den ?p) ?k); (case p => repeat constructor); (conv => whnf))
    | (refine Exists.intro _ (And.intro (by with_reducible rfl) ?_); (conv => whnf))
    | (refine Exists.intro _ (And.intro (cast_succ _) ?_); (conv => whnf))
    | (refine Exists.intro _ (And.intro (by assumption) ?_); (conv => whnf))
    | (refine Exists.intro _ (And.intro (Int.toNat_of_nonneg ?_).symm ?_); (omega); (conv => whnf))
    | (refine Exists.intro _ (And.intro rfl ?_); (conv => whnf))
    | (intro h; (try simp only [decide_eq_true_eq, decide_eq_false_iff_not, Bool.not_eq_true', Bool.not_eq_false', Bool.not_true, Bool.not_false] at h); first | (exfalso; omega) | (cases h; done) | (conv => whnf)))
  · refine Tri.use (tDAwake fx).one [] rfl (args_ren rfl rfl) trivial (fun f hf => by first | exact hf | cases hf | simp_all) (fun u hu => ?_)
    conv => whnf
    repeat' (first
      | (refine And.intro (by first | exact trivial | exact And.intro rfl trivial | exact And.intro rfl (And.intro rfl trivial) | exact And.intro rfl (And.intro rfl (And.intro rfl trivial))) (And.intro (fun _ h => h) ?_); (conv => whnf))
      | (refine And.intro (fun h => ?_) (fun h => ?_) <;> (try simp only [decide_eq_true_eq, decide_eq_false_iff_not, Bool.not_eq_true', Bool.not_eq_false', Bool.not_true, Bool.not_false] at h) <;> first | (exfalso; omega) | (cases h; done) | (conv => whnf))
      | (refine And.intro ?_ ?_; (omega); (conv => whnf))
      | (refine Exists.intro _ (And.intro (And.intro rfl rfl) ?_); (conv => whnf))
      | (refine Exists.intro ?w (And.intro (Pl.den ?p) ?k); (case p => repeat constructor); (conv => whnf))
      | (refine Exists.intro _ (And.intro (by with_reducible rfl) ?_); (conv => whnf))
      | (refine Exists.intro _ (And.intro (cast_succ _) ?_); (conv => whnf))
      | (refine Exists.intro _ (And.intro (by assumption) ?_); (conv => whnf))
      | (refine Exists.intro _ (And.intro (Int.toNat_of_nonneg ?_).symm ?_); (omega); (conv => whnf))
      | (refine Exists.intro _ (And.intro rfl ?_); (conv => whnf))
      | (intro h; (try simp only [decide_eq_true_eq, decide_eq_false_iff_not, Bool.not_eq_true', Bool.not_eq_false', Bool.not_true, Bool.not_false] at h); first | (exfalso; omega) | (cases h; done) | (conv => whnf)))
    exact Ret.noneS rfl (fun _ _ => rfl) (fun _ h => nomatch h)
  · rw [hN]
    refine Tri.use (tNew fx N (by omega)) [] rfl (args_ren rfl rfl) trivial (fun f hf => by first | exact hf | cases hf | simp_all) (fun u hu => ?_)
    conv => whnf
    repeat' (first
      | (refine And.intro (by first | exact trivial | exact And.intro rfl trivial | exact And.intro rfl (And.intro rfl trivial) | exact And.intro rfl (And.intro rfl (And.intro rfl trivial))) (And.intro (fun _ h => h) ?_); (conv => whnf))
      | (refine And.intro (fun h => ?_) (fun h => ?_) <;> (try simp only [decide_eq_true_eq, decide_eq_false_iff_not, Bool.not_eq_true', Bool.not_eq_false', Bool.not_true, Bool.not_false] at h) <;> first | (exfalso; omega) | (cases h; done) | (conv => whnf))
      | (refine And.intro ?_ ?_; (omega); (conv => whnf))
      | (refine Exists.intro _ (And.intro (And.intro rfl rfl) ?_); (conv => whnf))
      | (refine Exists.intro ?w (And.intro (Pl.den ?p) ?k); (case p => repeat constructor); (conv => whnf))
      | (refine Exists.intro _ (And.intro (by with_reducible rfl) ?_); (conv => whnf))
      | (refine Exists.intro _ (And.intro (cast_succ _) ?_); (conv => whnf))
      | (refine Exists.intro _ (And.intro (by assumption) ?_); (conv => whnf))
      | (refine Exists.intro _ (And.intro (Int.toNat_of_nonneg ?_).symm ?_); (omega); (conv => whnf))
      | (refine Exists.intro _ (And.intro rfl ?_); (conv => whnf))
      | (intro h; (try simp only [decide_eq_true_eq, decide_eq_false_iff_not, Bool.not_eq_true', Bool.not_eq_false', Bool.not_true, Bool.not_false] at h); first | (exfalso; omega) | (cases h; done) | (conv => whnf)))
    refine Tri.use (tNew fx N (by omega)) [] rfl (args_ren rfl rfl) trivial (fun f hf => by first | exact hf | cases hf | simp_all) (fun u hu => ?_)
    conv => whnf
    repeat' (first
      | (refine And.intro (by first | exact trivial | exact And.intro rfl trivial | exact And.intro rfl (And.intro rfl trivial) | exact And.intro rfl (And.intro rfl (And.intro rfl trivial))) (And.intro (fun _ h => h) ?_); (conv => whnf))
      | (refine And.intro (fun h => ?_) (fun h => ?_) <;> (try simp only [decide_eq_true_eq, decide_eq_false_iff_not, Bool.not_eq_true', Bool.not_eq_false', Bool.not_true, Bool.not_false] at h) <;> first | (exfalso; omega) | (cases h; done) | (conv => whnf))
      | (refine And.intro ?_ ?_; (omega); (conv => whnf))
      | (refine Exists.intro _ (And.intro (And.intro rfl rfl) ?_); (conv => whnf))
      | (refine Exists.intro ?w (And.intro (Pl.den ?p) ?k); (case p => repeat constructor); (conv => whnf))
      | (refine Exists.intro _ (And.intro (by with_reducible rfl) ?_); (conv => whnf))
      | (refine Exists.intro _ (And.intro (cast_succ _) ?_); (conv => whnf))
      | (refine Exists.intro _ (And.intro (by assumption) ?_); (conv => whnf))
      | (refine Exists.intro _ (And.intro (Int.toNat_of_nonneg ?_).symm ?_); (omega); (conv => whnf))
      | (refine Exists.intro _ (And.intro rfl ?_); (conv => whnf))
      | (intro h; (try simp only [decide_eq_true_eq, decide_eq_false_iff_not, Bool.not_eq_true', Bool.not_eq_false', Bool.not_true, Bool.not_false] at h); first | (exfalso; omega) | (cases h; done) | (conv => whnf)))
    refine loop_by tok (α := Nat × (Int → Option Sec) × (Int → Option Sec) × List UInt8) (fun x => match x with | (k, c, c', w) => ⟨[(1, .v (.slice A b.length cap)), (2, .v (.int .u8 v)), (7, .v (.int .i64 N)), (8, .p 0 0), (10, .p 1 0), (12, .s 2 0 N N), (13, .p 3 0), (14, .v (.int .i64 k))],
        [dsk 0 ⟨List.replicate N zsec, c, -1, false⟩, dsk 1 ⟨List.replicate N zsec, c', -1, false⟩, (2, .row (repRow [Value.bool false] N) 4), (3, .row (w.map bv) 33)], 4, fx⟩)
      (KeP b N) (fun x => b.length - x.1) (0, fun _ => none, fun _ => none, List.replicate 41 0) [0, 1, 2, 3] ⟨by simp only; omega, rfl, DS.new_ok (by omega), DS.new_ok (by omega), ?h0⟩ ⟨rfl, ⟨fun _ _ _ => rfl, fun _ _ _ => rfl, fun _ _ _ => rfl, SEq.ren rfl rfl, SEq.ren rfl rfl, SEq.ren rfl rfl, SEq.ren rfl rfl, fun _ _ _ => rfl, trivial⟩, ⟨OSub.ren rfl rfl, OSub.ren rfl rfl, OSub.ren rfl rfl, OSub.cells (fun _ => rfl), trivial⟩, fun f hf => hf⟩ ?_
    case h0 =>
      intro i hi
      have : i < 41 := by omega
      simp only [Option.getD_none, List.getElem?_replicate, if_pos this]
      rfl
    rintro ⟨k, c, c', w⟩ hx
    have hk := hx.k
    have hwl := hx.wl
    have hdok := hx.dok
    have heok := hx.eok
    simp only at hk hwl hdok heok
    conv => whnf
    repeat' (first
      | (refine And.intro (by first | exact trivial | exact And.intro rfl trivial | exact And.intro rfl (And.intro rfl trivial) | exact And.intro rfl (And.intro rfl (And.intro rfl trivial))) (And.intro (fun _ h => h) ?_); (conv => whnf))
      | (refine And.intro (fun h => ?_) (fun h => ?_) <;> (try simp only [decide_eq_true_eq, decide_eq_false_iff_not, Bool.not_eq_true', Bool.not_eq_false', Bool.not_true, Bool.not_false] at h) <;> first | (exfalso; omega) | (cases h; done) | (conv => whnf))
      | (refine And.intro ?_ ?_; (omega); (conv => whnf))
      | (refine Exists.intro _ (And.intro (And.intro rfl rfl) ?_); (conv => whnf))
      | (refine Exists.intro ?w (And.intro (Pl.den ?p) ?k); (case p => repeat constructor); (conv => whnf))
      | (refine Exists.intro _ (And.intro (by with_reducible rfl) ?_); (conv => whnf))
      | (refine Exists.intro _ (And.intro (cast_succ _) ?_); (conv => whnf))
      | (refine Exists.intro _ (And.intro (by assumption) ?_); (conv => whnf))
      | (refine Exists.intro _ (And.intro (Int.toNat_of_nonneg ?_).symm ?_); (omega); (conv => whnf))
      | (refine Exists.intro _ (And.intro rfl ?_); (conv => whnf))
      | (intro h; (try simp only [decide_eq_true_eq, decide_eq_false_iff_not, Bool.not_eq_true', Bool.not_eq_false', Bool.not_true, Bool.not_false] at h); first | (exfalso; omega) | (cases h; done) | (conv => whnf)))
    · obtain ⟨ad, rfl, hg⟩ := hB.get (i := k) (by omega)
      have hbk : b[k].toNat < 256 := b[k].toNat_lt
      conv => whnf
      repeat' (first
        | (refine And.intro (by first | exact trivial | exact And.intro rfl trivial | exact And.intro rfl (And.intro rfl trivial) | exact And.intro rfl (And.intro rfl (And.intro rfl trivial))) (And.intro (fun _ h => h) ?_); (conv => whnf))
        | (refine And.intro (fun h => ?_) (fun h => ?_) <;> (try simp only [decide_eq_true_eq, decide_eq_false_iff_not, Bool.not_eq_true', Bool.not_eq_false', Bool.not_true, Bool.not_false] at h) <;> first | (exfalso; omega) | (cases h; done) | (conv => whnf))
        | (refine And.intro ?_ ?_; (omega); (conv => whnf))
        | (refine Exists.intro _ (And.intro (And.intro rfl rfl) ?_); (conv => whnf))
        | (refine Exists.intro ?w (And.intro (Pl.den ?p) ?k); (case p => repeat constructor); (conv => whnf))
        | (refine Exists.intro _ (And.intro (by with_reducible rfl) ?_); (conv => whnf))
        | (refine Exists.intro _ (And.intro (cast_succ _) ?_); (conv => whnf))
        | (refine Exists.intro _ (And.intro (by assumption) ?_); (conv => whnf))
        | (refine Exists.intro _ (And.intro (Int.toNat_of_nonneg ?_).symm ?_); (omega); (conv => whnf))
        | (refine Exists.intro _ (And.intro rfl ?_); (conv => whnf))
        | (intro h; (try simp only [decide_eq_true_eq, decide_eq_false_iff_not, Bool.not_eq_true', Bool.not_eq_false', Bool.not_true, Bool.not_false] at h); first | (exfalso; omega) | (cases h; done) | (conv => whnf)))
      obtain ⟨w0, hw0⟩ := wrap_byte (v + IntKind.u8.wrap (k : Int))
      rw [hw0]
      refine And.intro (Nat.le_refl 64) ?_
      conv => whnf
      repeat' (first
        | (refine And.intro (by first | exact trivial | exact And.intro rfl trivial | exact And.intro rfl (And.intro rfl trivial) | exact And.intro rfl (And.intro rfl (And.intro rfl trivial))) (And.intro (fun _ h => h) ?_); (conv => whnf))
        | (refine And.intro (fun h => ?_) (fun h => ?_) <;> (try simp only [decide_eq_true_eq, decide_eq_false_iff_not, Bool.not_eq_true', Bool.not_eq_false', Bool.not_true, Bool.not_false] at h) <;> first | (exfalso; omega) | (cases h; done) | (conv => whnf))
        | (refine And.intro ?_ ?_; (omega); (conv => whnf))
        | (refine Exists.intro _ (And.intro (And.intro rfl rfl) ?_); (conv => whnf))
        | (refine Exists.intro ?w (And.intro (Pl.den ?p) ?k); (case p => repeat constructor); (conv => whnf))
        | (refine Exists.intro _ (And.intro (by with_reducible rfl) ?_); (conv => whnf))
        | (refine Exists.intro _ (And.intro (cast_succ _) ?_); (conv => whnf))
        | (refine Exists.intro _ (And.intro (by assumption) ?_); (conv => whnf))
        | (refine Exists.intro _ (And.intro (Int.toNat_of_nonneg ?_).symm ?_); (omega); (conv => whnf))
        | (refine Exists.intro _ (And.intro rfl ?_); (conv => whnf))
        | (intro h; (try simp only [decide_eq_true_eq, decide_eq_false_iff_not, Bool.not_eq_true', Bool.not_eq_false', Bool.not_true, Bool.not_false] at h); first | (exfalso; omega) | (cases h; done) | (conv => whnf)))
      obtain ⟨i, hi, hiN⟩ : ∃ i : Nat, (b[k].toNat : Int) % (N : Int) = (i : Int) ∧ i < N := ⟨b[k].toNat % N, by omega, Nat.mod_lt _ (by omega)⟩
      rw [hi, Int.toNat_natCast, hw0]
      refine And.intro (by omega) ?_
      conv => whnf
      repeat' (first
        | (refine And.intro (by first | exact trivial | exact And.intro rfl trivial | exact And.intro rfl (And.intro rfl trivial) | exact And.intro rfl (And.intro rfl (And.intro rfl trivial))) (And.intro (fun _ h => h) ?_); (conv => whnf))
        | (refine And.intro (fun h => ?_) (fun h => ?_) <;> (try simp only [decide_eq_true_eq, decide_eq_false_iff_not, Bool.not_eq_true', Bool.not_eq_false', Bool.not_true, Bool.not_false] at h) <;> first | (exfalso; omega) | (cases h; done) | (conv => whnf))
        | (refine And.intro ?_ ?_; (omega); (conv => whnf))
        | (refine Exists.intro _ (And.intro (And.intro rfl rfl) ?_); (conv => whnf))
        | (refine Exists.intro ?w (And.intro (Pl.den ?p) ?k); (case p => repeat constructor); (conv => whnf))
        | (refine Exists.intro _ (And.intro (by with_reducible rfl) ?_); (conv => whnf))
        | (refine Exists.intro _ (And.intro (cast_succ _) ?_); (conv => whnf))
        | (refine Exists.intro _ (And.intro (by assumption) ?_); (conv => whnf))
        | (refine Exists.intro _ (And.intro (Int.toNat_of_nonneg ?_).symm ?_); (omega); (conv => whnf))
        | (refine Exists.intro _ (And.intro rfl ?_); (conv => whnf))
        | (intro h; (try simp only [decide_eq_true_eq, decide_eq_false_iff_not, Bool.not_eq_true', Bool.not_eq_false', Bool.not_true, Bool.not_false] at h); first | (exfalso; omega) | (cases h; done) | (conv => whnf)))
      refine And.intro (by simp only [List.length_map, hwl, List.length_singleton]; omega) ?_
      conv => whnf
      repeat' (first
        | (refine And.intro (by first | exact trivial | exact And.intro rfl trivial | exact And.intro rfl (And.intro rfl trivial) | exact And.intro rfl (And.intro rfl (And.intro rfl trivial))) (And.intro (fun _ h => h) ?_); (conv => whnf))
        | (refine And.intro (fun h => ?_) (fun h => ?_) <;> (try simp only [decide_eq_true_eq, decide_eq_false_iff_not, Bool.not_eq_true', Bool.not_eq_false', Bool.not_true, Bool.not_false] at h) <;> first | (exfalso; omega) | (cases h; done) | (conv => whnf))
        | (refine And.intro ?_ ?_; (omega); (conv => whnf))
        | (refine Exists.intro _ (And.intro (And.intro rfl rfl) ?_); (conv => whnf))
        | (refine Exists.intro ?w (And.intro (Pl.den ?p) ?k); (case p => repeat constructor); (conv => whnf))
        | (refine Exists.intro _ (And.intro (by with_reducible rfl) ?_); (conv => whnf))
        | (refine Exists.intro _ (And.intro (cast_succ _) ?_); (conv => whnf))
        | (refine Exists.intro _ (And.intro (by assumption) ?_); (conv => whnf))
        | (refine Exists.intro _ (And.intro (Int.toNat_of_nonneg ?_).symm ?_); (omega); (conv => whnf))
        | (refine Exists.intro _ (And.intro rfl ?_); (conv => whnf))
        | (intro h; (try simp only [decide_eq_true_eq, decide_eq_false_iff_not, Bool.not_eq_true', Bool.not_eq_false', Bool.not_true, Bool.not_false] at h); first | (exfalso; omega) | (cases h; done) | (conv => whnf)))
      have hsl : (zsec.set 63 w0).length = 64 := rfl
      have hrow : (splice (repRow [Value.int IntKind.u8 0] 64) (0 + 63 * 1) [Value.int IntKind.u8 ↑w0.toNat]).take (zsec.set 63 w0).length = (zsec.set 63 w0).map bv := rfl
      have hiN' : 0 ≤ (i : Int) ∧ (i : Int) < ((List.replicate N zsec).length : Int) := by rw [List.length_replicate]; omega
      have t3 := tWriteRow fx _ hdok i (zsec.set 63 w0) _ 64 hrow
      have ok3 := hdok.write i (zsec.set 63 w0)
      rw [write_open hiN' hsl] at t3 ok3
      have t4 := tWriteRow fx _ heok i (zsec.set 63 w0) _ 64 hrow
      have ok4 := heok.write i (zsec.set 63 w0)
      rw [write_open hiN' hsl] at t4 ok4
      simp only at t3 ok3 t4 ok4
      refine Tri.use t3 [0,4] rfl (args_ren rfl rfl) ⟨OSub.ren rfl rfl, OSub.ren rfl rfl, trivial⟩ (fun f hf => by first | exact hf | cases hf | simp_all) (fun u hu => ?_)
      conv => whnf
      repeat' (first
        | (refine And.intro (by first | exact trivial | exact And.intro rfl trivial | exact And.intro rfl (And.intro rfl trivial) | exact And.intro rfl (And.intro rfl (And.intro rfl trivial))) (And.intro (fun _ h => h) ?_); (conv => whnf))
        | (refine And.intro (fun h => ?_) (fun h => ?_) <;> (try simp only [decide_eq_true_eq, decide_eq_false_iff_not, Bool.not_eq_true', Bool.not_eq_false', Bool.not_true, Bool.not_false] at h) <;> first | (exfalso; omega) | (cases h; done) | (conv => whnf))
        | (refine And.intro ?_ ?_; (omega); (conv => whnf))
        | (refine Exists.intro _ (And.intro (And.intro rfl rfl) ?_); (conv => whnf))
        | (refine Exists.intro ?w (And.intro (Pl.den ?p) ?k); (case p => repeat constructor); (conv => whnf))
        | (refine Exists.intro _ (And.intro (by with_reducible rfl) ?_); (conv => whnf))
        | (refine Exists.intro _ (And.intro (cast_succ _) ?_); (conv => whnf))
        | (refine Exists.intro _ (And.intro (by assumption) ?_); (conv => whnf))
        | (refine Exists.intro _ (And.intro (Int.toNat_of_nonneg ?_).symm ?_); (omega); (conv => whnf))
        | (refine Exists.intro _ (And.intro rfl ?_); (conv => whnf))
        | (intro h; (try simp only [decide_eq_true_eq, decide_eq_false_iff_not, Bool.not_eq_true', Bool.not_eq_false', Bool.not_true, Bool.not_false] at h); first | (exfalso; omega) | (cases h; done) | (conv => whnf)))
      refine Tri.use t4 [1,4] rfl (args_ren rfl rfl) ⟨OSub.ren rfl rfl, OSub.ren rfl rfl, trivial⟩ (fun f hf => by first | exact hf | cases hf | simp_all) (fun u hu => ?_)
      conv => whnf
      repeat' (first
        | (refine And.intro (by first | exact trivial | exact And.intro rfl trivial | exact And.intro rfl (And.intro rfl trivial) | exact And.intro rfl (And.intro rfl (And.intro rfl trivial))) (And.intro (fun _ h => h) ?_); (conv => whnf))
        | (refine And.intro (fun h => ?_) (fun h => ?_) <;> (try simp only [decide_eq_true_eq, decide_eq_false_iff_not, Bool.not_eq_true', Bool.not_eq_false', Bool.not_true, Bool.not_false] at h) <;> first | (exfalso; omega) | (cases h; done) | (conv => whnf))
        | (refine And.intro ?_ ?_; (omega); (conv => whnf))
        | (refine Exists.intro _ (And.intro (And.intro rfl rfl) ?_); (conv => whnf))
        | (refine Exists.intro ?w (And.intro (Pl.den ?p) ?k); (case p => repeat constructor); (conv => whnf))
        | (refine Exists.intro _ (And.intro (by with_reducible rfl) ?_); (conv => whnf))
        | (refine Exists.intro _ (And.intro (cast_succ _) ?_); (conv => whnf))
        | (refine Exists.intro _ (And.intro (by assumption) ?_); (conv => whnf))
        | (refine Exists.intro _ (And.intro (Int.toNat_of_nonneg ?_).symm ?_); (omega); (conv => whnf))
        | (refine Exists.intro _ (And.intro rfl ?_); (conv => whnf))
        | (intro h; (try simp only [decide_eq_true_eq, decide_eq_false_iff_not, Bool.not_eq_true', Bool.not_eq_false', Bool.not_true, Bool.not_false] at h); first | (exfalso; omega) | (cases h; done) | (conv => whnf)))
      refine ⟨(k + 1, fun j => if j = (i : Int) then some (zsec.set 63 w0) else c j, fun j => if j = (i : Int) then some (zsec.set 63 w0) else c' j, w.set i w0), [0, 1, 2, 3], ⟨⟨by simp only; omega, by simp only [List.length_set]; exact hwl, ok3, ok4, ?_⟩, by simp only; omega⟩, rfl, ⟨fun _ _ _ => rfl, fun _ _ _ => rfl, fun _ _ _ => rfl, SEq.ren rfl rfl, SEq.ren rfl rfl, SEq.ren rfl rfl, SEq.ren rfl rfl, SEq.eq rfl, trivial⟩, ⟨OSub.ren rfl rfl, OSub.ren rfl rfl, OSub.ren rfl rfl, OSub.ren rfl ?_, trivial⟩, fun f hf => hf⟩
      · intro j hj
        have hs := hx.same j hj
        simp only at hs ⊢
        by_cases hij : j = i
        · subst hij
          rw [if_pos rfl, List.getElem?_set_self (by omega)]
          rfl
        · rw [if_neg (by omega), List.getElem?_set_ne (by omega)]
          exact hs
      · simp only [renO]
        rw [Nat.mul_one, Nat.zero_add, splice_set (by simp only [List.length_map]; omega), List.map_set]
        rfl
    · refine loop_by tok (α := Nat) (fun j => ⟨[(7, .v (.int .i64 N)), (8, .p 0 0), (10, .p 1 0), (12, .s 2 0 N N), (13, .p 3 0), (17, .v (.int .i64 j))],
        [dsk 0 ⟨List.replicate N zsec, c, -1, false⟩, dsk 1 ⟨List.replicate N zsec, c', -1, false⟩, (2, .row (List.replicate j (Value.bool true) ++ List.replicate (N - j) (Value.bool false)) 4), (3, .row (w.map bv) 33)], 4, fx⟩)
        (fun j => j ≤ N) (fun j => N - j) 0 [0, 1, 2, 3] (Nat.zero_le _) ⟨rfl, ⟨fun _ _ _ => rfl, SEq.ren rfl rfl, SEq.ren rfl rfl, SEq.ren rfl rfl, SEq.ren rfl rfl, fun _ _ _ => rfl, trivial⟩, ⟨OSub.ren rfl rfl, OSub.ren rfl rfl, OSub.ren rfl rfl, OSub.ren rfl rfl, trivial⟩, fun f hf => hf⟩ ?_
      intro j hj
      conv => whnf
      repeat' (first
        | (refine And.intro (by first | exact trivial | exact And.intro rfl trivial | exact And.intro rfl (And.intro rfl trivial) | exact And.intro rfl (And.intro rfl (And.intro rfl trivial))) (And.intro (fun _ h => h) ?_); (conv => whnf))
        | (refine And.intro (fun h => ?_) (fun h => ?_) <;> (try simp only [decide_eq_true_eq, decide_eq_false_iff_not, Bool.not_eq_true', Bool.not_eq_false', Bool.not_true, Bool.not_false] at h) <;> first | (exfalso; omega) | (cases h; done) | (conv => whnf))
        | (refine And.intro ?_ ?_; (omega); (conv => whnf))
        | (refine Exists.intro _ (And.intro (And.intro rfl rfl) ?_); (conv => whnf))
        | (refine Exists.intro ?w (And.intro (Pl.den ?p) ?k); (case p => repeat constructor); (conv => whnf))
        | (refine Exists.intro _ (And.intro (by with_reducible rfl) ?_); (conv => whnf))
        | (refine Exists.intro _ (And.intro (cast_succ _) ?_); (conv => whnf))
        | (refine Exists.intro _ (And.intro (by assumption) ?_); (conv => whnf))
        | (refine Exists.intro _ (And.intro (Int.toNat_of_nonneg ?_).symm ?_); (omega); (conv => whnf))
        | (refine Exists.intro _ (And.intro rfl ?_); (conv => whnf))
        | (intro h; (try simp only [decide_eq_true_eq, decide_eq_false_iff_not, Bool.not_eq_true', Bool.not_eq_false', Bool.not_true, Bool.not_false] at h); first | (exfalso; omega) | (cases h; done) | (conv => whnf)))
      · refine And.intro (by simp; omega) ?_
        conv => whnf
        repeat' (first
          | (refine And.intro (by first | exact trivial | exact And.intro rfl trivial | exact And.intro rfl (And.intro rfl trivial) | exact And.intro rfl (And.intro rfl (And.intro rfl trivial))) (And.intro (fun _ h => h) ?_); (conv => whnf))
          | (refine And.intro (fun h => ?_) (fun h => ?_) <;> (try simp only [decide_eq_true_eq, decide_eq_false_iff_not, Bool.not_eq_true', Bool.not_eq_false', Bool.not_true, Bool.not_false] at h) <;> first | (exfalso; omega) | (cases h; done) | (conv => whnf))
          | (refine And.intro ?_ ?_; (omega); (conv => whnf))
          | (refine Exists.intro _ (And.intro (And.intro rfl rfl) ?_); (conv => whnf))
          | (refine Exists.intro ?w (And.intro (Pl.den ?p) ?k); (case p => repeat constructor); (conv => whnf))
          | (refine Exists.intro _ (And.intro (by with_reducible rfl) ?_); (conv => whnf))
          | (refine Exists.intro _ (And.intro (cast_succ _) ?_); (conv => whnf))
          | (refine Exists.intro _ (And.intro (by assumption) ?_); (conv => whnf))
          | (refine Exists.intro _ (And.intro (Int.toNat_of_nonneg ?_).symm ?_); (omega); (conv => whnf))
          | (refine Exists.intro _ (And.intro rfl ?_); (conv => whnf))
          | (intro h; (try simp only [decide_eq_true_eq, decide_eq_false_iff_not, Bool.not_eq_true', Bool.not_eq_false', Bool.not_true, Bool.not_false] at h); first | (exfalso; omega) | (cases h; done) | (conv => whnf)))
        refine ⟨j + 1, [0, 1, 2, 3], ⟨by omega, by omega⟩, rfl, ⟨fun _ _ _ => rfl, SEq.ren rfl rfl, SEq.ren rfl rfl, SEq.ren rfl rfl, SEq.ren rfl rfl, SEq.eq rfl, trivial⟩, ⟨OSub.ren rfl rfl, OSub.ren rfl rfl, OSub.ren rfl ?_, OSub.ren rfl rfl, trivial⟩, fun f hf => hf⟩
        simp only [renO]
        rw [Nat.mul_one, Nat.zero_add, fill_step _ _ (by omega)]
      · obtain rfl : j = N := by omega
        have hk0 : (List.replicate j (Value.bool true) ++ List.replicate (j - j) (Value.bool false)) = (List.replicate j true).map Value.bool := by simp
        rw [hk0]
        have hkl : (List.replicate j true).length = j := List.length_replicate
        have t5 := tCrashRow fx _ hdok j (List.replicate j true) (-1) 0 (by rw [hkl]; omega) (by omega)
        have ok5 := hdok.crash (List.replicate j true) (-1) 0
        have e5 : DS.crash ⟨List.replicate j zsec, c, -1, false⟩ (List.replicate j true) (-1) 0 = ⟨laid (List.replicate j zsec) c, fun _ => none, -1, false⟩ := by
          simp only [DS.crash]
          rw [crash_all0 _ (by simp)]
        rw [e5] at t5 ok5
        rw [hkl] at t5
        refine Tri.use t5 [0, 2] rfl (fun ρ ρ'' ha => by have h0 := ha 0 (by decide); have h1 := ha 1 (by decide); simp only [sg, List.getD_cons_zero, List.getD_cons_succ] at h0 h1; simp only [denL_cons, denL_nil, den, h0, h1]) ⟨OSub.ren rfl rfl, OSub.ren rfl rfl, trivial⟩ (fun f hf => hf) fun u hu => ?_
        conv => whnf
        repeat' (first
          | (refine And.intro (by first | exact trivial | exact And.intro rfl trivial | exact And.intro rfl (And.intro rfl trivial) | exact And.intro rfl (And.intro rfl (And.intro rfl trivial))) (And.intro (fun _ h => h) ?_); (conv => whnf))
          | (refine And.intro (fun h => ?_) (fun h => ?_) <;> (try simp only [decide_eq_true_eq, decide_eq_false_iff_not, Bool.not_eq_true', Bool.not_eq_false', Bool.not_true, Bool.not_false] at h) <;> first | (exfalso; omega) | (cases h; done) | (conv => whnf))
          | (refine And.intro ?_ ?_; (omega); (conv => whnf))
          | (refine Exists.intro _ (And.intro (And.intro rfl rfl) ?_); (conv => whnf))
          | (refine Exists.intro ?w (And.intro (Pl.den ?p) ?k); (case p => repeat constructor); (conv => whnf))
          | (refine Exists.intro _ (And.intro (by with_reducible rfl) ?_); (conv => whnf))
          | (refine Exists.intro _ (And.intro (cast_succ _) ?_); (conv => whnf))
          | (refine Exists.intro _ (And.intro (by assumption) ?_); (conv => whnf))
          | (refine Exists.intro _ (And.intro (Int.toNat_of_nonneg ?_).symm ?_); (omega); (conv => whnf))
          | (refine Exists.intro _ (And.intro rfl ?_); (conv => whnf))
          | (intro h; (try simp only [decide_eq_true_eq, decide_eq_false_iff_not, Bool.not_eq_true', Bool.not_eq_false', Bool.not_true, Bool.not_false] at h); first | (exfalso; omega) | (cases h; done) | (conv => whnf)))
        have t6 := tCrash fx _ heok none 0 [] (-1) 0 ⟨fun _ => rfl, fun ad e => by cases e⟩ (by simp) (by omega)
        have e6 : DS.crash ⟨List.replicate j zsec, c', -1, false⟩ [] (-1) 0 = ⟨List.replicate j zsec, fun _ => none, -1, false⟩ := by
          simp only [DS.crash]
          rw [crash_none]
        have ok6 := heok.crash [] (-1) 0
        rw [e6] at t6 ok6
        refine Tri.use t6 [1] rfl (args_cons (SEq.ren rfl rfl) fun _ _ _ => rfl) ⟨OSub.ren rfl rfl, trivial⟩ (fun f hf => hf) fun u hu => ?_
        conv => whnf
        repeat' (first
          | (refine And.intro (by first | exact trivial | exact And.intro rfl trivial | exact And.intro rfl (And.intro rfl trivial) | exact And.intro rfl (And.intro rfl (And.intro rfl trivial))) (And.intro (fun _ h => h) ?_); (conv => whnf))
          | (refine And.intro (fun h => ?_) (fun h => ?_) <;> (try simp only [decide_eq_true_eq, decide_eq_false_iff_not, Bool.not_eq_true', Bool.not_eq_false', Bool.not_true, Bool.not_false] at h) <;> first | (exfalso; omega) | (cases h; done) | (conv => whnf))
          | (refine And.intro ?_ ?_; (omega); (conv => whnf))
          | (refine Exists.intro _ (And.intro (And.intro rfl rfl) ?_); (conv => whnf))
          | (refine Exists.intro ?w (And.intro (Pl.den ?p) ?k); (case p => repeat constructor); (conv => whnf))
          | (refine Exists.intro _ (And.intro (by with_reducible rfl) ?_); (conv => whnf))
          | (refine Exists.intro _ (And.intro (cast_succ _) ?_); (conv => whnf))
          | (refine Exists.intro _ (And.intro (by assumption) ?_); (conv => whnf))
          | (refine Exists.intro _ (And.intro (Int.toNat_of_nonneg ?_).symm ?_); (omega); (conv => whnf))
          | (refine Exists.intro _ (And.intro rfl ?_); (conv => whnf))
          | (intro h; (try simp only [decide_eq_true_eq, decide_eq_false_iff_not, Bool.not_eq_true', Bool.not_eq_false', Bool.not_true, Bool.not_false] at h); first | (exfalso; omega) | (cases h; done) | (conv => whnf)))
        refine loop_by tok (α := Nat) (fun i => ⟨[(7, .v (.int .i64 j)), (8, .p 0 0), (10, .p 1 0), (13, .p 2 0), (18, .v (.int .i64 i))],
          [dsk 0 ⟨laid (List.replicate j zsec) c, fun _ => none, -1, false⟩, dsk 1 ⟨List.replicate j zsec, fun _ => none, -1, false⟩, (2, .row (w.map bv) 33)], 3, fx⟩)
          (fun i => i ≤ j) (fun i => j - i) 0 [0, 1, 3] (Nat.zero_le _) ⟨rfl, ⟨fun _ _ _ => rfl, SEq.ren rfl rfl, SEq.ren rfl rfl, SEq.ren rfl rfl, fun _ _ _ => rfl, trivial⟩, ⟨OSub.ren rfl rfl, OSub.ren rfl rfl, OSub.ren rfl rfl, trivial⟩, fun f hf => hf⟩ ?_
        intro i hi
        conv => whnf
        repeat' (first
          | (refine And.intro (by first | exact trivial | exact And.intro rfl trivial | exact And.intro rfl (And.intro rfl trivial) | exact And.intro rfl (And.intro rfl (And.intro rfl trivial))) (And.intro (fun _ h => h) ?_); (conv => whnf))
          | (refine And.intro (fun h => ?_) (fun h => ?_) <;> (try simp only [decide_eq_true_eq, decide_eq_false_iff_not, Bool.not_eq_true', Bool.not_eq_false', Bool.not_true, Bool.not_false] at h) <;> first | (exfalso; omega) | (cases h; done) | (conv => whnf))
          | (refine And.intro ?_ ?_; (omega); (conv => whnf))
          | (refine Exists.intro _ (And.intro (And.intro rfl rfl) ?_); (conv => whnf))
          | (refine Exists.intro ?w (And.intro (Pl.den ?p) ?k); (case p => repeat constructor); (conv => whnf))
          | (refine Exists.intro _ (And.intro (by with_reducible rfl) ?_); (conv => whnf))
          | (refine Exists.intro _ (And.intro (cast_succ _) ?_); (conv => whnf))
          | (refine Exists.intro _ (And.intro (by assumption) ?_); (conv => whnf))
          | (refine Exists.intro _ (And.intro (Int.toNat_of_nonneg ?_).symm ?_); (omega); (conv => whnf))
          | (refine Exists.intro _ (And.intro rfl ?_); (conv => whnf))
          | (intro h; (try simp only [decide_eq_true_eq, decide_eq_false_iff_not, Bool.not_eq_true', Bool.not_eq_false', Bool.not_true, Bool.not_false] at h); first | (exfalso; omega) | (cases h; done) | (conv => whnf)))
        · have hij : i < j := by omega
          have t7 := tReadF fx _ ok5 rfl i (by rw [laid_length, List.length_replicate]; exact hij)
          have g7 : DS.get ⟨laid (List.replicate j zsec) c, fun _ => none, -1, false⟩ i = (c i).getD zsec := by
            simp only [DS.get, Option.getD_none, List.getD_eq_getElem?_getD, laid_get, List.getElem?_replicate, if_pos hij, Option.map_some, Option.getD_some]
          rw [g7] at t7
          have hs := hx.same i hij
          simp only at hs
          generalize hs1 : (c i).getD zsec = s1 at t7 hs
          have hs64 : s1.length = 64 := by
            rw [← hs1]
            cases hc : c i with
            | none => rfl
            | some t => exact (hdok.cac _ _ hc).2
          rw [List.getElem?_eq_getElem (show i < w.length by omega)] at hs
          refine Tri.use t7 [0] rfl (args_ren rfl rfl) ⟨OSub.ren rfl rfl, trivial⟩ (fun f hf => by first | exact hf | cases hf | simp_all) (fun u hu => ?_)
          obtain ⟨b1, sp1⟩ := u
          conv => whnf
          repeat' (first
            | (refine And.intro (by first | exact trivial | exact And.intro rfl trivial | exact And.intro rfl (And.intro rfl trivial) | exact And.intro rfl (And.intro rfl (And.intro rfl trivial))) (And.intro (fun _ h => h) ?_); (conv => whnf))
            | (refine And.intro (fun h => ?_) (fun h => ?_) <;> (try simp only [decide_eq_true_eq, decide_eq_false_iff_not, Bool.not_eq_true', Bool.not_eq_false', Bool.not_true, Bool.not_false] at h) <;> first | (exfalso; omega) | (cases h; done) | (conv => whnf))
            | (refine And.intro ?_ ?_; (omega); (conv => whnf))
            | (refine Exists.intro _ (And.intro (And.intro rfl rfl) ?_); (conv => whnf))
            | (refine Exists.intro ?w (And.intro (Pl.den ?p) ?k); (case p => repeat constructor); (conv => whnf))
            | (refine Exists.intro _ (And.intro (by with_reducible rfl) ?_); (conv => whnf))
            | (refine Exists.intro _ (And.intro (cast_succ _) ?_); (conv => whnf))
            | (refine Exists.intro _ (And.intro (by assumption) ?_); (conv => whnf))
            | (refine Exists.intro _ (And.intro (Int.toNat_of_nonneg ?_).symm ?_); (omega); (conv => whnf))
            | (refine Exists.intro _ (And.intro rfl ?_); (conv => whnf))
            | (intro h; (try simp only [decide_eq_true_eq, decide_eq_false_iff_not, Bool.not_eq_true', Bool.not_eq_false', Bool.not_true, Bool.not_false] at h); first | (exfalso; omega) | (cases h; done) | (conv => whnf)))
          have t8 := tReadF (rowFact b1 (s1.map bv ++ sp1) 5 :: fx) _ ok6 rfl i (by rw [List.length_replicate]; exact hij)
          have g8 : DS.get ⟨List.replicate j zsec, fun _ => none, -1, false⟩ i = zsec := by
            simp only [DS.get, Option.getD_none, List.getD_eq_getElem?_getD, List.getElem?_replicate, if_pos hij, Option.getD_some]
          rw [g8] at t8
          refine Tri.use t8 [1] rfl (args_ren rfl rfl) ⟨OSub.ren rfl rfl, trivial⟩ (fun f hf => by first | exact hf | cases hf | simp_all) (fun u hu => ?_)
          obtain ⟨b2, sp2⟩ := u
          conv => whnf
          repeat' (first
            | (refine And.intro (by first | exact trivial | exact And.intro rfl trivial | exact And.intro rfl (And.intro rfl trivial) | exact And.intro rfl (And.intro rfl (And.intro rfl trivial))) (And.intro (fun _ h => h) ?_); (conv => whnf))
            | (refine And.intro (fun h => ?_) (fun h => ?_) <;> (try simp only [decide_eq_true_eq, decide_eq_false_iff_not, Bool.not_eq_true', Bool.not_eq_false', Bool.not_true, Bool.not_false] at h) <;> first | (exfalso; omega) | (cases h; done) | (conv => whnf))
            | (refine And.intro ?_ ?_; (omega); (conv => whnf))
            | (refine Exists.intro _ (And.intro (And.intro rfl rfl) ?_); (conv => whnf))
            | (refine Exists.intro ?w (And.intro (Pl.den ?p) ?k); (case p => repeat constructor); (conv => whnf))
            | (refine Exists.intro _ (And.intro (by with_reducible rfl) ?_); (conv => whnf))
            | (refine Exists.intro _ (And.intro (cast_succ _) ?_); (conv => whnf))
            | (refine Exists.intro _ (And.intro (by assumption) ?_); (conv => whnf))
            | (refine Exists.intro _ (And.intro (Int.toNat_of_nonneg ?_).symm ?_); (omega); (conv => whnf))
            | (refine Exists.intro _ (And.intro rfl ?_); (conv => whnf))
            | (intro h; (try simp only [decide_eq_true_eq, decide_eq_false_iff_not, Bool.not_eq_true', Bool.not_eq_false', Bool.not_true, Bool.not_false] at h); first | (exfalso; omega) | (cases h; done) | (conv => whnf)))
          refine draw_rule tok (by kernel_rfl) [.any 0, .any 1, .any 2, .any 3, .any 4, .any 5, .any 7, .any 8, .load 6, .one 9, .any 10, .any 11, .any 12, .any 13, .one 14, .one 15, .any 16, .any 17] [] [] (by kernel_rfl) rfl rfl trivial ?_
          conv => whnf
          repeat' (first
            | (refine And.intro (by first | exact trivial | exact And.intro rfl trivial | exact And.intro rfl (And.intro rfl trivial) | exact And.intro rfl (And.intro rfl (And.intro rfl trivial))) (And.intro (fun _ h => h) ?_); (conv => whnf))
            | (refine And.intro (fun h => ?_) (fun h => ?_) <;> (try simp only [decide_eq_true_eq, decide_eq_false_iff_not, Bool.not_eq_true', Bool.not_eq_false', Bool.not_true, Bool.not_false] at h) <;> first | (exfalso; omega) | (cases h; done) | (conv => whnf))
            | (refine And.intro ?_ ?_; (omega); (conv => whnf))
            | (refine Exists.intro _ (And.intro (And.intro rfl rfl) ?_); (conv => whnf))
            | (refine Exists.intro ?w (And.intro (Pl.den ?p) ?k); (case p => repeat constructor); (conv => whnf))
            | (refine Exists.intro _ (And.intro (by with_reducible rfl) ?_); (conv => whnf))
            | (refine Exists.intro _ (And.intro (cast_succ _) ?_); (conv => whnf))
            | (refine Exists.intro _ (And.intro (by assumption) ?_); (conv => whnf))
            | (refine Exists.intro _ (And.intro (Int.toNat_of_nonneg ?_).symm ?_); (omega); (conv => whnf))
            | (refine Exists.intro _ (And.intro rfl ?_); (conv => whnf))
            | (intro h; (try simp only [decide_eq_true_eq, decide_eq_false_iff_not, Bool.not_eq_true', Bool.not_eq_false', Bool.not_true, Bool.not_false] at h); first | (exfalso; omega) | (cases h; done) | (conv => whnf)))
          refine Exists.intro (bv w[i]) (And.intro ?_ ?_)
          · rw [add_at]
            refine rowFact_FC (List.mem_cons_of_mem _ (List.mem_cons_self ..)) ?_
            rw [List.getElem?_append_left (by simp only [List.length_map]; omega), List.getElem?_map]
            simp only [Nat.zero_add, Nat.mul_one, hs, Option.map_some]
          conv => whnf
          repeat' (first
            | (refine And.intro (by first | exact trivial | exact And.intro rfl trivial | exact And.intro rfl (And.intro rfl trivial) | exact And.intro rfl (And.intro rfl (And.intro rfl trivial))) (And.intro (fun _ h => h) ?_); (conv => whnf))
            | (refine And.intro (fun h => ?_) (fun h => ?_) <;> (try simp only [decide_eq_true_eq, decide_eq_false_iff_not, Bool.not_eq_true', Bool.not_eq_false', Bool.not_true, Bool.not_false] at h) <;> first | (exfalso; omega) | (cases h; done) | (conv => whnf))
            | (refine And.intro ?_ ?_; (omega); (conv => whnf))
            | (refine Exists.intro _ (And.intro (And.intro rfl rfl) ?_); (conv => whnf))
            | (refine Exists.intro ?w (And.intro (Pl.den ?p) ?k); (case p => repeat constructor); (conv => whnf))
            | (refine Exists.intro _ (And.intro (by with_reducible rfl) ?_); (conv => whnf))
            | (refine Exists.intro _ (And.intro (cast_succ _) ?_); (conv => whnf))
            | (refine Exists.intro _ (And.intro (by assumption) ?_); (conv => whnf))
            | (refine Exists.intro _ (And.intro (Int.toNat_of_nonneg ?_).symm ?_); (omega); (conv => whnf))
            | (refine Exists.intro _ (And.intro rfl ?_); (conv => whnf))
            | (intro h; (try simp only [decide_eq_true_eq, decide_eq_false_iff_not, Bool.not_eq_true', Bool.not_eq_false', Bool.not_true, Bool.not_false] at h); first | (exfalso; omega) | (cases h; done) | (conv => whnf)))
          refine Exists.intro (bv w[i]) (And.intro ?_ ?_)
          · rw [List.getElem?_map, Nat.mul_one, Nat.zero_add, List.getElem?_eq_getElem (show i < w.length by omega)]
            rfl
          conv => whnf
          repeat' (first
            | (refine And.intro (by first | exact trivial | exact And.intro rfl trivial | exact And.intro rfl (And.intro rfl trivial) | exact And.intro rfl (And.intro rfl (And.intro rfl trivial))) (And.intro (fun _ h => h) ?_); (conv => whnf))
            | (refine And.intro (fun h => ?_) (fun h => ?_) <;> (try simp only [decide_eq_true_eq, decide_eq_false_iff_not, Bool.not_eq_true', Bool.not_eq_false', Bool.not_true, Bool.not_false] at h) <;> first | (exfalso; omega) | (cases h; done) | (conv => whnf))
            | (refine And.intro ?_ ?_; (omega); (conv => whnf))
            | (refine Exists.intro _ (And.intro (And.intro rfl rfl) ?_); (conv => whnf))
            | (refine Exists.intro ?w (And.intro (Pl.den ?p) ?k); (case p => repeat constructor); (conv => whnf))
            | (refine Exists.intro _ (And.intro (by with_reducible rfl) ?_); (conv => whnf))
            | (refine Exists.intro _ (And.intro (cast_succ _) ?_); (conv => whnf))
            | (refine Exists.intro _ (And.intro (by assumption) ?_); (conv => whnf))
            | (refine Exists.intro _ (And.intro (Int.toNat_of_nonneg ?_).symm ?_); (omega); (conv => whnf))
            | (refine Exists.intro _ (And.intro rfl ?_); (conv => whnf))
            | (intro h; (try simp only [decide_eq_true_eq, decide_eq_false_iff_not, Bool.not_eq_true', Bool.not_eq_false', Bool.not_true, Bool.not_false] at h); first | (exfalso; omega) | (cases h; done) | (conv => whnf)))
          have t9 := tSame30Row (rowFact b2 (zsec.map bv ++ sp2) 5 :: rowFact b1 (s1.map bv ++ sp1) 5 :: fx) (some ⟨b2, 0, none⟩) (64 + sp2.length) 64 zsec zsec (BytesAt.row (List.mem_cons_self ..) (by rw [List.drop_zero]; exact List.take_left' rfl)) (repRow [Value.int IntKind.u8 0] 64) zero_row (by rw [zsec_length]; omega)
          rw [zsec_length, decide_eq_true (rfl : zsec = zsec)] at t9
          refine Tri.use t9 [5] rfl (args_ren rfl rfl) ⟨OSub.ren rfl rfl, trivial⟩ (fun f hf => by first | exact hf | cases hf | simp_all) (fun u hu => ?_)
          conv => whnf
          repeat' (first
            | (refine And.intro (by first | exact trivial | exact And.intro rfl trivial | exact And.intro rfl (And.intro rfl trivial) | exact And.intro rfl (And.intro rfl (And.intro rfl trivial))) (And.intro (fun _ h => h) ?_); (conv => whnf))
            | (refine And.intro (fun h => ?_) (fun h => ?_) <;> (try simp only [decide_eq_true_eq, decide_eq_false_iff_not, Bool.not_eq_true', Bool.not_eq_false', Bool.not_true, Bool.not_false] at h) <;> first | (exfalso; omega) | (cases h; done) | (conv => whnf))
            | (refine And.intro ?_ ?_; (omega); (conv => whnf))
            | (refine Exists.intro _ (And.intro (And.intro rfl rfl) ?_); (conv => whnf))
            | (refine Exists.intro ?w (And.intro (Pl.den ?p) ?k); (case p => repeat constructor); (conv => whnf))
            | (refine Exists.intro _ (And.intro (by with_reducible rfl) ?_); (conv => whnf))
            | (refine Exists.intro _ (And.intro (cast_succ _) ?_); (conv => whnf))
            | (refine Exists.intro _ (And.intro (by assumption) ?_); (conv => whnf))
            | (refine Exists.intro _ (And.intro (Int.toNat_of_nonneg ?_).symm ?_); (omega); (conv => whnf))
            | (refine Exists.intro _ (And.intro rfl ?_); (conv => whnf))
            | (intro h; (try simp only [decide_eq_true_eq, decide_eq_false_iff_not, Bool.not_eq_true', Bool.not_eq_false', Bool.not_true, Bool.not_false] at h); first | (exfalso; omega) | (cases h; done) | (conv => whnf)))
          refine ⟨i + 1, [0, 1, 2], ⟨by omega, by omega⟩, rfl, ⟨fun _ _ _ => rfl, SEq.ren rfl rfl, SEq.ren rfl rfl, SEq.ren rfl rfl, SEq.eq rfl, trivial⟩, ⟨OSub.ren rfl rfl, OSub.ren rfl rfl, OSub.ren rfl rfl, trivial⟩, fun f hf => List.mem_cons_of_mem _ (List.mem_cons_of_mem _ hf)⟩
        · exact Ret.mk [] [] (Fold.drop (by simp)) rfl (fun _ _ _ => rfl) trivial (fun _ h => nomatch h)
end Go.Proofs.Ytekgjjanikicnaa.Sx
