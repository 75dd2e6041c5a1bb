/- The law DiskPlays: what its code does. -/
import Derived.Test.YtekgjjanikicnaaDkDo
namespace Go.Proofs.Ytekgjjanikicnaa.Sx
open Go
set_option maxRecDepth 100000
set_option linter.unusedSimpArgs false
set_option linter.unusedVariables false

structure PlS where
  k : Nat
  d : DS
  gs : List Fact
def readOp (i : Int) : OpV := ⟨5, i, none, [], 0, ⟨none, [], 0, 0, 0⟩⟩
theorem readOp_ok {fx : List Fact} {i : Int} (hi : -9223372036854775808 ≤ i ∧ i ≤ 9223372036854775807) : (readOp i).Ok fx :=
  ⟨by simp [readOp], hi, ⟨Nat.le_refl _, Nat.zero_le _⟩, ⟨fun _ => rfl, fun ad e => by cases e⟩, ⟨⟨Nat.le_refl _, Nat.zero_le _⟩, ⟨fun _ => rfl, fun ad e => by cases e⟩, by simp [readOp], by simp [readOp]⟩⟩
theorem readOp_small {i : Int} : Small (readOp i) := ⟨by simp [readOp], by simp [readOp]⟩
/-- The same, with the reference's disk told in parts. -/
theorem tDoT (fx gx : List Fact) (d : DS) (hd : d.Ok) (o : OpV) (ho : o.Ok gx) (hs : Small o) (hg : ∀ f, f ∈ gx → f ∈ fx) :
    Tri Try.prog 39 [.p 0 0, .p 1 0, .v (.agg ⟨o.cells⟩)] [dsk 0 d, ref 1 gx d] 2 fx (RetE (α := (g : List Fact) × RefV (g ++ gx) (d.play o)) 2 (fun _ => True) (fun _ => .b true) (fun x => renH (nm 1 2) (refL x.2) ++ [dsk 0 (d.play o)]) 4 (fun x => x.1)) := by
  refine (tDo fx gx d hd o ho hs hg).conv.tell fun y h m f ⟨g, _, e1, e2, e3, e4⟩ => ?_
  subst e1 e2 e3 e4
  refine ⟨1, _, _, _, 2, by simp, told_ref (f ++ gx) (d.play o), fun i => ⟨⟨f, i⟩, trivial, ?_⟩⟩
  refine Ret.mk [0, 1, 2, 3] _ (Fold.refl _) ?_ (fun _ _ _ => rfl) ?_ (fun _ h => h)
  · cases i <;> rfl
  · cases i with
    | zero h0 => exact ⟨OSub.ren rfl rfl, OSub.ren rfl rfl, trivial⟩
    | rows ls ns hR => exact ⟨OSub.ren rfl rfl, OSub.ren rfl rfl, OSub.ren rfl rfl, OSub.ren rfl rfl, trivial⟩
theorem tDiskPlays (fx : List Fact) (n : Int) (A : Option Addr) (cap : Nat) (ops : List OpV) (hn : 0 ≤ n ∧ n < 256) (hO : OpsAt fx A ops) (hc : ops.length ≤ cap ∧ cap ≤ maxLen) :
    Tri Try.prog 10 [.v (.int .u8 n), .v (.slice A ops.length cap)] [] 0 fx (Ret 0 (.b true) [] 0 []) := by
  obtain ⟨N, hN⟩ : ∃ N : Nat, n % 41 = N := ⟨(n % 41).toNat, by omega⟩
  refine Tri.of_code tok Try.func10 rfl rfl rfl (by decide) rfl (Nat.le_of_ble_eq_true rfl) ?_
  conv => whnf
  repeat' (first
    | (refine And.intro (by first | exact trivial | exact And.intro rfl trivial | exact And.intro rfl (And.intro rfl trivial) | exact And.intro rfl (And.intro rfl (And.intro rfl trivial))) (And.intro (fun _ h => h) ?_); (conv => whnf))
    | (refine And.intro (by first | exact trivial | exact And.intro rfl trivial | exact And.intro rfl (And.intro rfl trivial) | exact And.intro rfl (And.intro rfl (And.intro rfl trivial))) (And.intro (fun _ h => List.mem_cons_of_mem _ h) ?_); (conv => whnf))
    | (refine And.intro (by first | exact trivial | exact And.intro rfl trivial | exact And.intro rfl (And.intro rfl trivial) | exact And.intro rfl (And.intro rfl (And.intro rfl trivial))) (And.intro (fun _ h => List.mem_append_right _ h) ?_); (conv => whnf))
    | (refine And.intro (fun h => ?_) (fun h => ?_) <;> (try simp only [decide_eq_true_eq, decide_eq_false_iff_not, Bool.not_eq_true', Bool.not_eq_false', Bool.not_true, Bool.not_false] at h) <;> first | (exfalso; omega) | (cases h; done) | (conv => whnf))
    | (refine And.intro ?_ ?_; (omega); (conv => whnf))
    | (refine Exists.intro _ (And.intro (And.intro rfl rfl) ?_); (conv => whnf))
    | (refine Exists.intro ?w (And.intro (Pl.den ?p) ?k); (case p => repeat constructor); (conv => whnf))
    | (refine Exists.intro _ (And.intro (by with_reducible rfl) ?_); (conv => whnf))
    | (refine Exists.intro _ (And.intro (cast_succ _) ?_); (conv => whnf))
    | (refine Exists.intro _ (And.intro (by assumption) ?_); (conv => whnf))
    | (refine Exists.intro _ (And.intro (Int.toNat_of_nonneg ?_).symm ?_); (omega); (conv => whnf))
    | (refine Exists.intro _ (And.intro rfl ?_); (conv => whnf))
    | (intro h; (try simp only [decide_eq_true_eq, decide_eq_false_iff_not, Bool.not_eq_true', Bool.not_eq_false', Bool.not_true, Bool.not_false] at h); first | (exfalso; omega) | (cases h; done) | (conv => whnf)))
  refine Tri.use (tDAwake fx).one [] rfl (args_ren rfl rfl) trivial (fun f hf => by first | exact hf | cases hf | simp_all) (fun u hu => ?_)
  conv => whnf
  repeat' (first
    | (refine And.intro (by first | exact trivial | exact And.intro rfl trivial | exact And.intro rfl (And.intro rfl trivial) | exact And.intro rfl (And.intro rfl (And.intro rfl trivial))) (And.intro (fun _ h => h) ?_); (conv => whnf))
    | (refine And.intro (by first | exact trivial | exact And.intro rfl trivial | exact And.intro rfl (And.intro rfl trivial) | exact And.intro rfl (And.intro rfl (And.intro rfl trivial))) (And.intro (fun _ h => List.mem_cons_of_mem _ h) ?_); (conv => whnf))
    | (refine And.intro (by first | exact trivial | exact And.intro rfl trivial | exact And.intro rfl (And.intro rfl trivial) | exact And.intro rfl (And.intro rfl (And.intro rfl trivial))) (And.intro (fun _ h => List.mem_append_right _ h) ?_); (conv => whnf))
    | (refine And.intro (fun h => ?_) (fun h => ?_) <;> (try simp only [decide_eq_true_eq, decide_eq_false_iff_not, Bool.not_eq_true', Bool.not_eq_false', Bool.not_true, Bool.not_false] at h) <;> first | (exfalso; omega) | (cases h; done) | (conv => whnf))
    | (refine And.intro ?_ ?_; (omega); (conv => whnf))
    | (refine Exists.intro _ (And.intro (And.intro rfl rfl) ?_); (conv => whnf))
    | (refine Exists.intro ?w (And.intro (Pl.den ?p) ?k); (case p => repeat constructor); (conv => whnf))
    | (refine Exists.intro _ (And.intro (by with_reducible rfl) ?_); (conv => whnf))
    | (refine Exists.intro _ (And.intro (cast_succ _) ?_); (conv => whnf))
    | (refine Exists.intro _ (And.intro (by assumption) ?_); (conv => whnf))
    | (refine Exists.intro _ (And.intro (Int.toNat_of_nonneg ?_).symm ?_); (omega); (conv => whnf))
    | (refine Exists.intro _ (And.intro rfl ?_); (conv => whnf))
    | (intro h; (try simp only [decide_eq_true_eq, decide_eq_false_iff_not, Bool.not_eq_true', Bool.not_eq_false', Bool.not_true, Bool.not_false] at h); first | (exfalso; omega) | (cases h; done) | (conv => whnf)))
  refine Tri.use (tFew fx A cap ops hO hc) [] rfl (args_ren rfl rfl) trivial (fun f hf => by first | exact hf | cases hf | simp_all) (fun u hu => ?_)
  conv => whnf
  repeat' (first
    | (refine And.intro (by first | exact trivial | exact And.intro rfl trivial | exact And.intro rfl (And.intro rfl trivial) | exact And.intro rfl (And.intro rfl (And.intro rfl trivial))) (And.intro (fun _ h => h) ?_); (conv => whnf))
    | (refine And.intro (by first | exact trivial | exact And.intro rfl trivial | exact And.intro rfl (And.intro rfl trivial) | exact And.intro rfl (And.intro rfl (And.intro rfl trivial))) (And.intro (fun _ h => List.mem_cons_of_mem _ h) ?_); (conv => whnf))
    | (refine And.intro (by first | exact trivial | exact And.intro rfl trivial | exact And.intro rfl (And.intro rfl trivial) | exact And.intro rfl (And.intro rfl (And.intro rfl trivial))) (And.intro (fun _ h => List.mem_append_right _ h) ?_); (conv => whnf))
    | (refine And.intro (fun h => ?_) (fun h => ?_) <;> (try simp only [decide_eq_true_eq, decide_eq_false_iff_not, Bool.not_eq_true', Bool.not_eq_false', Bool.not_true, Bool.not_false] at h) <;> first | (exfalso; omega) | (cases h; done) | (conv => whnf))
    | (refine And.intro ?_ ?_; (omega); (conv => whnf))
    | (refine Exists.intro _ (And.intro (And.intro rfl rfl) ?_); (conv => whnf))
    | (refine Exists.intro ?w (And.intro (Pl.den ?p) ?k); (case p => repeat constructor); (conv => whnf))
    | (refine Exists.intro _ (And.intro (by with_reducible rfl) ?_); (conv => whnf))
    | (refine Exists.intro _ (And.intro (cast_succ _) ?_); (conv => whnf))
    | (refine Exists.intro _ (And.intro (by assumption) ?_); (conv => whnf))
    | (refine Exists.intro _ (And.intro (Int.toNat_of_nonneg ?_).symm ?_); (omega); (conv => whnf))
    | (refine Exists.intro _ (And.intro rfl ?_); (conv => whnf))
    | (intro h; (try simp only [decide_eq_true_eq, decide_eq_false_iff_not, Bool.not_eq_true', Bool.not_eq_false', Bool.not_true, Bool.not_false] at h); first | (exfalso; omega) | (cases h; done) | (conv => whnf)))
  · refine Tri.use (tDAwake fx).one [] rfl (args_ren rfl rfl) trivial (fun f hf => by first | exact hf | cases hf | simp_all) (fun u hu => ?_)
    conv => whnf
    repeat' (first
      | (refine And.intro (by first | exact trivial | exact And.intro rfl trivial | exact And.intro rfl (And.intro rfl trivial) | exact And.intro rfl (And.intro rfl (And.intro rfl trivial))) (And.intro (fun _ h => h) ?_); (conv => whnf))
      | (refine And.intro (by first | exact trivial | exact And.intro rfl trivial | exact And.intro rfl (And.intro rfl trivial) | exact And.intro rfl (And.intro rfl (And.intro rfl trivial))) (And.intro (fun _ h => List.mem_cons_of_mem _ h) ?_); (conv => whnf))
      | (refine And.intro (by first | exact trivial | exact And.intro rfl trivial | exact And.intro rfl (And.intro rfl trivial) | exact And.intro rfl (And.intro rfl (And.intro rfl trivial))) (And.intro (fun _ h => List.mem_append_right _ h) ?_); (conv => whnf))
      | (refine And.intro (fun h => ?_) (fun h => ?_) <;> (try simp only [decide_eq_true_eq, decide_eq_false_iff_not, Bool.not_eq_true', Bool.not_eq_false', Bool.not_true, Bool.not_false] at h) <;> first | (exfalso; omega) | (cases h; done) | (conv => whnf))
      | (refine And.intro ?_ ?_; (omega); (conv => whnf))
      | (refine Exists.intro _ (And.intro (And.intro rfl rfl) ?_); (conv => whnf))
      | (refine Exists.intro ?w (And.intro (Pl.den ?p) ?k); (case p => repeat constructor); (conv => whnf))
      | (refine Exists.intro _ (And.intro (by with_reducible rfl) ?_); (conv => whnf))
      | (refine Exists.intro _ (And.intro (cast_succ _) ?_); (conv => whnf))
      | (refine Exists.intro _ (And.intro (by assumption) ?_); (conv => whnf))
      | (refine Exists.intro _ (And.intro (Int.toNat_of_nonneg ?_).symm ?_); (omega); (conv => whnf))
      | (refine Exists.intro _ (And.intro rfl ?_); (conv => whnf))
      | (intro h; (try simp only [decide_eq_true_eq, decide_eq_false_iff_not, Bool.not_eq_true', Bool.not_eq_false', Bool.not_true, Bool.not_false] at h); first | (exfalso; omega) | (cases h; done) | (conv => whnf)))
    exact Ret.mk [] [] (Fold.drop (by simp)) rfl (fun _ _ _ => rfl) trivial (fun _ h => nomatch h)
  obtain ⟨hO1, hO2⟩ := hu (by assumption)
  rw [hN]
  refine Tri.use (tNew fx N (by omega)) [] rfl (args_ren rfl rfl) trivial (fun f hf => by first | exact hf | cases hf | simp_all) (fun u hu => ?_)
  conv => whnf
  repeat' (first
    | (refine And.intro (by first | exact trivial | exact And.intro rfl trivial | exact And.intro rfl (And.intro rfl trivial) | exact And.intro rfl (And.intro rfl (And.intro rfl trivial))) (And.intro (fun _ h => h) ?_); (conv => whnf))
    | (refine And.intro (by first | exact trivial | exact And.intro rfl trivial | exact And.intro rfl (And.intro rfl trivial) | exact And.intro rfl (And.intro rfl (And.intro rfl trivial))) (And.intro (fun _ h => List.mem_cons_of_mem _ h) ?_); (conv => whnf))
    | (refine And.intro (by first | exact trivial | exact And.intro rfl trivial | exact And.intro rfl (And.intro rfl trivial) | exact And.intro rfl (And.intro rfl (And.intro rfl trivial))) (And.intro (fun _ h => List.mem_append_right _ h) ?_); (conv => whnf))
    | (refine And.intro (fun h => ?_) (fun h => ?_) <;> (try simp only [decide_eq_true_eq, decide_eq_false_iff_not, Bool.not_eq_true', Bool.not_eq_false', Bool.not_true, Bool.not_false] at h) <;> first | (exfalso; omega) | (cases h; done) | (conv => whnf))
    | (refine And.intro ?_ ?_; (omega); (conv => whnf))
    | (refine Exists.intro _ (And.intro (And.intro rfl rfl) ?_); (conv => whnf))
    | (refine Exists.intro ?w (And.intro (Pl.den ?p) ?k); (case p => repeat constructor); (conv => whnf))
    | (refine Exists.intro _ (And.intro (by with_reducible rfl) ?_); (conv => whnf))
    | (refine Exists.intro _ (And.intro (cast_succ _) ?_); (conv => whnf))
    | (refine Exists.intro _ (And.intro (by assumption) ?_); (conv => whnf))
    | (refine Exists.intro _ (And.intro (Int.toNat_of_nonneg ?_).symm ?_); (omega); (conv => whnf))
    | (refine Exists.intro _ (And.intro rfl ?_); (conv => whnf))
    | (intro h; (try simp only [decide_eq_true_eq, decide_eq_false_iff_not, Bool.not_eq_true', Bool.not_eq_false', Bool.not_true, Bool.not_false] at h); first | (exfalso; omega) | (cases h; done) | (conv => whnf)))
  refine Tri.use (tRNew fx N (by omega)) [] rfl (args_ren rfl rfl) trivial (fun f hf => by first | exact hf | cases hf | simp_all) (fun u hu => ?_)
  conv => whnf
  refine appFK_intro ?_
  conv => whnf
  repeat' (first
    | (refine And.intro (by first | exact trivial | exact And.intro rfl trivial | exact And.intro rfl (And.intro rfl trivial) | exact And.intro rfl (And.intro rfl (And.intro rfl trivial))) (And.intro (fun _ h => h) ?_); (conv => whnf))
    | (refine And.intro (by first | exact trivial | exact And.intro rfl trivial | exact And.intro rfl (And.intro rfl trivial) | exact And.intro rfl (And.intro rfl (And.intro rfl trivial))) (And.intro (fun _ h => List.mem_cons_of_mem _ h) ?_); (conv => whnf))
    | (refine And.intro (by first | exact trivial | exact And.intro rfl trivial | exact And.intro rfl (And.intro rfl trivial) | exact And.intro rfl (And.intro rfl (And.intro rfl trivial))) (And.intro (fun _ h => List.mem_append_right _ h) ?_); (conv => whnf))
    | (refine And.intro (fun h => ?_) (fun h => ?_) <;> (try simp only [decide_eq_true_eq, decide_eq_false_iff_not, Bool.not_eq_true', Bool.not_eq_false', Bool.not_true, Bool.not_false] at h) <;> first | (exfalso; omega) | (cases h; done) | (conv => whnf))
    | (refine And.intro ?_ ?_; (omega); (conv => whnf))
    | (refine Exists.intro _ (And.intro (And.intro rfl rfl) ?_); (conv => whnf))
    | (refine Exists.intro ?w (And.intro (Pl.den ?p) ?k); (case p => repeat constructor); (conv => whnf))
    | (refine Exists.intro _ (And.intro (by with_reducible rfl) ?_); (conv => whnf))
    | (refine Exists.intro _ (And.intro (cast_succ _) ?_); (conv => whnf))
    | (refine Exists.intro _ (And.intro (by assumption) ?_); (conv => whnf))
    | (refine Exists.intro _ (And.intro (Int.toNat_of_nonneg ?_).symm ?_); (omega); (conv => whnf))
    | (refine Exists.intro _ (And.intro rfl ?_); (conv => whnf))
    | (intro h; (try simp only [decide_eq_true_eq, decide_eq_false_iff_not, Bool.not_eq_true', Bool.not_eq_false', Bool.not_true, Bool.not_false] at h); first | (exfalso; omega) | (cases h; done) | (conv => whnf)))
  refine Tri.use (tSize (u ++ fx) (DS.new N)) [0] rfl (args_ren rfl rfl) ⟨OSub.ren rfl rfl, trivial⟩ (fun f hf => by first | exact hf | cases hf | simp_all) (fun u hu => ?_)
  conv => whnf
  repeat' (first
    | (refine And.intro (by first | exact trivial | exact And.intro rfl trivial | exact And.intro rfl (And.intro rfl trivial) | exact And.intro rfl (And.intro rfl (And.intro rfl trivial))) (And.intro (fun _ h => h) ?_); (conv => whnf))
    | (refine And.intro (by first | exact trivial | exact And.intro rfl trivial | exact And.intro rfl (And.intro rfl trivial) | exact And.intro rfl (And.intro rfl (And.intro rfl trivial))) (And.intro (fun _ h => List.mem_cons_of_mem _ h) ?_); (conv => whnf))
    | (refine And.intro (by first | exact trivial | exact And.intro rfl trivial | exact And.intro rfl (And.intro rfl trivial) | exact And.intro rfl (And.intro rfl (And.intro rfl trivial))) (And.intro (fun _ h => List.mem_append_right _ h) ?_); (conv => whnf))
    | (refine And.intro (fun h => ?_) (fun h => ?_) <;> (try simp only [decide_eq_true_eq, decide_eq_false_iff_not, Bool.not_eq_true', Bool.not_eq_false', Bool.not_true, Bool.not_false] at h) <;> first | (exfalso; omega) | (cases h; done) | (conv => whnf))
    | (refine And.intro ?_ ?_; (omega); (conv => whnf))
    | (refine Exists.intro _ (And.intro (And.intro rfl rfl) ?_); (conv => whnf))
    | (refine Exists.intro ?w (And.intro (Pl.den ?p) ?k); (case p => repeat constructor); (conv => whnf))
    | (refine Exists.intro _ (And.intro (by with_reducible rfl) ?_); (conv => whnf))
    | (refine Exists.intro _ (And.intro (cast_succ _) ?_); (conv => whnf))
    | (refine Exists.intro _ (And.intro (by assumption) ?_); (conv => whnf))
    | (refine Exists.intro _ (And.intro (Int.toNat_of_nonneg ?_).symm ?_); (omega); (conv => whnf))
    | (refine Exists.intro _ (And.intro rfl ?_); (conv => whnf))
    | (intro h; (try simp only [decide_eq_true_eq, decide_eq_false_iff_not, Bool.not_eq_true', Bool.not_eq_false', Bool.not_true, Bool.not_false] at h); first | (exfalso; omega) | (cases h; done) | (conv => whnf)))
  · exact absurd (by simp [DS.new] : ((DS.new N).l.length : Int) = N) (by assumption)
  rename_i g0 _ _ _ _ _
  refine loop_by tok (α := PlS) (fun x => match x with | ⟨k, d, gs⟩ => ⟨[(1, .v (.slice A ops.length cap)), (5, .v (.int .i64 N)), (6, .p 0 0), (8, .p 1 0), (9, .v (.int .i64 k))], [dsk 0 d, ref 1 (gs ++ fx) d], 2, gs ++ fx⟩)
    (fun x => x.k ≤ ops.length ∧ x.d.Ok ∧ x.d.l.length = N) (fun x => ops.length - x.k) ⟨0, DS.new N, _⟩ [0, 1] ⟨Nat.zero_le _, DS.new_ok (by omega), by simp [DS.new]⟩ ⟨rfl, ⟨fun _ _ _ => rfl, fun _ _ _ => rfl, SEq.ren rfl rfl, SEq.ren rfl rfl, fun _ _ _ => rfl, trivial⟩, ⟨OSub.ren rfl rfl, OSub.ren rfl rfl, trivial⟩, fun f hf => hf⟩ ?_
  rintro ⟨k, d, gs⟩ ⟨hk, hd, hdl⟩
  simp only at hk hd hdl
  conv => whnf
  repeat' (first
    | (refine And.intro (by first | exact trivial | exact And.intro rfl trivial | exact And.intro rfl (And.intro rfl trivial) | exact And.intro rfl (And.intro rfl (And.intro rfl trivial))) (And.intro (fun _ h => h) ?_); (conv => whnf))
    | (refine And.intro (by first | exact trivial | exact And.intro rfl trivial | exact And.intro rfl (And.intro rfl trivial) | exact And.intro rfl (And.intro rfl (And.intro rfl trivial))) (And.intro (fun _ h => List.mem_cons_of_mem _ h) ?_); (conv => whnf))
    | (refine And.intro (by first | exact trivial | exact And.intro rfl trivial | exact And.intro rfl (And.intro rfl trivial) | exact And.intro rfl (And.intro rfl (And.intro rfl trivial))) (And.intro (fun _ h => List.mem_append_right _ h) ?_); (conv => whnf))
    | (refine And.intro (fun h => ?_) (fun h => ?_) <;> (try simp only [decide_eq_true_eq, decide_eq_false_iff_not, Bool.not_eq_true', Bool.not_eq_false', Bool.not_true, Bool.not_false] at h) <;> first | (exfalso; omega) | (cases h; done) | (conv => whnf))
    | (refine And.intro ?_ ?_; (omega); (conv => whnf))
    | (refine Exists.intro _ (And.intro (And.intro rfl rfl) ?_); (conv => whnf))
    | (refine Exists.intro ?w (And.intro (Pl.den ?p) ?k); (case p => repeat constructor); (conv => whnf))
    | (refine Exists.intro _ (And.intro (by with_reducible rfl) ?_); (conv => whnf))
    | (refine Exists.intro _ (And.intro (cast_succ _) ?_); (conv => whnf))
    | (refine Exists.intro _ (And.intro (by assumption) ?_); (conv => whnf))
    | (refine Exists.intro _ (And.intro (Int.toNat_of_nonneg ?_).symm ?_); (omega); (conv => whnf))
    | (refine Exists.intro _ (And.intro rfl ?_); (conv => whnf))
    | (intro h; (try simp only [decide_eq_true_eq, decide_eq_false_iff_not, Bool.not_eq_true', Bool.not_eq_false', Bool.not_true, Bool.not_false] at h); first | (exfalso; omega) | (cases h; done) | (conv => whnf)))
  · obtain ⟨ad, rfl, hok, hF⟩ := hO.get (i := k) (by omega)
    have hok1 := hok.mono (fx' := gs ++ fx) fun f hf => List.mem_append_right _ hf
    have hsm := hO2 k ops[k] (List.getElem?_eq_getElem (by omega))
    have hd1 := hd.play hok
    have hdl1 : (d.play ops[k]).l.length = N := by rw [DS.play_len]; exact hdl
    refine draw_tree tok (by kernel_rfl) (.step (.any 0) <| .step (.any 1) <| .step (.any 2) <| .step (.any 3) <| .step (.any 4) <| .step (.one 5) <| .step (.one 6) <| .step (.any 7) <| .step (.any 8) <| .step (.any 9) <| .step (.any 11) <| .step (.any 12) <| .step (.any 13) <| .two 10 (.step (.one 14) <| .step (.any 15) <| .step (.any 16) .done) 14 (.step (.one 10) <| .step (.any 15) <| .step (.any 16) .done)) [] [] (by kernel_rfl) rfl rfl trivial ?_
    conv => whnf
    repeat' (first
      | (refine And.intro (by first | exact trivial | exact And.intro rfl trivial | exact And.intro rfl (And.intro rfl trivial) | exact And.intro rfl (And.intro rfl (And.intro rfl trivial))) (And.intro (fun _ h => h) ?_); (conv => whnf))
      | (refine And.intro (by first | exact trivial | exact And.intro rfl trivial | exact And.intro rfl (And.intro rfl trivial) | exact And.intro rfl (And.intro rfl (And.intro rfl trivial))) (And.intro (fun _ h => List.mem_cons_of_mem _ h) ?_); (conv => whnf))
      | (refine And.intro (by first | exact trivial | exact And.intro rfl trivial | exact And.intro rfl (And.intro rfl trivial) | exact And.intro rfl (And.intro rfl (And.intro rfl trivial))) (And.intro (fun _ h => List.mem_append_right _ h) ?_); (conv => whnf))
      | (refine And.intro (fun h => ?_) (fun h => ?_) <;> (try simp only [decide_eq_true_eq, decide_eq_false_iff_not, Bool.not_eq_true', Bool.not_eq_false', Bool.not_true, Bool.not_false] at h) <;> first | (exfalso; omega) | (cases h; done) | (conv => whnf))
      | (refine And.intro ?_ ?_; (omega); (conv => whnf))
      | (refine Exists.intro _ (And.intro (And.intro rfl rfl) ?_); (conv => whnf))
      | (refine Exists.intro ?w (And.intro (Pl.den ?p) ?k); (case p => repeat constructor); (conv => whnf))
      | (refine Exists.intro _ (And.intro (by with_reducible rfl) ?_); (conv => whnf))
      | (refine Exists.intro _ (And.intro (cast_succ _) ?_); (conv => whnf))
      | (refine Exists.intro _ (And.intro (by assumption) ?_); (conv => whnf))
      | (refine Exists.intro _ (And.intro (Int.toNat_of_nonneg ?_).symm ?_); (omega); (conv => whnf))
      | (refine Exists.intro _ (And.intro rfl ?_); (conv => whnf))
      | (intro h; (try simp only [decide_eq_true_eq, decide_eq_false_iff_not, Bool.not_eq_true', Bool.not_eq_false', Bool.not_true, Bool.not_false] at h); first | (exfalso; omega) | (cases h; done) | (conv => whnf)))
    refine ⟨ops[k].cells, ⟨rfl, fun j v hj => by obtain ⟨g, h1, h2⟩ := hF j v hj; exact ⟨g, List.mem_append_right _ h1, h2⟩⟩, ?_⟩
    conv => whnf
    repeat' (first
      | (refine And.intro (by first | exact trivial | exact And.intro rfl trivial | exact And.intro rfl (And.intro rfl trivial) | exact And.intro rfl (And.intro rfl (And.intro rfl trivial))) (And.intro (fun _ h => h) ?_); (conv => whnf))
      | (refine And.intro (by first | exact trivial | exact And.intro rfl trivial | exact And.intro rfl (And.intro rfl trivial) | exact And.intro rfl (And.intro rfl (And.intro rfl trivial))) (And.intro (fun _ h => List.mem_cons_of_mem _ h) ?_); (conv => whnf))
      | (refine And.intro (by first | exact trivial | exact And.intro rfl trivial | exact And.intro rfl (And.intro rfl trivial) | exact And.intro rfl (And.intro rfl (And.intro rfl trivial))) (And.intro (fun _ h => List.mem_append_right _ h) ?_); (conv => whnf))
      | (refine And.intro (fun h => ?_) (fun h => ?_) <;> (try simp only [decide_eq_true_eq, decide_eq_false_iff_not, Bool.not_eq_true', Bool.not_eq_false', Bool.not_true, Bool.not_false] at h) <;> first | (exfalso; omega) | (cases h; done) | (conv => whnf))
      | (refine And.intro ?_ ?_; (omega); (conv => whnf))
      | (refine Exists.intro _ (And.intro (And.intro rfl rfl) ?_); (conv => whnf))
      | (refine Exists.intro ?w (And.intro (Pl.den ?p) ?k); (case p => repeat constructor); (conv => whnf))
      | (refine Exists.intro _ (And.intro (by with_reducible rfl) ?_); (conv => whnf))
      | (refine Exists.intro _ (And.intro (cast_succ _) ?_); (conv => whnf))
      | (refine Exists.intro _ (And.intro (by assumption) ?_); (conv => whnf))
      | (refine Exists.intro _ (And.intro (Int.toNat_of_nonneg ?_).symm ?_); (omega); (conv => whnf))
      | (refine Exists.intro _ (And.intro rfl ?_); (conv => whnf))
      | (intro h; (try simp only [decide_eq_true_eq, decide_eq_false_iff_not, Bool.not_eq_true', Bool.not_eq_false', Bool.not_true, Bool.not_false] at h); first | (exfalso; omega) | (cases h; done) | (conv => whnf)))
    refine Tri.use (tDoT (gs ++ fx) (gs ++ fx) d hd ops[k] hok1 hsm (fun f hf => hf)) [0,1] rfl (args_ren rfl rfl) ⟨OSub.ren rfl rfl, OSub.ren rfl rfl, trivial⟩ (fun f hf => by first | exact hf | cases hf | simp_all) (fun u hu => ?_)
    obtain ⟨g1, v1⟩ := u
    generalize d.play ops[k] = d1 at hd1 hdl1 v1
    cases v1 with
    | zero h0 =>
      conv => whnf
      refine appFK_intro ?_
      conv => whnf
      repeat' (first
        | (refine And.intro (by first | exact trivial | exact And.intro rfl trivial | exact And.intro rfl (And.intro rfl trivial) | exact And.intro rfl (And.intro rfl (And.intro rfl trivial))) (And.intro (fun _ h => h) ?_); (conv => whnf))
        | (refine And.intro (by first | exact trivial | exact And.intro rfl trivial | exact And.intro rfl (And.intro rfl trivial) | exact And.intro rfl (And.intro rfl (And.intro rfl trivial))) (And.intro (fun _ h => List.mem_cons_of_mem _ h) ?_); (conv => whnf))
        | (refine And.intro (by first | exact trivial | exact And.intro rfl trivial | exact And.intro rfl (And.intro rfl trivial) | exact And.intro rfl (And.intro rfl (And.intro rfl trivial))) (And.intro (fun _ h => List.mem_append_right _ h) ?_); (conv => whnf))
        | (refine And.intro (fun h => ?_) (fun h => ?_) <;> (try simp only [decide_eq_true_eq, decide_eq_false_iff_not, Bool.not_eq_true', Bool.not_eq_false', Bool.not_true, Bool.not_false] at h) <;> first | (exfalso; omega) | (cases h; done) | (conv => whnf))
        | (refine And.intro ?_ ?_; (omega); (conv => whnf))
        | (refine Exists.intro _ (And.intro (And.intro rfl rfl) ?_); (conv => whnf))
        | (refine Exists.intro ?w (And.intro (Pl.den ?p) ?k); (case p => repeat constructor); (conv => whnf))
        | (refine Exists.intro _ (And.intro (by with_reducible rfl) ?_); (conv => whnf))
        | (refine Exists.intro _ (And.intro (cast_succ _) ?_); (conv => whnf))
        | (refine Exists.intro _ (And.intro (by assumption) ?_); (conv => whnf))
        | (refine Exists.intro _ (And.intro (Int.toNat_of_nonneg ?_).symm ?_); (omega); (conv => whnf))
        | (refine Exists.intro _ (And.intro rfl ?_); (conv => whnf))
        | (intro h; (try simp only [decide_eq_true_eq, decide_eq_false_iff_not, Bool.not_eq_true', Bool.not_eq_false', Bool.not_true, Bool.not_false] at h); first | (exfalso; omega) | (cases h; done) | (conv => whnf)))
      refine And.intro ?_ ?_
      · conv => whnf
        repeat' (first
          | (refine And.intro (by first | exact trivial | exact And.intro rfl trivial | exact And.intro rfl (And.intro rfl trivial) | exact And.intro rfl (And.intro rfl (And.intro rfl trivial))) (And.intro (fun _ h => h) ?_); (conv => whnf))
          | (refine And.intro (by first | exact trivial | exact And.intro rfl trivial | exact And.intro rfl (And.intro rfl trivial) | exact And.intro rfl (And.intro rfl (And.intro rfl trivial))) (And.intro (fun _ h => List.mem_cons_of_mem _ h) ?_); (conv => whnf))
          | (refine And.intro (by first | exact trivial | exact And.intro rfl trivial | exact And.intro rfl (And.intro rfl trivial) | exact And.intro rfl (And.intro rfl (And.intro rfl trivial))) (And.intro (fun _ h => List.mem_append_right _ h) ?_); (conv => whnf))
          | (refine And.intro (fun h => ?_) (fun h => ?_) <;> (try simp only [decide_eq_true_eq, decide_eq_false_iff_not, Bool.not_eq_true', Bool.not_eq_false', Bool.not_true, Bool.not_false] at h) <;> first | (exfalso; omega) | (cases h; done) | (conv => whnf))
          | (refine And.intro ?_ ?_; (omega); (conv => whnf))
          | (refine Exists.intro _ (And.intro (And.intro rfl rfl) ?_); (conv => whnf))
          | (refine Exists.intro ?w (And.intro (Pl.den ?p) ?k); (case p => repeat constructor); (conv => whnf))
          | (refine Exists.intro _ (And.intro (by with_reducible rfl) ?_); (conv => whnf))
          | (refine Exists.intro _ (And.intro (cast_succ _) ?_); (conv => whnf))
          | (refine Exists.intro _ (And.intro (by assumption) ?_); (conv => whnf))
          | (refine Exists.intro _ (And.intro (Int.toNat_of_nonneg ?_).symm ?_); (omega); (conv => whnf))
          | (refine Exists.intro _ (And.intro rfl ?_); (conv => whnf))
          | (intro h; (try simp only [decide_eq_true_eq, decide_eq_false_iff_not, Bool.not_eq_true', Bool.not_eq_false', Bool.not_true, Bool.not_false] at h); first | (exfalso; omega) | (cases h; done) | (conv => whnf)))
        refine Tri.use (tDown (g1 ++ (gs ++ fx)) d1) [0] rfl (args_ren rfl rfl) ⟨OSub.ren rfl rfl, trivial⟩ (fun f hf => by first | exact hf | cases hf | simp_all) (fun u hu => ?_)
        conv => whnf
        repeat' (first
          | (refine And.intro (by first | exact trivial | exact And.intro rfl trivial | exact And.intro rfl (And.intro rfl trivial) | exact And.intro rfl (And.intro rfl (And.intro rfl trivial))) (And.intro (fun _ h => h) ?_); (conv => whnf))
          | (refine And.intro (by first | exact trivial | exact And.intro rfl trivial | exact And.intro rfl (And.intro rfl trivial) | exact And.intro rfl (And.intro rfl (And.intro rfl trivial))) (And.intro (fun _ h => List.mem_cons_of_mem _ h) ?_); (conv => whnf))
          | (refine And.intro (by first | exact trivial | exact And.intro rfl trivial | exact And.intro rfl (And.intro rfl trivial) | exact And.intro rfl (And.intro rfl (And.intro rfl trivial))) (And.intro (fun _ h => List.mem_append_right _ h) ?_); (conv => whnf))
          | (refine And.intro (fun h => ?_) (fun h => ?_) <;> (try simp only [decide_eq_true_eq, decide_eq_false_iff_not, Bool.not_eq_true', Bool.not_eq_false', Bool.not_true, Bool.not_false] at h) <;> first | (exfalso; omega) | (cases h; done) | (conv => whnf))
          | (refine And.intro ?_ ?_; (omega); (conv => whnf))
          | (refine Exists.intro _ (And.intro (And.intro rfl rfl) ?_); (conv => whnf))
          | (refine Exists.intro ?w (And.intro (Pl.den ?p) ?k); (case p => repeat constructor); (conv => whnf))
          | (refine Exists.intro _ (And.intro (by with_reducible rfl) ?_); (conv => whnf))
          | (refine Exists.intro _ (And.intro (cast_succ _) ?_); (conv => whnf))
          | (refine Exists.intro _ (And.intro (by assumption) ?_); (conv => whnf))
          | (refine Exists.intro _ (And.intro (Int.toNat_of_nonneg ?_).symm ?_); (omega); (conv => whnf))
          | (refine Exists.intro _ (And.intro rfl ?_); (conv => whnf))
          | (intro h; (try simp only [decide_eq_true_eq, decide_eq_false_iff_not, Bool.not_eq_true', Bool.not_eq_false', Bool.not_true, Bool.not_false] at h); first | (exfalso; omega) | (cases h; done) | (conv => whnf)))
        · exact absurd h (by simp)
        refine loop_fold tok (α := Nat × List Fact) (fun x => match x with | (s, g) => ⟨[(1, .v (.slice (some ad) ops.length cap)), (5, .v (.int .i64 N)), (6, .p 0 0), (8, .p 1 0), (9, .v (.int .i64 k)), (10, .v (.int .i64 ((s : Int) - 1)))], [dsk 0 d1, ref 1 (g ++ fx) d1], 2, g ++ fx⟩)
          (fun x => x.1 ≤ N + 2) (fun x => N + 2 - x.1) (0, g1 ++ gs) [0, 1] [dsk 0 d1, ref 1 ((g1 ++ gs) ++ fx) d1] (Nat.zero_le _) ⟨(ref_zero (σ := [1]) (fx := (g1 ++ gs) ++ fx) (d := d1) (by repeat first | exact List.mem_cons_self .. | apply List.mem_cons_of_mem) h0 (fun ρ => rfl)).trans (Fold.drop2 (List.mem_cons_of_mem _ (mem_restH (by repeat first | exact List.mem_cons_self .. | apply List.mem_cons_of_mem) rfl)) (List.mem_cons_self ..)), rfl, ⟨fun _ _ _ => rfl, fun _ _ _ => rfl, SEq.ren rfl rfl, SEq.ren rfl rfl, fun _ _ _ => rfl, fun _ _ _ => rfl, trivial⟩, ⟨OSub.ren rfl rfl, OSub.ren rfl rfl, trivial⟩, fun f hf => by have hf : f ∈ (g1 ++ gs) ++ fx := hf; rw [List.append_assoc] at hf; exact hf⟩ ?_
        rintro ⟨s, g⟩ hs
        simp only at hs
        conv => whnf
        repeat' (first
          | (refine And.intro (by first | exact trivial | exact And.intro rfl trivial | exact And.intro rfl (And.intro rfl trivial) | exact And.intro rfl (And.intro rfl (And.intro rfl trivial))) (And.intro (fun _ h => h) ?_); (conv => whnf))
          | (refine And.intro (by first | exact trivial | exact And.intro rfl trivial | exact And.intro rfl (And.intro rfl trivial) | exact And.intro rfl (And.intro rfl (And.intro rfl trivial))) (And.intro (fun _ h => List.mem_cons_of_mem _ h) ?_); (conv => whnf))
          | (refine And.intro (by first | exact trivial | exact And.intro rfl trivial | exact And.intro rfl (And.intro rfl trivial) | exact And.intro rfl (And.intro rfl (And.intro rfl trivial))) (And.intro (fun _ h => List.mem_append_right _ h) ?_); (conv => whnf))
          | (refine And.intro (fun h => ?_) (fun h => ?_) <;> (try simp only [decide_eq_true_eq, decide_eq_false_iff_not, Bool.not_eq_true', Bool.not_eq_false', Bool.not_true, Bool.not_false] at h) <;> first | (exfalso; omega) | (cases h; done) | (conv => whnf))
          | (refine And.intro ?_ ?_; (omega); (conv => whnf))
          | (refine Exists.intro _ (And.intro (And.intro rfl rfl) ?_); (conv => whnf))
          | (refine Exists.intro ?w (And.intro (Pl.den ?p) ?k); (case p => repeat constructor); (conv => whnf))
          | (refine Exists.intro _ (And.intro (by with_reducible rfl) ?_); (conv => whnf))
          | (refine Exists.intro _ (And.intro (cast_succ _) ?_); (conv => whnf))
          | (refine Exists.intro _ (And.intro (by assumption) ?_); (conv => whnf))
          | (refine Exists.intro _ (And.intro (Int.toNat_of_nonneg ?_).symm ?_); (omega); (conv => whnf))
          | (refine Exists.intro _ (And.intro rfl ?_); (conv => whnf))
          | (intro h; (try simp only [decide_eq_true_eq, decide_eq_false_iff_not, Bool.not_eq_true', Bool.not_eq_false', Bool.not_true, Bool.not_false] at h); first | (exfalso; omega) | (cases h; done) | (conv => whnf)))
        · have hpl : d1.play (readOp ((s : Int) - 1)) = d1 := play5 (by simp [readOp]) (by simp [readOp]) (by simp [readOp]) (by simp [readOp])
          have tI := tDo (g ++ fx) (g ++ fx) d1 hd1 (readOp ((s : Int) - 1)) (readOp_ok (by omega)) readOp_small (fun f hf => hf)
          rw [hpl] at tI
          refine Tri.use tI [0, 1] rfl (args_cons (SEq.ren rfl rfl) (args_cons (SEq.ren rfl rfl) (fun _ _ _ => rfl))) ⟨OSub.ren rfl rfl, OSub.ren rfl rfl, trivial⟩ (fun f hf => hf) fun u hu => ?_
          conv => whnf
          refine appFK_intro ?_
          conv => whnf
          repeat' (first
            | (refine And.intro (by first | exact trivial | exact And.intro rfl trivial | exact And.intro rfl (And.intro rfl trivial) | exact And.intro rfl (And.intro rfl (And.intro rfl trivial))) (And.intro (fun _ h => h) ?_); (conv => whnf))
            | (refine And.intro (by first | exact trivial | exact And.intro rfl trivial | exact And.intro rfl (And.intro rfl trivial) | exact And.intro rfl (And.intro rfl (And.intro rfl trivial))) (And.intro (fun _ h => List.mem_cons_of_mem _ h) ?_); (conv => whnf))
            | (refine And.intro (by first | exact trivial | exact And.intro rfl trivial | exact And.intro rfl (And.intro rfl trivial) | exact And.intro rfl (And.intro rfl (And.intro rfl trivial))) (And.intro (fun _ h => List.mem_append_right _ h) ?_); (conv => whnf))
            | (refine And.intro (fun h => ?_) (fun h => ?_) <;> (try simp only [decide_eq_true_eq, decide_eq_false_iff_not, Bool.not_eq_true', Bool.not_eq_false', Bool.not_true, Bool.not_false] at h) <;> first | (exfalso; omega) | (cases h; done) | (conv => whnf))
            | (refine And.intro ?_ ?_; (omega); (conv => whnf))
            | (refine Exists.intro _ (And.intro (And.intro rfl rfl) ?_); (conv => whnf))
            | (refine Exists.intro ?w (And.intro (Pl.den ?p) ?k); (case p => repeat constructor); (conv => whnf))
            | (refine Exists.intro _ (And.intro (by with_reducible rfl) ?_); (conv => whnf))
            | (refine Exists.intro _ (And.intro (cast_succ _) ?_); (conv => whnf))
            | (refine Exists.intro _ (And.intro (by assumption) ?_); (conv => whnf))
            | (refine Exists.intro _ (And.intro (Int.toNat_of_nonneg ?_).symm ?_); (omega); (conv => whnf))
            | (refine Exists.intro _ (And.intro rfl ?_); (conv => whnf))
            | (intro h; (try simp only [decide_eq_true_eq, decide_eq_false_iff_not, Bool.not_eq_true', Bool.not_eq_false', Bool.not_true, Bool.not_false] at h); first | (exfalso; omega) | (cases h; done) | (conv => whnf)))
          refine ⟨(s + 1, u ++ g), [0, 1], _, ⟨by simp only; omega, by simp only; omega⟩, Fold.refl _, rfl, ⟨fun _ _ _ => rfl, fun _ _ _ => rfl, SEq.ren rfl rfl, SEq.ren rfl rfl, fun _ _ _ => rfl, SEq.eq (congrArg (Value.int .i64) (show ((s + 1 : Nat) : Int) - 1 = (s : Int) - 1 + 1 by omega)), trivial⟩, ⟨OSub.ren rfl rfl, OSub.ren rfl (by rw [List.append_assoc]; rfl), trivial⟩, fun f hf => by have hf : f ∈ (u ++ g) ++ fx := hf; rw [List.append_assoc] at hf; exact hf⟩
        · refine ⟨⟨k + 1, d1, g⟩, [0, 1], ⟨⟨by simp only; omega, hd1, hdl1⟩, by simp only; omega⟩, rfl, ⟨fun _ _ _ => rfl, fun _ _ _ => rfl, SEq.ren rfl rfl, SEq.ren rfl rfl, SEq.eq rfl, trivial⟩, ⟨OSub.ren rfl rfl, OSub.ren rfl rfl, trivial⟩, fun f hf => hf⟩
      · conv => whnf
        repeat' (first
          | (refine And.intro (by first | exact trivial | exact And.intro rfl trivial | exact And.intro rfl (And.intro rfl trivial) | exact And.intro rfl (And.intro rfl (And.intro rfl trivial))) (And.intro (fun _ h => h) ?_); (conv => whnf))
          | (refine And.intro (by first | exact trivial | exact And.intro rfl trivial | exact And.intro rfl (And.intro rfl trivial) | exact And.intro rfl (And.intro rfl (And.intro rfl trivial))) (And.intro (fun _ h => List.mem_cons_of_mem _ h) ?_); (conv => whnf))
          | (refine And.intro (by first | exact trivial | exact And.intro rfl trivial | exact And.intro rfl (And.intro rfl trivial) | exact And.intro rfl (And.intro rfl (And.intro rfl trivial))) (And.intro (fun _ h => List.mem_append_right _ h) ?_); (conv => whnf))
          | (refine And.intro (fun h => ?_) (fun h => ?_) <;> (try simp only [decide_eq_true_eq, decide_eq_false_iff_not, Bool.not_eq_true', Bool.not_eq_false', Bool.not_true, Bool.not_false] at h) <;> first | (exfalso; omega) | (cases h; done) | (conv => whnf))
          | (refine And.intro ?_ ?_; (omega); (conv => whnf))
          | (refine Exists.intro _ (And.intro (And.intro rfl rfl) ?_); (conv => whnf))
          | (refine Exists.intro ?w (And.intro (Pl.den ?p) ?k); (case p => repeat constructor); (conv => whnf))
          | (refine Exists.intro _ (And.intro (by with_reducible rfl) ?_); (conv => whnf))
          | (refine Exists.intro _ (And.intro (cast_succ _) ?_); (conv => whnf))
          | (refine Exists.intro _ (And.intro (by assumption) ?_); (conv => whnf))
          | (refine Exists.intro _ (And.intro (Int.toNat_of_nonneg ?_).symm ?_); (omega); (conv => whnf))
          | (refine Exists.intro _ (And.intro rfl ?_); (conv => whnf))
          | (intro h; (try simp only [decide_eq_true_eq, decide_eq_false_iff_not, Bool.not_eq_true', Bool.not_eq_false', Bool.not_true, Bool.not_false] at h); first | (exfalso; omega) | (cases h; done) | (conv => whnf)))
        refine Tri.use (tDown (g1 ++ (gs ++ fx)) d1) [0] rfl (args_ren rfl rfl) ⟨OSub.ren rfl rfl, trivial⟩ (fun f hf => by first | exact hf | cases hf | simp_all) (fun u hu => ?_)
        conv => whnf
        repeat' (first
          | (refine And.intro (by first | exact trivial | exact And.intro rfl trivial | exact And.intro rfl (And.intro rfl trivial) | exact And.intro rfl (And.intro rfl (And.intro rfl trivial))) (And.intro (fun _ h => h) ?_); (conv => whnf))
          | (refine And.intro (by first | exact trivial | exact And.intro rfl trivial | exact And.intro rfl (And.intro rfl trivial) | exact And.intro rfl (And.intro rfl (And.intro rfl trivial))) (And.intro (fun _ h => List.mem_cons_of_mem _ h) ?_); (conv => whnf))
          | (refine And.intro (by first | exact trivial | exact And.intro rfl trivial | exact And.intro rfl (And.intro rfl trivial) | exact And.intro rfl (And.intro rfl (And.intro rfl trivial))) (And.intro (fun _ h => List.mem_append_right _ h) ?_); (conv => whnf))
          | (refine And.intro (fun h => ?_) (fun h => ?_) <;> (try simp only [decide_eq_true_eq, decide_eq_false_iff_not, Bool.not_eq_true', Bool.not_eq_false', Bool.not_true, Bool.not_false] at h) <;> first | (exfalso; omega) | (cases h; done) | (conv => whnf))
          | (refine And.intro ?_ ?_; (omega); (conv => whnf))
          | (refine Exists.intro _ (And.intro (And.intro rfl rfl) ?_); (conv => whnf))
          | (refine Exists.intro ?w (And.intro (Pl.den ?p) ?k); (case p => repeat constructor); (conv => whnf))
          | (refine Exists.intro _ (And.intro (by with_reducible rfl) ?_); (conv => whnf))
          | (refine Exists.intro _ (And.intro (cast_succ _) ?_); (conv => whnf))
          | (refine Exists.intro _ (And.intro (by assumption) ?_); (conv => whnf))
          | (refine Exists.intro _ (And.intro (Int.toNat_of_nonneg ?_).symm ?_); (omega); (conv => whnf))
          | (refine Exists.intro _ (And.intro rfl ?_); (conv => whnf))
          | (intro h; (try simp only [decide_eq_true_eq, decide_eq_false_iff_not, Bool.not_eq_true', Bool.not_eq_false', Bool.not_true, Bool.not_false] at h); first | (exfalso; omega) | (cases h; done) | (conv => whnf)))
        · exact absurd h (by simp)
        refine loop_fold tok (α := Nat × List Fact) (fun x => match x with | (s, g) => ⟨[(1, .v (.slice (some ad) ops.length cap)), (5, .v (.int .i64 N)), (6, .p 0 0), (8, .p 1 0), (9, .v (.int .i64 k)), (10, .v (.int .i64 ((s : Int) - 1)))], [dsk 0 d1, ref 1 (g ++ fx) d1], 2, g ++ fx⟩)
          (fun x => x.1 ≤ N + 2) (fun x => N + 2 - x.1) (0, g1 ++ gs) [0, 1] [dsk 0 d1, ref 1 ((g1 ++ gs) ++ fx) d1] (Nat.zero_le _) ⟨(ref_zero (σ := [1]) (fx := (g1 ++ gs) ++ fx) (d := d1) (by repeat first | exact List.mem_cons_self .. | apply List.mem_cons_of_mem) h0 (fun ρ => rfl)).trans (Fold.drop2 (List.mem_cons_of_mem _ (mem_restH (by repeat first | exact List.mem_cons_self .. | apply List.mem_cons_of_mem) rfl)) (List.mem_cons_self ..)), rfl, ⟨fun _ _ _ => rfl, fun _ _ _ => rfl, SEq.ren rfl rfl, SEq.ren rfl rfl, fun _ _ _ => rfl, fun _ _ _ => rfl, trivial⟩, ⟨OSub.ren rfl rfl, OSub.ren rfl rfl, trivial⟩, fun f hf => by have hf : f ∈ (g1 ++ gs) ++ fx := hf; rw [List.append_assoc] at hf; exact hf⟩ ?_
        rintro ⟨s, g⟩ hs
        simp only at hs
        conv => whnf
        repeat' (first
          | (refine And.intro (by first | exact trivial | exact And.intro rfl trivial | exact And.intro rfl (And.intro rfl trivial) | exact And.intro rfl (And.intro rfl (And.intro rfl trivial))) (And.intro (fun _ h => h) ?_); (conv => whnf))
          | (refine And.intro (by first | exact trivial | exact And.intro rfl trivial | exact And.intro rfl (And.intro rfl trivial) | exact And.intro rfl (And.intro rfl (And.intro rfl trivial))) (And.intro (fun _ h => List.mem_cons_of_mem _ h) ?_); (conv => whnf))
          | (refine And.intro (by first | exact trivial | exact And.intro rfl trivial | exact And.intro rfl (And.intro rfl trivial) | exact And.intro rfl (And.intro rfl (And.intro rfl trivial))) (And.intro (fun _ h => List.mem_append_right _ h) ?_); (conv => whnf))
          | (refine And.intro (fun h => ?_) (fun h => ?_) <;> (try simp only [decide_eq_true_eq, decide_eq_false_iff_not, Bool.not_eq_true', Bool.not_eq_false', Bool.not_true, Bool.not_false] at h) <;> first | (exfalso; omega) | (cases h; done) | (conv => whnf))
          | (refine And.intro ?_ ?_; (omega); (conv => whnf))
          | (refine Exists.intro _ (And.intro (And.intro rfl rfl) ?_); (conv => whnf))
          | (refine Exists.intro ?w (And.intro (Pl.den ?p) ?k); (case p => repeat constructor); (conv => whnf))
          | (refine Exists.intro _ (And.intro (by with_reducible rfl) ?_); (conv => whnf))
          | (refine Exists.intro _ (And.intro (cast_succ _) ?_); (conv => whnf))
          | (refine Exists.intro _ (And.intro (by assumption) ?_); (conv => whnf))
          | (refine Exists.intro _ (And.intro (Int.toNat_of_nonneg ?_).symm ?_); (omega); (conv => whnf))
          | (refine Exists.intro _ (And.intro rfl ?_); (conv => whnf))
          | (intro h; (try simp only [decide_eq_true_eq, decide_eq_false_iff_not, Bool.not_eq_true', Bool.not_eq_false', Bool.not_true, Bool.not_false] at h); first | (exfalso; omega) | (cases h; done) | (conv => whnf)))
        · have hpl : d1.play (readOp ((s : Int) - 1)) = d1 := play5 (by simp [readOp]) (by simp [readOp]) (by simp [readOp]) (by simp [readOp])
          have tI := tDo (g ++ fx) (g ++ fx) d1 hd1 (readOp ((s : Int) - 1)) (readOp_ok (by omega)) readOp_small (fun f hf => hf)
          rw [hpl] at tI
          refine Tri.use tI [0, 1] rfl (args_cons (SEq.ren rfl rfl) (args_cons (SEq.ren rfl rfl) (fun _ _ _ => rfl))) ⟨OSub.ren rfl rfl, OSub.ren rfl rfl, trivial⟩ (fun f hf => hf) fun u hu => ?_
          conv => whnf
          refine appFK_intro ?_
          conv => whnf
          repeat' (first
            | (refine And.intro (by first | exact trivial | exact And.intro rfl trivial | exact And.intro rfl (And.intro rfl trivial) | exact And.intro rfl (And.intro rfl (And.intro rfl trivial))) (And.intro (fun _ h => h) ?_); (conv => whnf))
            | (refine And.intro (by first | exact trivial | exact And.intro rfl trivial | exact And.intro rfl (And.intro rfl trivial) | exact And.intro rfl (And.intro rfl (And.intro rfl trivial))) (And.intro (fun _ h => List.mem_cons_of_mem _ h) ?_); (conv => whnf))
            | (refine And.intro (by first | exact trivial | exact And.intro rfl trivial | exact And.intro rfl (And.intro rfl trivial) | exact And.intro rfl (And.intro rfl (And.intro rfl trivial))) (And.intro (fun _ h => List.mem_append_right _ h) ?_); (conv => whnf))
            | (refine And.intro (fun h => ?_) (fun h => ?_) <;> (try simp only [decide_eq_true_eq, decide_eq_false_iff_not, Bool.not_eq_true', Bool.not_eq_false', Bool.not_true, Bool.not_false] at h) <;> first | (exfalso; omega) | (cases h; done) | (conv => whnf))
            | (refine And.intro ?_ ?_; (omega); (conv => whnf))
            | (refine Exists.intro _ (And.intro (And.intro rfl rfl) ?_); (conv => whnf))
            | (refine Exists.intro ?w (And.intro (Pl.den ?p) ?k); (case p => repeat constructor); (conv => whnf))
            | (refine Exists.intro _ (And.intro (by with_reducible rfl) ?_); (conv => whnf))
            | (refine Exists.intro _ (And.intro (cast_succ _) ?_); (conv => whnf))
            | (refine Exists.intro _ (And.intro (by assumption) ?_); (conv => whnf))
            | (refine Exists.intro _ (And.intro (Int.toNat_of_nonneg ?_).symm ?_); (omega); (conv => whnf))
            | (refine Exists.intro _ (And.intro rfl ?_); (conv => whnf))
            | (intro h; (try simp only [decide_eq_true_eq, decide_eq_false_iff_not, Bool.not_eq_true', Bool.not_eq_false', Bool.not_true, Bool.not_false] at h); first | (exfalso; omega) | (cases h; done) | (conv => whnf)))
          refine ⟨(s + 1, u ++ g), [0, 1], _, ⟨by simp only; omega, by simp only; omega⟩, Fold.refl _, rfl, ⟨fun _ _ _ => rfl, fun _ _ _ => rfl, SEq.ren rfl rfl, SEq.ren rfl rfl, fun _ _ _ => rfl, SEq.eq (congrArg (Value.int .i64) (show ((s + 1 : Nat) : Int) - 1 = (s : Int) - 1 + 1 by omega)), trivial⟩, ⟨OSub.ren rfl rfl, OSub.ren rfl (by rw [List.append_assoc]; rfl), trivial⟩, fun f hf => by have hf : f ∈ (u ++ g) ++ fx := hf; rw [List.append_assoc] at hf; exact hf⟩
        · refine ⟨⟨k + 1, d1, g⟩, [0, 1], ⟨⟨by simp only; omega, hd1, hdl1⟩, by simp only; omega⟩, rfl, ⟨fun _ _ _ => rfl, fun _ _ _ => rfl, SEq.ren rfl rfl, SEq.ren rfl rfl, SEq.eq rfl, trivial⟩, ⟨OSub.ren rfl rfl, OSub.ren rfl rfl, trivial⟩, fun f hf => hf⟩
    | rows ls ns hR =>
      conv => whnf
      refine appFK_intro ?_
      conv => whnf
      repeat' (first
        | (refine And.intro (by first | exact trivial | exact And.intro rfl trivial | exact And.intro rfl (And.intro rfl trivial) | exact And.intro rfl (And.intro rfl (And.intro rfl trivial))) (And.intro (fun _ h => h) ?_); (conv => whnf))
        | (refine And.intro (by first | exact trivial | exact And.intro rfl trivial | exact And.intro rfl (And.intro rfl trivial) | exact And.intro rfl (And.intro rfl (And.intro rfl trivial))) (And.intro (fun _ h => List.mem_cons_of_mem _ h) ?_); (conv => whnf))
        | (refine And.intro (by first | exact trivial | exact And.intro rfl trivial | exact And.intro rfl (And.intro rfl trivial) | exact And.intro rfl (And.intro rfl (And.intro rfl trivial))) (And.intro (fun _ h => List.mem_append_right _ h) ?_); (conv => whnf))
        | (refine And.intro (fun h => ?_) (fun h => ?_) <;> (try simp only [decide_eq_true_eq, decide_eq_false_iff_not, Bool.not_eq_true', Bool.not_eq_false', Bool.not_true, Bool.not_false] at h) <;> first | (exfalso; omega) | (cases h; done) | (conv => whnf))
        | (refine And.intro ?_ ?_; (omega); (conv => whnf))
        | (refine Exists.intro _ (And.intro (And.intro rfl rfl) ?_); (conv => whnf))
        | (refine Exists.intro ?w (And.intro (Pl.den ?p) ?k); (case p => repeat constructor); (conv => whnf))
        | (refine Exists.intro _ (And.intro (by with_reducible rfl) ?_); (conv => whnf))
        | (refine Exists.intro _ (And.intro (cast_succ _) ?_); (conv => whnf))
        | (refine Exists.intro _ (And.intro (by assumption) ?_); (conv => whnf))
        | (refine Exists.intro _ (And.intro (Int.toNat_of_nonneg ?_).symm ?_); (omega); (conv => whnf))
        | (refine Exists.intro _ (And.intro rfl ?_); (conv => whnf))
        | (intro h; (try simp only [decide_eq_true_eq, decide_eq_false_iff_not, Bool.not_eq_true', Bool.not_eq_false', Bool.not_true, Bool.not_false] at h); first | (exfalso; omega) | (cases h; done) | (conv => whnf)))
      refine And.intro ?_ ?_
      · conv => whnf
        repeat' (first
          | (refine And.intro (by first | exact trivial | exact And.intro rfl trivial | exact And.intro rfl (And.intro rfl trivial) | exact And.intro rfl (And.intro rfl (And.intro rfl trivial))) (And.intro (fun _ h => h) ?_); (conv => whnf))
          | (refine And.intro (by first | exact trivial | exact And.intro rfl trivial | exact And.intro rfl (And.intro rfl trivial) | exact And.intro rfl (And.intro rfl (And.intro rfl trivial))) (And.intro (fun _ h => List.mem_cons_of_mem _ h) ?_); (conv => whnf))
          | (refine And.intro (by first | exact trivial | exact And.intro rfl trivial | exact And.intro rfl (And.intro rfl trivial) | exact And.intro rfl (And.intro rfl (And.intro rfl trivial))) (And.intro (fun _ h => List.mem_append_right _ h) ?_); (conv => whnf))
          | (refine And.intro (fun h => ?_) (fun h => ?_) <;> (try simp only [decide_eq_true_eq, decide_eq_false_iff_not, Bool.not_eq_true', Bool.not_eq_false', Bool.not_true, Bool.not_false] at h) <;> first | (exfalso; omega) | (cases h; done) | (conv => whnf))
          | (refine And.intro ?_ ?_; (omega); (conv => whnf))
          | (refine Exists.intro _ (And.intro (And.intro rfl rfl) ?_); (conv => whnf))
          | (refine Exists.intro ?w (And.intro (Pl.den ?p) ?k); (case p => repeat constructor); (conv => whnf))
          | (refine Exists.intro _ (And.intro (by with_reducible rfl) ?_); (conv => whnf))
          | (refine Exists.intro _ (And.intro (cast_succ _) ?_); (conv => whnf))
          | (refine Exists.intro _ (And.intro (by assumption) ?_); (conv => whnf))
          | (refine Exists.intro _ (And.intro (Int.toNat_of_nonneg ?_).symm ?_); (omega); (conv => whnf))
          | (refine Exists.intro _ (And.intro rfl ?_); (conv => whnf))
          | (intro h; (try simp only [decide_eq_true_eq, decide_eq_false_iff_not, Bool.not_eq_true', Bool.not_eq_false', Bool.not_true, Bool.not_false] at h); first | (exfalso; omega) | (cases h; done) | (conv => whnf)))
        refine Tri.use (tDown (g1 ++ (gs ++ fx)) d1) [0] rfl (args_ren rfl rfl) ⟨OSub.ren rfl rfl, trivial⟩ (fun f hf => by first | exact hf | cases hf | simp_all) (fun u hu => ?_)
        conv => whnf
        repeat' (first
          | (refine And.intro (by first | exact trivial | exact And.intro rfl trivial | exact And.intro rfl (And.intro rfl trivial) | exact And.intro rfl (And.intro rfl (And.intro rfl trivial))) (And.intro (fun _ h => h) ?_); (conv => whnf))
          | (refine And.intro (by first | exact trivial | exact And.intro rfl trivial | exact And.intro rfl (And.intro rfl trivial) | exact And.intro rfl (And.intro rfl (And.intro rfl trivial))) (And.intro (fun _ h => List.mem_cons_of_mem _ h) ?_); (conv => whnf))
          | (refine And.intro (by first | exact trivial | exact And.intro rfl trivial | exact And.intro rfl (And.intro rfl trivial) | exact And.intro rfl (And.intro rfl (And.intro rfl trivial))) (And.intro (fun _ h => List.mem_append_right _ h) ?_); (conv => whnf))
          | (refine And.intro (fun h => ?_) (fun h => ?_) <;> (try simp only [decide_eq_true_eq, decide_eq_false_iff_not, Bool.not_eq_true', Bool.not_eq_false', Bool.not_true, Bool.not_false] at h) <;> first | (exfalso; omega) | (cases h; done) | (conv => whnf))
          | (refine And.intro ?_ ?_; (omega); (conv => whnf))
          | (refine Exists.intro _ (And.intro (And.intro rfl rfl) ?_); (conv => whnf))
          | (refine Exists.intro ?w (And.intro (Pl.den ?p) ?k); (case p => repeat constructor); (conv => whnf))
          | (refine Exists.intro _ (And.intro (by with_reducible rfl) ?_); (conv => whnf))
          | (refine Exists.intro _ (And.intro (cast_succ _) ?_); (conv => whnf))
          | (refine Exists.intro _ (And.intro (by assumption) ?_); (conv => whnf))
          | (refine Exists.intro _ (And.intro (Int.toNat_of_nonneg ?_).symm ?_); (omega); (conv => whnf))
          | (refine Exists.intro _ (And.intro rfl ?_); (conv => whnf))
          | (intro h; (try simp only [decide_eq_true_eq, decide_eq_false_iff_not, Bool.not_eq_true', Bool.not_eq_false', Bool.not_true, Bool.not_false] at h); first | (exfalso; omega) | (cases h; done) | (conv => whnf)))
        · exact absurd h (by simp)
        refine loop_fold tok (α := Nat × List Fact) (fun x => match x with | (s, g) => ⟨[(1, .v (.slice (some ad) ops.length cap)), (5, .v (.int .i64 N)), (6, .p 0 0), (8, .p 1 0), (9, .v (.int .i64 k)), (10, .v (.int .i64 ((s : Int) - 1)))], [dsk 0 d1, ref 1 (g ++ fx) d1], 2, g ++ fx⟩)
          (fun x => x.1 ≤ N + 2) (fun x => N + 2 - x.1) (0, g1 ++ gs) [0, 1] [dsk 0 d1, ref 1 ((g1 ++ gs) ++ fx) d1] (Nat.zero_le _) ⟨(ref_rows (σ := [1, 2, 3]) (fx := (g1 ++ gs) ++ fx) (d := d1) (ls := ls) (ns := ns) (by repeat first | exact List.mem_cons_self .. | apply List.mem_cons_of_mem) (by repeat first | exact List.mem_cons_self .. | apply List.mem_cons_of_mem) (by repeat first | exact List.mem_cons_self .. | apply List.mem_cons_of_mem) rfl (by rw [List.append_assoc]; exact hR) (fun ρ => rfl)).trans (Fold.drop2 (List.mem_cons_of_mem _ (mem_restH (by repeat first | exact List.mem_cons_self .. | apply List.mem_cons_of_mem) rfl)) (List.mem_cons_self ..)), rfl, ⟨fun _ _ _ => rfl, fun _ _ _ => rfl, SEq.ren rfl rfl, SEq.ren rfl rfl, fun _ _ _ => rfl, fun _ _ _ => rfl, trivial⟩, ⟨OSub.ren rfl rfl, OSub.ren rfl rfl, trivial⟩, fun f hf => by have hf : f ∈ (g1 ++ gs) ++ fx := hf; rw [List.append_assoc] at hf; exact hf⟩ ?_
        rintro ⟨s, g⟩ hs
        simp only at hs
        conv => whnf
        repeat' (first
          | (refine And.intro (by first | exact trivial | exact And.intro rfl trivial | exact And.intro rfl (And.intro rfl trivial) | exact And.intro rfl (And.intro rfl (And.intro rfl trivial))) (And.intro (fun _ h => h) ?_); (conv => whnf))
          | (refine And.intro (by first | exact trivial | exact And.intro rfl trivial | exact And.intro rfl (And.intro rfl trivial) | exact And.intro rfl (And.intro rfl (And.intro rfl trivial))) (And.intro (fun _ h => List.mem_cons_of_mem _ h) ?_); (conv => whnf))
          | (refine And.intro (by first | exact trivial | exact And.intro rfl trivial | exact And.intro rfl (And.intro rfl trivial) | exact And.intro rfl (And.intro rfl (And.intro rfl trivial))) (And.intro (fun _ h => List.mem_append_right _ h) ?_); (conv => whnf))
          | (refine And.intro (fun h => ?_) (fun h => ?_) <;> (try simp only [decide_eq_true_eq, decide_eq_false_iff_not, Bool.not_eq_true', Bool.not_eq_false', Bool.not_true, Bool.not_false] at h) <;> first | (exfalso; omega) | (cases h; done) | (conv => whnf))
          | (refine And.intro ?_ ?_; (omega); (conv => whnf))
          | (refine Exists.intro _ (And.intro (And.intro rfl rfl) ?_); (conv => whnf))
          | (refine Exists.intro ?w (And.intro (Pl.den ?p) ?k); (case p => repeat constructor); (conv => whnf))
          | (refine Exists.intro _ (And.intro (by with_reducible rfl) ?_); (conv => whnf))
          | (refine Exists.intro _ (And.intro (cast_succ _) ?_); (conv => whnf))
          | (refine Exists.intro _ (And.intro (by assumption) ?_); (conv => whnf))
          | (refine Exists.intro _ (And.intro (Int.toNat_of_nonneg ?_).symm ?_); (omega); (conv => whnf))
          | (refine Exists.intro _ (And.intro rfl ?_); (conv => whnf))
          | (intro h; (try simp only [decide_eq_true_eq, decide_eq_false_iff_not, Bool.not_eq_true', Bool.not_eq_false', Bool.not_true, Bool.not_false] at h); first | (exfalso; omega) | (cases h; done) | (conv => whnf)))
        · have hpl : d1.play (readOp ((s : Int) - 1)) = d1 := play5 (by simp [readOp]) (by simp [readOp]) (by simp [readOp]) (by simp [readOp])
          have tI := tDo (g ++ fx) (g ++ fx) d1 hd1 (readOp ((s : Int) - 1)) (readOp_ok (by omega)) readOp_small (fun f hf => hf)
          rw [hpl] at tI
          refine Tri.use tI [0, 1] rfl (args_cons (SEq.ren rfl rfl) (args_cons (SEq.ren rfl rfl) (fun _ _ _ => rfl))) ⟨OSub.ren rfl rfl, OSub.ren rfl rfl, trivial⟩ (fun f hf => hf) fun u hu => ?_
          conv => whnf
          refine appFK_intro ?_
          conv => whnf
          repeat' (first
            | (refine And.intro (by first | exact trivial | exact And.intro rfl trivial | exact And.intro rfl (And.intro rfl trivial) | exact And.intro rfl (And.intro rfl (And.intro rfl trivial))) (And.intro (fun _ h => h) ?_); (conv => whnf))
            | (refine And.intro (by first | exact trivial | exact And.intro rfl trivial | exact And.intro rfl (And.intro rfl trivial) | exact And.intro rfl (And.intro rfl (And.intro rfl trivial))) (And.intro (fun _ h => List.mem_cons_of_mem _ h) ?_); (conv => whnf))
            | (refine And.intro (by first | exact trivial | exact And.intro rfl trivial | exact And.intro rfl (And.intro rfl trivial) | exact And.intro rfl (And.intro rfl (And.intro rfl trivial))) (And.intro (fun _ h => List.mem_append_right _ h) ?_); (conv => whnf))
            | (refine And.intro (fun h => ?_) (fun h => ?_) <;> (try simp only [decide_eq_true_eq, decide_eq_false_iff_not, Bool.not_eq_true', Bool.not_eq_false', Bool.not_true, Bool.not_false] at h) <;> first | (exfalso; omega) | (cases h; done) | (conv => whnf))
            | (refine And.intro ?_ ?_; (omega); (conv => whnf))
            | (refine Exists.intro _ (And.intro (And.intro rfl rfl) ?_); (conv => whnf))
            | (refine Exists.intro ?w (And.intro (Pl.den ?p) ?k); (case p => repeat constructor); (conv => whnf))
            | (refine Exists.intro _ (And.intro (by with_reducible rfl) ?_); (conv => whnf))
            | (refine Exists.intro _ (And.intro (cast_succ _) ?_); (conv => whnf))
            | (refine Exists.intro _ (And.intro (by assumption) ?_); (conv => whnf))
            | (refine Exists.intro _ (And.intro (Int.toNat_of_nonneg ?_).symm ?_); (omega); (conv => whnf))
            | (refine Exists.intro _ (And.intro rfl ?_); (conv => whnf))
            | (intro h; (try simp only [decide_eq_true_eq, decide_eq_false_iff_not, Bool.not_eq_true', Bool.not_eq_false', Bool.not_true, Bool.not_false] at h); first | (exfalso; omega) | (cases h; done) | (conv => whnf)))
          refine ⟨(s + 1, u ++ g), [0, 1], _, ⟨by simp only; omega, by simp only; omega⟩, Fold.refl _, rfl, ⟨fun _ _ _ => rfl, fun _ _ _ => rfl, SEq.ren rfl rfl, SEq.ren rfl rfl, fun _ _ _ => rfl, SEq.eq (congrArg (Value.int .i64) (show ((s + 1 : Nat) : Int) - 1 = (s : Int) - 1 + 1 by omega)), trivial⟩, ⟨OSub.ren rfl rfl, OSub.ren rfl (by rw [List.append_assoc]; rfl), trivial⟩, fun f hf => by have hf : f ∈ (u ++ g) ++ fx := hf; rw [List.append_assoc] at hf; exact hf⟩
        · refine ⟨⟨k + 1, d1, g⟩, [0, 1], ⟨⟨by simp only; omega, hd1, hdl1⟩, by simp only; omega⟩, rfl, ⟨fun _ _ _ => rfl, fun _ _ _ => rfl, SEq.ren rfl rfl, SEq.ren rfl rfl, SEq.eq rfl, trivial⟩, ⟨OSub.ren rfl rfl, OSub.ren rfl rfl, trivial⟩, fun f hf => hf⟩
      · conv => whnf
        repeat' (first
          | (refine And.intro (by first | exact trivial | exact And.intro rfl trivial | exact And.intro rfl (And.intro rfl trivial) | exact And.intro rfl (And.intro rfl (And.intro rfl trivial))) (And.intro (fun _ h => h) ?_); (conv => whnf))
          | (refine And.intro (by first | exact trivial | exact And.intro rfl trivial | exact And.intro rfl (And.intro rfl trivial) | exact And.intro rfl (And.intro rfl (And.intro rfl trivial))) (And.intro (fun _ h => List.mem_cons_of_mem _ h) ?_); (conv => whnf))
          | (refine And.intro (by first | exact trivial | exact And.intro rfl trivial | exact And.intro rfl (And.intro rfl trivial) | exact And.intro rfl (And.intro rfl (And.intro rfl trivial))) (And.intro (fun _ h => List.mem_append_right _ h) ?_); (conv => whnf))
          | (refine And.intro (fun h => ?_) (fun h => ?_) <;> (try simp only [decide_eq_true_eq, decide_eq_false_iff_not, Bool.not_eq_true', Bool.not_eq_false', Bool.not_true, Bool.not_false] at h) <;> first | (exfalso; omega) | (cases h; done) | (conv => whnf))
          | (refine And.intro ?_ ?_; (omega); (conv => whnf))
          | (refine Exists.intro _ (And.intro (And.intro rfl rfl) ?_); (conv => whnf))
          | (refine Exists.intro ?w (And.intro (Pl.den ?p) ?k); (case p => repeat constructor); (conv => whnf))
          | (refine Exists.intro _ (And.intro (by with_reducible rfl) ?_); (conv => whnf))
          | (refine Exists.intro _ (And.intro (cast_succ _) ?_); (conv => whnf))
          | (refine Exists.intro _ (And.intro (by assumption) ?_); (conv => whnf))
          | (refine Exists.intro _ (And.intro (Int.toNat_of_nonneg ?_).symm ?_); (omega); (conv => whnf))
          | (refine Exists.intro _ (And.intro rfl ?_); (conv => whnf))
          | (intro h; (try simp only [decide_eq_true_eq, decide_eq_false_iff_not, Bool.not_eq_true', Bool.not_eq_false', Bool.not_true, Bool.not_false] at h); first | (exfalso; omega) | (cases h; done) | (conv => whnf)))
        refine Tri.use (tDown (g1 ++ (gs ++ fx)) d1) [0] rfl (args_ren rfl rfl) ⟨OSub.ren rfl rfl, trivial⟩ (fun f hf => by first | exact hf | cases hf | simp_all) (fun u hu => ?_)
        conv => whnf
        repeat' (first
          | (refine And.intro (by first | exact trivial | exact And.intro rfl trivial | exact And.intro rfl (And.intro rfl trivial) | exact And.intro rfl (And.intro rfl (And.intro rfl trivial))) (And.intro (fun _ h => h) ?_); (conv => whnf))
          | (refine And.intro (by first | exact trivial | exact And.intro rfl trivial | exact And.intro rfl (And.intro rfl trivial) | exact And.intro rfl (And.intro rfl (And.intro rfl trivial))) (And.intro (fun _ h => List.mem_cons_of_mem _ h) ?_); (conv => whnf))
          | (refine And.intro (by first | exact trivial | exact And.intro rfl trivial | exact And.intro rfl (And.intro rfl trivial) | exact And.intro rfl (And.intro rfl (And.intro rfl trivial))) (And.intro (fun _ h => List.mem_append_right _ h) ?_); (conv => whnf))
          | (refine And.intro (fun h => ?_) (fun h => ?_) <;> (try simp only [decide_eq_true_eq, decide_eq_false_iff_not, Bool.not_eq_true', Bool.not_eq_false', Bool.not_true, Bool.not_false] at h) <;> first | (exfalso; omega) | (cases h; done) | (conv => whnf))
          | (refine And.intro ?_ ?_; (omega); (conv => whnf))
          | (refine Exists.intro _ (And.intro (And.intro rfl rfl) ?_); (conv => whnf))
          | (refine Exists.intro ?w (And.intro (Pl.den ?p) ?k); (case p => repeat constructor); (conv => whnf))
          | (refine Exists.intro _ (And.intro (by with_reducible rfl) ?_); (conv => whnf))
          | (refine Exists.intro _ (And.intro (cast_succ _) ?_); (conv => whnf))
          | (refine Exists.intro _ (And.intro (by assumption) ?_); (conv => whnf))
          | (refine Exists.intro _ (And.intro (Int.toNat_of_nonneg ?_).symm ?_); (omega); (conv => whnf))
          | (refine Exists.intro _ (And.intro rfl ?_); (conv => whnf))
          | (intro h; (try simp only [decide_eq_true_eq, decide_eq_false_iff_not, Bool.not_eq_true', Bool.not_eq_false', Bool.not_true, Bool.not_false] at h); first | (exfalso; omega) | (cases h; done) | (conv => whnf)))
        · exact absurd h (by simp)
        refine loop_fold tok (α := Nat × List Fact) (fun x => match x with | (s, g) => ⟨[(1, .v (.slice (some ad) ops.length cap)), (5, .v (.int .i64 N)), (6, .p 0 0), (8, .p 1 0), (9, .v (.int .i64 k)), (10, .v (.int .i64 ((s : Int) - 1)))], [dsk 0 d1, ref 1 (g ++ fx) d1], 2, g ++ fx⟩)
          (fun x => x.1 ≤ N + 2) (fun x => N + 2 - x.1) (0, g1 ++ gs) [0, 1] [dsk 0 d1, ref 1 ((g1 ++ gs) ++ fx) d1] (Nat.zero_le _) ⟨(ref_rows (σ := [1, 2, 3]) (fx := (g1 ++ gs) ++ fx) (d := d1) (ls := ls) (ns := ns) (by repeat first | exact List.mem_cons_self .. | apply List.mem_cons_of_mem) (by repeat first | exact List.mem_cons_self .. | apply List.mem_cons_of_mem) (by repeat first | exact List.mem_cons_self .. | apply List.mem_cons_of_mem) rfl (by rw [List.append_assoc]; exact hR) (fun ρ => rfl)).trans (Fold.drop2 (List.mem_cons_of_mem _ (mem_restH (by repeat first | exact List.mem_cons_self .. | apply List.mem_cons_of_mem) rfl)) (List.mem_cons_self ..)), rfl, ⟨fun _ _ _ => rfl, fun _ _ _ => rfl, SEq.ren rfl rfl, SEq.ren rfl rfl, fun _ _ _ => rfl, fun _ _ _ => rfl, trivial⟩, ⟨OSub.ren rfl rfl, OSub.ren rfl rfl, trivial⟩, fun f hf => by have hf : f ∈ (g1 ++ gs) ++ fx := hf; rw [List.append_assoc] at hf; exact hf⟩ ?_
        rintro ⟨s, g⟩ hs
        simp only at hs
        conv => whnf
        repeat' (first
          | (refine And.intro (by first | exact trivial | exact And.intro rfl trivial | exact And.intro rfl (And.intro rfl trivial) | exact And.intro rfl (And.intro rfl (And.intro rfl trivial))) (And.intro (fun _ h => h) ?_); (conv => whnf))
          | (refine And.intro (by first | exact trivial | exact And.intro rfl trivial | exact And.intro rfl (And.intro rfl trivial) | exact And.intro rfl (And.intro rfl (And.intro rfl trivial))) (And.intro (fun _ h => List.mem_cons_of_mem _ h) ?_); (conv => whnf))
          | (refine And.intro (by first | exact trivial | exact And.intro rfl trivial | exact And.intro rfl (And.intro rfl trivial) | exact And.intro rfl (And.intro rfl (And.intro rfl trivial))) (And.intro (fun _ h => List.mem_append_right _ h) ?_); (conv => whnf))
          | (refine And.intro (fun h => ?_) (fun h => ?_) <;> (try simp only [decide_eq_true_eq, decide_eq_false_iff_not, Bool.not_eq_true', Bool.not_eq_false', Bool.not_true, Bool.not_false] at h) <;> first | (exfalso; omega) | (cases h; done) | (conv => whnf))
          | (refine And.intro ?_ ?_; (omega); (conv => whnf))
          | (refine Exists.intro _ (And.intro (And.intro rfl rfl) ?_); (conv => whnf))
          | (refine Exists.intro ?w (And.intro (Pl.den ?p) ?k); (case p => repeat constructor); (conv => whnf))
          | (refine Exists.intro _ (And.intro (by with_reducible rfl) ?_); (conv => whnf))
          | (refine Exists.intro _ (And.intro (cast_succ _) ?_); (conv => whnf))
          | (refine Exists.intro _ (And.intro (by assumption) ?_); (conv => whnf))
          | (refine Exists.intro _ (And.intro (Int.toNat_of_nonneg ?_).symm ?_); (omega); (conv => whnf))
          | (refine Exists.intro _ (And.intro rfl ?_); (conv => whnf))
          | (intro h; (try simp only [decide_eq_true_eq, decide_eq_false_iff_not, Bool.not_eq_true', Bool.not_eq_false', Bool.not_true, Bool.not_false] at h); first | (exfalso; omega) | (cases h; done) | (conv => whnf)))
        · have hpl : d1.play (readOp ((s : Int) - 1)) = d1 := play5 (by simp [readOp]) (by simp [readOp]) (by simp [readOp]) (by simp [readOp])
          have tI := tDo (g ++ fx) (g ++ fx) d1 hd1 (readOp ((s : Int) - 1)) (readOp_ok (by omega)) readOp_small (fun f hf => hf)
          rw [hpl] at tI
          refine Tri.use tI [0, 1] rfl (args_cons (SEq.ren rfl rfl) (args_cons (SEq.ren rfl rfl) (fun _ _ _ => rfl))) ⟨OSub.ren rfl rfl, OSub.ren rfl rfl, trivial⟩ (fun f hf => hf) fun u hu => ?_
          conv => whnf
          refine appFK_intro ?_
          conv => whnf
          repeat' (first
            | (refine And.intro (by first | exact trivial | exact And.intro rfl trivial | exact And.intro rfl (And.intro rfl trivial) | exact And.intro rfl (And.intro rfl (And.intro rfl trivial))) (And.intro (fun _ h => h) ?_); (conv => whnf))
            | (refine And.intro (by first | exact trivial | exact And.intro rfl trivial | exact And.intro rfl (And.intro rfl trivial) | exact And.intro rfl (And.intro rfl (And.intro rfl trivial))) (And.intro (fun _ h => List.mem_cons_of_mem _ h) ?_); (conv => whnf))
            | (refine And.intro (by first | exact trivial | exact And.intro rfl trivial | exact And.intro rfl (And.intro rfl trivial) | exact And.intro rfl (And.intro rfl (And.intro rfl trivial))) (And.intro (fun _ h => List.mem_append_right _ h) ?_); (conv => whnf))
            | (refine And.intro (fun h => ?_) (fun h => ?_) <;> (try simp only [decide_eq_true_eq, decide_eq_false_iff_not, Bool.not_eq_true', Bool.not_eq_false', Bool.not_true, Bool.not_false] at h) <;> first | (exfalso; omega) | (cases h; done) | (conv => whnf))
            | (refine And.intro ?_ ?_; (omega); (conv => whnf))
            | (refine Exists.intro _ (And.intro (And.intro rfl rfl) ?_); (conv => whnf))
            | (refine Exists.intro ?w (And.intro (Pl.den ?p) ?k); (case p => repeat constructor); (conv => whnf))
            | (refine Exists.intro _ (And.intro (by with_reducible rfl) ?_); (conv => whnf))
            | (refine Exists.intro _ (And.intro (cast_succ _) ?_); (conv => whnf))
            | (refine Exists.intro _ (And.intro (by assumption) ?_); (conv => whnf))
            | (refine Exists.intro _ (And.intro (Int.toNat_of_nonneg ?_).symm ?_); (omega); (conv => whnf))
            | (refine Exists.intro _ (And.intro rfl ?_); (conv => whnf))
            | (intro h; (try simp only [decide_eq_true_eq, decide_eq_false_iff_not, Bool.not_eq_true', Bool.not_eq_false', Bool.not_true, Bool.not_false] at h); first | (exfalso; omega) | (cases h; done) | (conv => whnf)))
          refine ⟨(s + 1, u ++ g), [0, 1], _, ⟨by simp only; omega, by simp only; omega⟩, Fold.refl _, rfl, ⟨fun _ _ _ => rfl, fun _ _ _ => rfl, SEq.ren rfl rfl, SEq.ren rfl rfl, fun _ _ _ => rfl, SEq.eq (congrArg (Value.int .i64) (show ((s + 1 : Nat) : Int) - 1 = (s : Int) - 1 + 1 by omega)), trivial⟩, ⟨OSub.ren rfl rfl, OSub.ren rfl (by rw [List.append_assoc]; rfl), trivial⟩, fun f hf => by have hf : f ∈ (u ++ g) ++ fx := hf; rw [List.append_assoc] at hf; exact hf⟩
        · refine ⟨⟨k + 1, d1, g⟩, [0, 1], ⟨⟨by simp only; omega, hd1, hdl1⟩, by simp only; omega⟩, rfl, ⟨fun _ _ _ => rfl, fun _ _ _ => rfl, SEq.ren rfl rfl, SEq.ren rfl rfl, SEq.eq rfl, trivial⟩, ⟨OSub.ren rfl rfl, OSub.ren rfl rfl, trivial⟩, fun f hf => hf⟩
  · exact Ret.mk [] [] (Fold.drop (by simp)) rfl (fun _ _ _ => rfl) trivial (fun _ h => nomatch h)
end Go.Proofs.Ytekgjjanikicnaa.Sx
