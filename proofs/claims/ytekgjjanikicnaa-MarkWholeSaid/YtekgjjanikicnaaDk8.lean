/- The disk's calls, once more: with an own row; what is read, told by a fact. -/
import Derived.Test.YtekgjjanikicnaaDkN0
import Derived.Test.YtekgjjanikicnaaTx4
namespace Go.Proofs.Ytekgjjanikicnaa.Sx
open Go
set_option maxRecDepth 100000
set_option linter.unusedSimpArgs false
set_option linter.unusedVariables false

theorem args_cons {m : Nat} {σ : List Nat} {x y : SV} {xs ys : List SV} (h1 : SEq m σ x y) (h2 : ∀ ρ ρ'', AgS m σ ρ ρ'' → denL ρ'' xs = denL ρ ys) : ∀ ρ ρ'', AgS m σ ρ ρ'' → denL ρ'' (x :: xs) = denL ρ (y :: ys) := fun ρ ρ'' ha => by
  rw [denL_cons, denL_cons, h1 ρ ρ'' ha, h2 ρ ρ'' ha]
theorem tDownB (fx : List Fact) (d : DS) (b : Bool) (h : d.down = b) : Tri Try.prog 36 [.p 0 0] [dsk 0 d] 1 fx (RetE (α := Unit) 1 (fun _ => True) (fun _ => .b b) (fun _ => [dsk 0 d]) 1 (fun _ => [])) :=
  (tDown fx d).reval fun ρ => by simp [den, h]
theorem tWriteRow (fx : List Fact) (d : DS) (hd : d.Ok) (i : Int) (b : List UInt8) (xs : List Value) (cap : Nat) (hx : xs.take b.length = b.map bv) :
    Tri Try.prog 27 [.p 0 0, .v (.int .i64 i), .s 1 0 b.length cap] [dsk 0 d, (1, .row xs 5)] 2 fx (RetE (α := Unit) 2 (fun _ => True) (fun _ => .v (.int .i64 (d.write i b).1)) (fun _ => [dsk 0 (d.write i b).2, (1, .row xs 5)]) 2 (fun _ => [])) := by
  refine Tri.lend 1 (xs := xs) (T := 5) (fun b1 => [.p 0 0, .v (.int .i64 i), .v (.slice (some ⟨b1, 0, none⟩) b.length cap)]) (by simp) rowOf.row (fun _ => rfl) fun b1 => ?_
  refine Tri.use (tWrite (rowFact b1 xs 5 :: fx) d hd i (some ⟨b1, 0, none⟩) cap b (BytesAt.row (List.mem_cons_self ..) (by rw [List.drop_zero]; exact hx))) [0] rfl (args_ren rfl rfl) ⟨OSub.ren rfl rfl, trivial⟩ (fun f hf => hf) fun u hu => ?_
  conv => whnf
  refine And.intro rfl ?_
  exact ⟨(), trivial, Ret.mk [0, 1] [dsk 0 _, (1, .row xs 5)] (Fold.drop (by simp)) rfl (fun _ _ _ => rfl) ⟨OSub.ren rfl rfl, OSub.ren rfl rfl, trivial⟩ (fun _ h => nomatch h)⟩
theorem zero_row : (repRow [Value.int IntKind.u8 0] 64).take zsec.length = zsec.map bv := rfl
theorem zsec_length : zsec.length = 64 := rfl
theorem tReadF (fx : List Fact) (d : DS) (hd : d.Ok) (h : d.down = false) (i : Nat) (hi : i < d.l.length) :
    Tri Try.prog 29 [.p 0 0, .v (.int .i64 i)] [dsk 0 d] 1 fx (RetE (α := Nat × List Value) 1 (fun _ => True) (fun x => .tup [.v (.slice (some ⟨x.1, 0, none⟩) 64 (64 + x.2.length)), .k .i64 0]) (fun _ => [dsk 0 d]) 2 (fun x => [rowFact x.1 ((d.get i).map bv ++ x.2) 5])) := by
  refine Tri.share (tRead fx d hd h i hi).conv fun y h m f ⟨sp, _, e1, e2, e3, e4⟩ => ?_
  subst e1 e2 e3 e4
  refine ⟨1, _, 5, List.mem_cons_of_mem _ (List.mem_singleton.2 rfl), fun b => ⟨.tup [.v (.slice (some ⟨b, 0, none⟩) 64 (64 + sp.length)), .k .i64 0], fun ρ hr => ?_, (b, sp), trivial, ?_⟩⟩
  · subst hr; rfl
  · exact Ret.mk [0, 0] [dsk 0 d] (Fold.drop (fun e he => by obtain rfl := List.mem_singleton.1 he; exact List.mem_cons_self ..)) rfl (fun _ _ _ => rfl) ⟨OSub.ren rfl rfl, trivial⟩ (fun g hg => by simpa using hg)
theorem wrap_byte (x : Int) : ∃ w : UInt8, IntKind.u8.wrap x = (w.toNat : Int) := by
  have e : IntKind.u8.wrap x = x % 256 := by simp [IntKind.wrap, IntKind.signed, IntKind.bits]
  refine ⟨UInt8.ofNat (x % 256).toNat, ?_⟩
  rw [e, UInt8.toNat_ofNat']
  omega
theorem write_open {l : List Sec} {c : Int → Option Sec} {i : Int} {b : Sec} (hi : 0 ≤ i ∧ i < (l.length : Int)) (hb : b.length = 64) : DS.write ⟨l, c, -1, false⟩ i b = (0, ⟨l, fun j => if j = i then some b else c j, -1, false⟩) := by
  simp only [DS.write]
  rw [if_neg (by simp), if_neg (by omega), if_neg (by omega), if_neg (by omega)]
  simp [DS.burnt, DS.put]
theorem splice_set {α : Type} {l : List α} {o : Nat} {x : α} (h : o < l.length) : splice l o [x] = l.set o x := by
  rw [← splice_cons l o x [] h, splice_nil]
theorem fill_step {α : Type} {N j : Nat} (a b : α) (h : j < N) : splice (List.replicate j a ++ List.replicate (N - j) b) j [a] = List.replicate (j + 1) a ++ List.replicate (N - (j + 1)) b := by
  rw [splice_set (by simp; omega), List.set_append_right _ _ (by simp), List.length_replicate, Nat.sub_self, show N - j = (N - (j + 1)) + 1 by omega, List.replicate_succ, List.set_cons_zero, List.replicate_succ', List.append_assoc]
  rfl
theorem BoolsAt.row {fx : List Fact} {b : Nat} {bs : List Bool} {T : TypeId} (h : rowFact b (bs.map Value.bool) T ∈ fx) : BoolsAt fx (some ⟨b, 0, none⟩) bs := by
  refine ⟨fun e => (by cases e), fun ad e j y hj => ?_⟩
  obtain rfl := Option.some.inj e
  have := rowFact_FC h (j := j) (y := .bool y) (by rw [List.getElem?_map, hj]; rfl)
  rw [add_at, Nat.zero_add]
  exact this
theorem tCrashRow (fx : List Fact) (d : DS) (hd : d.Ok) (cap : Nat) (keep : List Bool) (torn at_ : Int) (hk : keep.length ≤ 1000000000) (ht : -9223372036854775808 ≤ at_ ∧ at_ < 9223372036854775808) :
    Tri Try.prog 28 [.p 0 0, .agg [.s 1 0 keep.length cap, .v (.int .i64 torn), .v (.int .i64 at_)]] [dsk 0 d, (1, .row (keep.map Value.bool) 4)] 2 fx (RetE (α := Unit) 2 (fun _ => True) (fun _ => .tup []) (fun _ => [dsk 0 (d.crash keep torn at_), (1, .row (keep.map Value.bool) 4)]) 2 (fun _ => [])) := by
  refine Tri.lend 1 (xs := keep.map Value.bool) (T := 4) (fun b1 => [.p 0 0, .agg [.v (.slice (some ⟨b1, 0, none⟩) keep.length cap), .v (.int .i64 torn), .v (.int .i64 at_)]]) (by simp) rowOf.row (fun _ => rfl) fun b1 => ?_
  refine Tri.use (tCrash (rowFact b1 (keep.map Value.bool) 4 :: fx) d hd (some ⟨b1, 0, none⟩) cap keep torn at_ (BoolsAt.row (List.mem_cons_self ..)) hk ht) [0] rfl (args_ren rfl rfl) ⟨OSub.ren rfl rfl, trivial⟩ (fun f hf => hf) fun u hu => ?_
  conv => whnf
  refine And.intro rfl ?_
  exact ⟨(), trivial, Ret.mk [0, 1] [dsk 0 _, (1, .row (keep.map Value.bool) 4)] (Fold.drop (by simp)) rfl (fun _ _ _ => rfl) ⟨OSub.ren rfl rfl, OSub.ren rfl rfl, trivial⟩ (fun _ h => nomatch h)⟩
theorem tSame30 (fx : List Fact) (A B : Option Addr) (ca cb : Nat) (a b : List UInt8) (hA : BytesAt fx A a) (hB : BytesAt fx B b) (hl : a.length < 9223372036854775808) :
    Tri Try.prog 30 [.v (.slice A a.length ca), .v (.slice B b.length cb)] [] 0 fx (RetE (α := Unit) 0 (fun _ => True) (fun _ => .v (.bool (decide (a = b)))) (fun _ => []) 0 (fun _ => [])) := by
  refine Tri.one ?_
  refine Tri.of_code tok Try.func30 rfl rfl rfl (by decide) rfl (Nat.le_of_ble_eq_true rfl) ?_
  conv => whnf
  repeat' (first
    | (refine And.intro (by first | exact trivial | exact And.intro rfl trivial | exact And.intro rfl (And.intro rfl trivial) | exact And.intro rfl (And.intro rfl (And.intro rfl trivial))) (And.intro (fun _ h => h) ?_); (conv => whnf))
    | (refine And.intro (by first | exact trivial | exact And.intro rfl trivial | exact And.intro rfl (And.intro rfl trivial) | exact And.intro rfl (And.intro rfl (And.intro rfl trivial))) (And.intro (fun _ h => List.mem_cons_of_mem _ h) ?_); (conv => whnf))
    | (refine And.intro (by first | exact trivial | exact And.intro rfl trivial | exact And.intro rfl (And.intro rfl trivial) | exact And.intro rfl (And.intro rfl (And.intro rfl trivial))) (And.intro (fun _ h => List.mem_append_right _ h) ?_); (conv => whnf))
    | (refine And.intro (fun h => ?_) (fun h => ?_) <;> (try simp only [decide_eq_true_eq, decide_eq_false_iff_not, Bool.not_eq_true', Bool.not_eq_false', Bool.not_true, Bool.not_false] at h) <;> first | (exfalso; omega) | (cases h; done) | (conv => whnf))
    | (refine And.intro ?_ ?_; (omega); (conv => whnf))
    | (refine Exists.intro _ (And.intro (And.intro rfl rfl) ?_); (conv => whnf))
    | (refine Exists.intro ?w (And.intro (Pl.den ?p) ?k); (case p => repeat constructor); (conv => whnf))
    | (refine Exists.intro _ (And.intro (by with_reducible rfl) ?_); (conv => whnf))
    | (refine Exists.intro _ (And.intro (cast_succ _) ?_); (conv => whnf))
    | (refine Exists.intro _ (And.intro (by assumption) ?_); (conv => whnf))
    | (refine Exists.intro _ (And.intro (Int.toNat_of_nonneg ?_).symm ?_); (omega); (conv => whnf))
    | (refine Exists.intro _ (And.intro rfl ?_); (conv => whnf))
    | (intro h; (try simp only [decide_eq_true_eq, decide_eq_false_iff_not, Bool.not_eq_true', Bool.not_eq_false', Bool.not_true, Bool.not_false] at h); first | (exfalso; omega) | (cases h; done) | (conv => whnf)))
  refine Tri.use (tSame fx A B ca cb a b hA hB hl).one [] rfl (args_ren rfl rfl) trivial (fun f hf => by first | exact hf | cases hf | simp_all) (fun u hu => ?_)
  conv => whnf
  repeat' (first
    | (refine And.intro (by first | exact trivial | exact And.intro rfl trivial | exact And.intro rfl (And.intro rfl trivial) | exact And.intro rfl (And.intro rfl (And.intro rfl trivial))) (And.intro (fun _ h => h) ?_); (conv => whnf))
    | (refine And.intro (by first | exact trivial | exact And.intro rfl trivial | exact And.intro rfl (And.intro rfl trivial) | exact And.intro rfl (And.intro rfl (And.intro rfl trivial))) (And.intro (fun _ h => List.mem_cons_of_mem _ h) ?_); (conv => whnf))
    | (refine And.intro (by first | exact trivial | exact And.intro rfl trivial | exact And.intro rfl (And.intro rfl trivial) | exact And.intro rfl (And.intro rfl (And.intro rfl trivial))) (And.intro (fun _ h => List.mem_append_right _ h) ?_); (conv => whnf))
    | (refine And.intro (fun h => ?_) (fun h => ?_) <;> (try simp only [decide_eq_true_eq, decide_eq_false_iff_not, Bool.not_eq_true', Bool.not_eq_false', Bool.not_true, Bool.not_false] at h) <;> first | (exfalso; omega) | (cases h; done) | (conv => whnf))
    | (refine And.intro ?_ ?_; (omega); (conv => whnf))
    | (refine Exists.intro _ (And.intro (And.intro rfl rfl) ?_); (conv => whnf))
    | (refine Exists.intro ?w (And.intro (Pl.den ?p) ?k); (case p => repeat constructor); (conv => whnf))
    | (refine Exists.intro _ (And.intro (by with_reducible rfl) ?_); (conv => whnf))
    | (refine Exists.intro _ (And.intro (cast_succ _) ?_); (conv => whnf))
    | (refine Exists.intro _ (And.intro (by assumption) ?_); (conv => whnf))
    | (refine Exists.intro _ (And.intro (Int.toNat_of_nonneg ?_).symm ?_); (omega); (conv => whnf))
    | (refine Exists.intro _ (And.intro rfl ?_); (conv => whnf))
    | (intro h; (try simp only [decide_eq_true_eq, decide_eq_false_iff_not, Bool.not_eq_true', Bool.not_eq_false', Bool.not_true, Bool.not_false] at h); first | (exfalso; omega) | (cases h; done) | (conv => whnf)))
  exact Ret.noneS rfl (fun _ _ => rfl) (fun _ h => nomatch h)
/-- The second row is the caller's own. -/
theorem tSame30Row (fx : List Fact) (A : Option Addr) (ca cb : Nat) (a b : List UInt8) (hA : BytesAt fx A a) (xs : List Value) (hB : xs.take b.length = b.map bv) (hl : a.length < 9223372036854775808) :
    Tri Try.prog 30 [.v (.slice A a.length ca), .s 0 0 b.length cb] [(0, .row xs 5)] 1 fx (RetE (α := Unit) 1 (fun _ => True) (fun _ => .v (.bool (decide (a = b)))) (fun _ => [(0, .row xs 5)]) 1 (fun _ => [])) := by
  refine Tri.lend 0 (xs := xs) (T := 5) (fun b1 => [.v (.slice A a.length ca), .v (.slice (some ⟨b1, 0, none⟩) b.length cb)]) (by simp) rowOf.row (fun _ => rfl) fun b1 => ?_
  refine Tri.use (tSame30 (rowFact b1 xs 5 :: fx) A (some ⟨b1, 0, none⟩) ca cb a b (hA.mono fun f hf => List.mem_cons_of_mem _ hf) (BytesAt.row (List.mem_cons_self ..) (by rw [List.drop_zero]; exact hB)) hl) [] rfl (args_ren rfl rfl) trivial (fun f hf => hf) fun u hu => ?_
  conv => whnf
  refine And.intro rfl ?_
  exact ⟨(), trivial, Ret.mk [0] [(0, .row xs 5)] (Fold.drop (by simp)) rfl (fun _ _ _ => rfl) ⟨OSub.ren rfl rfl, trivial⟩ (fun _ h => nomatch h)⟩
end Go.Proofs.Ytekgjjanikicnaa.Sx
