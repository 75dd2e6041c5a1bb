/- The mark's laws' callees: awake, steady, Full; a disk whose power stays. -/
import Derived.Test.YtekgjjanikicnaaMk6
import Derived.Test.YtekgjjanikicnaaDkLasts
namespace Go.Proofs.Ytekgjjanikicnaa.Sx
open Go
set_option maxRecDepth 100000
set_option linter.unusedSimpArgs false
set_option linter.unusedVariables false

theorem Up.write_eq {N : Nat} {d : DS} (h : Up N d) {i : Nat} (hi : i < N) {b : Sec} (hb : b.length = 64) : d.write i b = (0, d.put i b) := by
  have hf := h.fuse
  have hl := h.len
  unfold DS.write
  rw [if_neg (by rw [h.up]; simp), if_neg (by omega), if_neg (by omega), if_neg (by omega), h.burnt]
theorem Up.sync_eq {N : Nat} {d : DS} (h : Up N d) : d.sync = (0, { d with l := laid d.l d.c, c := fun _ => none }) := by
  have hf := h.fuse
  unfold DS.sync
  rw [if_neg (by rw [h.up]; simp), if_neg (by omega), h.burnt]
theorem Up.get_sync {N : Nat} {d : DS} (h : Up N d) {j : Nat} (hj : j < N) : d.sync.2.get j = d.get j := by
  have hl := h.len
  rw [h.sync_eq]
  simp only [DS.get, Option.getD_none, List.getD_eq_getElem?_getD, laid_get, List.getElem?_eq_getElem (show j < d.l.length by omega), Option.map_some, Option.getD_some]
theorem Up.put {N : Nat} {d : DS} (h : Up N d) {i : Nat} (hi : i < N) {b : Sec} (hb : b.length = 64) : Up N (d.put i b) := by
  have := h.write i b
  rwa [h.write_eq hi hb] at this
theorem Up.putS_eq {N : Nat} {d : DS} (h : Up N d) {i : Nat} (hi : i < N) {b : Sec} (hb : b.length = 64) : (d.putS i b).1 = 0 ∧ Up N (d.putS i b).2 ∧ (∀ j, j < N → (d.putS i b).2.get j = if j = i then b else d.get j) := by
  have hp := h.put hi hb
  have e : d.putS i b = (d.put i b).sync := by unfold DS.putS; rw [h.write_eq hi hb]; exact if_pos rfl
  rw [e]
  refine ⟨by rw [hp.sync_eq], hp.sync, fun j hj => ?_⟩
  rw [hp.get_sync hj]
  simp only [DS.get, DS.put]
  by_cases e : j = i
  · subst e; rw [if_pos rfl, if_pos rfl]; rfl
  · rw [if_neg (by omega), if_neg e]
theorem Up.save {N : Nat} {d : DS} (h : Up N d) {p : Nat} (hp : p + 2 < N) {b : Sec} (hb : b.length ≤ 64) : (d.save p b).1 = 0 ∧ Up N (d.save p b).2 ∧ (∀ j, j < N → (d.save p b).2.get j = if p ≤ j ∧ j ≤ p + 2 then pad b else d.get j) := by
  have hl := pad_length hb
  rw [save_nat hb]
  obtain ⟨a1, a2, a3⟩ := h.putS_eq (i := p) (by omega) hl
  obtain ⟨b1, b2, b3⟩ := a2.putS_eq (i := p + 1) (by omega) hl
  obtain ⟨c1, c2, c3⟩ := b2.putS_eq (i := p + 2) (by omega) hl
  have e : d.putN (p : Int) (pad b) 3 = (((d.putS p (pad b)).2.putS ((p + 1 : Nat) : Int) (pad b)).2.putS ((p + 2 : Nat) : Int) (pad b)) := by
    have st : ∀ (D : DS) (i : Int) (k : Nat), (D.putS i (pad b)).1 = 0 → D.putN i (pad b) (k + 1) = (D.putS i (pad b)).2.putN (i + 1) (pad b) k := fun D i k h => if_pos h
    rw [st _ _ _ a1, show (p : Int) + 1 = ((p + 1 : Nat) : Int) from rfl, st _ _ _ b1, show ((p + 1 : Nat) : Int) + 1 = ((p + 2 : Nat) : Int) from rfl, st _ _ _ c1]
    show (0, _) = _
    rw [← c1]
  rw [e]
  refine ⟨c1, c2, fun j hj => ?_⟩
  rw [c3 j hj, b3 j hj, a3 j hj]
  by_cases e1 : j = p + 2
  · rw [if_pos e1, if_pos (by omega)]
  · rw [if_neg e1]
    by_cases e2 : j = p + 1
    · rw [if_pos e2, if_pos (by omega)]
    · rw [if_neg e2]
      by_cases e3 : j = p
      · rw [if_pos e3, if_pos (by omega)]
      · rw [if_neg e3, if_neg (by omega)]
theorem Up.val_saved {N : Nat} {d : DS} {p : Nat} {x : Sec} (h : ∀ j, p ≤ j → j ≤ p + 2 → d.get j = x) : d.val (p : Int) = x := by
  rw [val_nat, h p (by omega) (by omega), h (p + 1) (by omega) (by omega), h (p + 2) (by omega) (by omega)]
  simp [val3]
theorem new_get {N j : Nat} (hj : j < N) : (DS.new N).get j = zsec := by
  simp [DS.get, DS.new, List.getD_eq_getElem?_getD, List.getElem?_replicate, hj]
/-- What is saved is the caller's own row. -/
theorem tSaveRow (fx : List Fact) (d : DS) (hd : d.Ok) (at_ : Int) (ha : -1000000 ≤ at_ ∧ at_ ≤ 1000000) (b : List UInt8) (hb : b.length ≤ 64) (o : SObj) (xs : List Value) (ho : rowOf o xs 5) (cap : Nat) (hx : xs.take b.length = b.map bv) :
    Tri Try.prog 43 [.p 0 0, .v (.int .i64 at_), .s 1 0 b.length cap] [dsk 0 d, (1, o)] 2 fx (RetE (α := Unit) 2 (fun _ => True) (fun _ => .v (.int .i64 (d.save at_ b).1)) (fun _ => [dsk 0 (d.save at_ b).2]) 2 (fun _ => [])) := by
  refine Tri.lend 1 (xs := xs) (T := 5) (fun b1 => [.p 0 0, .v (.int .i64 at_), .v (.slice (some ⟨b1, 0, none⟩) b.length cap)]) (by simp) ho (fun _ => rfl) fun b1 => ?_
  refine Tri.use (tSave (rowFact b1 xs 5 :: fx) d hd at_ ha (some ⟨b1, 0, none⟩) cap b (BytesAt.row (List.mem_cons_self ..) (by rw [List.drop_zero]; exact hx)) hb) [0] rfl (args_ren rfl rfl) ⟨OSub.ren rfl rfl, trivial⟩ (fun f hf => hf) fun u hu => ?_
  conv => whnf
  refine And.intro rfl ?_
  exact ⟨(), trivial, Ret.mk [0, 1] [dsk 0 _] (Fold.drop1 (by repeat first | exact List.mem_cons_self .. | apply List.mem_cons_of_mem)) rfl (fun _ _ _ => rfl) ⟨OSub.ren rfl rfl, trivial⟩ (fun _ h => nomatch h)⟩
theorem tMAwake (fx : List Fact) : Tri Try.prog 41 [] [] 0 fx (Ret 0 (.b true) [] 0 []) := by
  have hU := Up.new (N := 3) (by decide)
  obtain ⟨s1, s2, s3⟩ := hU.save (p := 0) (by decide) (b := [1, 2, 3]) (by decide)
  have hv : ((DS.new 3).save ((0 : Nat) : Int) [1, 2, 3]).2.val ((0 : Nat) : Int) = pad [1, 2, 3] := Up.val_saved (N := 3) fun j h1 h2 => by rw [s3 j (by omega), if_pos ⟨h1, h2⟩]
  have t1 := tSaveRow fx (DS.new 3) hU.ok ((0 : Nat) : Int) (by decide) [1, 2, 3] (by decide) (.cells [.k .u8 1, .k .u8 2, .k .u8 3] 5) [.int .u8 1, .int .u8 2, .int .u8 3] (rowOf.cells fun ρ => rfl) 3 rfl
  rw [s1] at t1
  replace t1 := t1.reval (v' := .k .i64 0) (fun _ => rfl)
  have t2 := tLoad fx _ s2.ok s2.up 0 (by rw [s2.len]; decide)
  rw [hv] at t2
  refine Tri.of_code tok Try.func41 rfl rfl rfl (by decide) rfl (Nat.le_of_ble_eq_true rfl) ?_
  conv => whnf
  repeat' (first
    | (refine And.intro (by first | exact trivial | exact And.intro rfl trivial | exact And.intro rfl (And.intro rfl trivial) | exact And.intro rfl (And.intro rfl (And.intro rfl trivial))) (And.intro (fun _ h => h) ?_); (conv => whnf))
    | (refine And.intro (by first | exact trivial | exact And.intro rfl trivial | exact And.intro rfl (And.intro rfl trivial) | exact And.intro rfl (And.intro rfl (And.intro rfl trivial))) (And.intro (fun _ h => List.mem_cons_of_mem _ h) ?_); (conv => whnf))
    | (refine And.intro (by first | exact trivial | exact And.intro rfl trivial | exact And.intro rfl (And.intro rfl trivial) | exact And.intro rfl (And.intro rfl (And.intro rfl trivial))) (And.intro (fun _ h => List.mem_append_right _ h) ?_); (conv => whnf))
    | (refine And.intro (fun h => ?_) (fun h => ?_) <;> (try simp only [decide_eq_true_eq, decide_eq_false_iff_not, Bool.not_eq_true', Bool.not_eq_false', Bool.not_true, Bool.not_false] at h) <;> first | (exfalso; omega) | (cases h; done) | (conv => whnf))
    | (refine And.intro ?_ ?_; (omega); (conv => whnf))
    | (refine Exists.intro _ (And.intro (And.intro rfl rfl) ?_); (conv => whnf))
    | (refine Exists.intro ?w (And.intro (Pl.den ?p) ?k); (case p => repeat constructor); (conv => whnf))
    | (refine Exists.intro _ (And.intro (by with_reducible rfl) ?_); (conv => whnf))
    | (refine Exists.intro _ (And.intro (cast_succ _) ?_); (conv => whnf))
    | (refine Exists.intro _ (And.intro (by assumption) ?_); (conv => whnf))
    | (refine Exists.intro _ (And.intro (Int.toNat_of_nonneg ?_).symm ?_); (omega); (conv => whnf))
    | (refine Exists.intro _ (And.intro rfl ?_); (conv => whnf))
    | (intro h; (try simp only [decide_eq_true_eq, decide_eq_false_iff_not, Bool.not_eq_true', Bool.not_eq_false', Bool.not_true, Bool.not_false] at h); first | (exfalso; omega) | (cases h; done) | (conv => whnf)))
  refine Tri.use (tNew fx 3 (by decide)) [] rfl (args_ren rfl rfl) trivial (fun f hf => by first | exact hf | cases hf | simp_all) (fun u hu => ?_)
  conv => whnf
  repeat' (first
    | (refine And.intro (by first | exact trivial | exact And.intro rfl trivial | exact And.intro rfl (And.intro rfl trivial) | exact And.intro rfl (And.intro rfl (And.intro rfl trivial))) (And.intro (fun _ h => h) ?_); (conv => whnf))
    | (refine And.intro (by first | exact trivial | exact And.intro rfl trivial | exact And.intro rfl (And.intro rfl trivial) | exact And.intro rfl (And.intro rfl (And.intro rfl trivial))) (And.intro (fun _ h => List.mem_cons_of_mem _ h) ?_); (conv => whnf))
    | (refine And.intro (by first | exact trivial | exact And.intro rfl trivial | exact And.intro rfl (And.intro rfl trivial) | exact And.intro rfl (And.intro rfl (And.intro rfl trivial))) (And.intro (fun _ h => List.mem_append_right _ h) ?_); (conv => whnf))
    | (refine And.intro (fun h => ?_) (fun h => ?_) <;> (try simp only [decide_eq_true_eq, decide_eq_false_iff_not, Bool.not_eq_true', Bool.not_eq_false', Bool.not_true, Bool.not_false] at h) <;> first | (exfalso; omega) | (cases h; done) | (conv => whnf))
    | (refine And.intro ?_ ?_; (omega); (conv => whnf))
    | (refine Exists.intro _ (And.intro (And.intro rfl rfl) ?_); (conv => whnf))
    | (refine Exists.intro ?w (And.intro (Pl.den ?p) ?k); (case p => repeat constructor); (conv => whnf))
    | (refine Exists.intro _ (And.intro (by with_reducible rfl) ?_); (conv => whnf))
    | (refine Exists.intro _ (And.intro (cast_succ _) ?_); (conv => whnf))
    | (refine Exists.intro _ (And.intro (by assumption) ?_); (conv => whnf))
    | (refine Exists.intro _ (And.intro (Int.toNat_of_nonneg ?_).symm ?_); (omega); (conv => whnf))
    | (refine Exists.intro _ (And.intro rfl ?_); (conv => whnf))
    | (intro h; (try simp only [decide_eq_true_eq, decide_eq_false_iff_not, Bool.not_eq_true', Bool.not_eq_false', Bool.not_true, Bool.not_false] at h); first | (exfalso; omega) | (cases h; done) | (conv => whnf)))
  refine Tri.use t1 [0,1] rfl (args_ren rfl rfl) ⟨OSub.ren rfl rfl, OSub.ren rfl rfl, trivial⟩ (fun f hf => by first | exact hf | cases hf | simp_all) (fun u hu => ?_)
  conv => whnf
  repeat' (first
    | (refine And.intro (by first | exact trivial | exact And.intro rfl trivial | exact And.intro rfl (And.intro rfl trivial) | exact And.intro rfl (And.intro rfl (And.intro rfl trivial))) (And.intro (fun _ h => h) ?_); (conv => whnf))
    | (refine And.intro (by first | exact trivial | exact And.intro rfl trivial | exact And.intro rfl (And.intro rfl trivial) | exact And.intro rfl (And.intro rfl (And.intro rfl trivial))) (And.intro (fun _ h => List.mem_cons_of_mem _ h) ?_); (conv => whnf))
    | (refine And.intro (by first | exact trivial | exact And.intro rfl trivial | exact And.intro rfl (And.intro rfl trivial) | exact And.intro rfl (And.intro rfl (And.intro rfl trivial))) (And.intro (fun _ h => List.mem_append_right _ h) ?_); (conv => whnf))
    | (refine And.intro (fun h => ?_) (fun h => ?_) <;> (try simp only [decide_eq_true_eq, decide_eq_false_iff_not, Bool.not_eq_true', Bool.not_eq_false', Bool.not_true, Bool.not_false] at h) <;> first | (exfalso; omega) | (cases h; done) | (conv => whnf))
    | (refine And.intro ?_ ?_; (omega); (conv => whnf))
    | (refine Exists.intro _ (And.intro (And.intro rfl rfl) ?_); (conv => whnf))
    | (refine Exists.intro ?w (And.intro (Pl.den ?p) ?k); (case p => repeat constructor); (conv => whnf))
    | (refine Exists.intro _ (And.intro (by with_reducible rfl) ?_); (conv => whnf))
    | (refine Exists.intro _ (And.intro (cast_succ _) ?_); (conv => whnf))
    | (refine Exists.intro _ (And.intro (by assumption) ?_); (conv => whnf))
    | (refine Exists.intro _ (And.intro (Int.toNat_of_nonneg ?_).symm ?_); (omega); (conv => whnf))
    | (refine Exists.intro _ (And.intro rfl ?_); (conv => whnf))
    | (intro h; (try simp only [decide_eq_true_eq, decide_eq_false_iff_not, Bool.not_eq_true', Bool.not_eq_false', Bool.not_true, Bool.not_false] at h); first | (exfalso; omega) | (cases h; done) | (conv => whnf)))
  refine Tri.use t2 [0] rfl (args_ren rfl rfl) ⟨OSub.ren rfl rfl, trivial⟩ (fun f hf => by first | exact hf | cases hf | simp_all) (fun u hu => ?_)
  obtain ⟨r, A, c⟩ := u
  simp only at hu
  obtain ⟨ad, rfl, hg⟩ := hu.get (i := 2) (by decide)
  conv => whnf
  repeat' (first
    | (refine And.intro (by first | exact trivial | exact And.intro rfl trivial | exact And.intro rfl (And.intro rfl trivial) | exact And.intro rfl (And.intro rfl (And.intro rfl trivial))) (And.intro (fun _ h => h) ?_); (conv => whnf))
    | (refine And.intro (by first | exact trivial | exact And.intro rfl trivial | exact And.intro rfl (And.intro rfl trivial) | exact And.intro rfl (And.intro rfl (And.intro rfl trivial))) (And.intro (fun _ h => List.mem_cons_of_mem _ h) ?_); (conv => whnf))
    | (refine And.intro (by first | exact trivial | exact And.intro rfl trivial | exact And.intro rfl (And.intro rfl trivial) | exact And.intro rfl (And.intro rfl (And.intro rfl trivial))) (And.intro (fun _ h => List.mem_append_right _ h) ?_); (conv => whnf))
    | (refine And.intro (fun h => ?_) (fun h => ?_) <;> (try simp only [decide_eq_true_eq, decide_eq_false_iff_not, Bool.not_eq_true', Bool.not_eq_false', Bool.not_true, Bool.not_false] at h) <;> first | (exfalso; omega) | (cases h; done) | (conv => whnf))
    | (refine And.intro ?_ ?_; (omega); (conv => whnf))
    | (refine Exists.intro _ (And.intro (And.intro rfl rfl) ?_); (conv => whnf))
    | (refine Exists.intro ?w (And.intro (Pl.den ?p) ?k); (case p => repeat constructor); (conv => whnf))
    | (refine Exists.intro _ (And.intro (by with_reducible rfl) ?_); (conv => whnf))
    | (refine Exists.intro _ (And.intro (cast_succ _) ?_); (conv => whnf))
    | (refine Exists.intro _ (And.intro (by assumption) ?_); (conv => whnf))
    | (refine Exists.intro _ (And.intro (Int.toNat_of_nonneg ?_).symm ?_); (omega); (conv => whnf))
    | (refine Exists.intro _ (And.intro rfl ?_); (conv => whnf))
    | (intro h; (try simp only [decide_eq_true_eq, decide_eq_false_iff_not, Bool.not_eq_true', Bool.not_eq_false', Bool.not_true, Bool.not_false] at h); first | (exfalso; omega) | (cases h; done) | (conv => whnf)))
  exact Ret.mk [] [] (Fold.drop (by simp)) rfl (fun _ _ _ => by simp [den, pad]) trivial (fun _ h => nomatch h)
def FuS.inv (A : Option Addr) (n cap : Nat) (fx : List Fact) (x : Nat × Option (List Value)) : SS := match x with
  | (k, none) => ⟨[(3, .v (.slice none 0 0))], [], 0, fx⟩
  | (k, some xs) => ⟨[(3, .s 0 0 k xs.length)], [(0, .row xs 5)], 1, fx⟩
def fil (b : Sec) (k : Nat) : Sec := b ++ List.replicate (k - b.length) 0
def FuP (b : Sec) (x : Nat × Option (List Value)) : Prop := x.1 ≤ 64 ∧ b.length ≤ x.1 ∧ match x.2 with
  | none => x.1 = 0
  | some xs => x.1 ≤ xs.length ∧ xs.take x.1 = (fil b x.1).map bv
theorem fil_length {b : Sec} {k : Nat} (h : b.length ≤ k) : (fil b k).length = k := by simp [fil]; omega
theorem fil_succ {b : Sec} {k : Nat} (h : b.length ≤ k) : fil b (k + 1) = fil b k ++ [0] := by
  unfold fil
  rw [show k + 1 - b.length = (k - b.length) + 1 by omega, List.replicate_succ', List.append_assoc]
theorem tFullRaw (fx : List Fact) (A : Option Addr) (cap : Nat) (b : List UInt8) (hB : BytesAt fx A b) (hb : b.length ≤ 64) :
    Tri Try.prog 42 [.v (.slice A b.length cap)] [] 0 fx (RetE (α := List Value × Nat) 0 (fun x => x.1.take 64 = (pad b).map bv) (fun x => .s 0 0 64 x.2) (fun x => [(0, .row x.1 5)]) 1 (fun _ => [])) := by
  refine Tri.of_code tok Try.func42 rfl rfl rfl (by decide) rfl (Nat.le_of_ble_eq_true rfl) ?_
  conv => whnf
  repeat' (first
    | (refine And.intro (by first | exact trivial | exact And.intro rfl trivial | exact And.intro rfl (And.intro rfl trivial) | exact And.intro rfl (And.intro rfl (And.intro rfl trivial))) (And.intro (fun _ h => h) ?_); (conv => whnf))
    | (refine And.intro (by first | exact trivial | exact And.intro rfl trivial | exact And.intro rfl (And.intro rfl trivial) | exact And.intro rfl (And.intro rfl (And.intro rfl trivial))) (And.intro (fun _ h => List.mem_cons_of_mem _ h) ?_); (conv => whnf))
    | (refine And.intro (by first | exact trivial | exact And.intro rfl trivial | exact And.intro rfl (And.intro rfl trivial) | exact And.intro rfl (And.intro rfl (And.intro rfl trivial))) (And.intro (fun _ h => List.mem_append_right _ h) ?_); (conv => whnf))
    | (refine And.intro (fun h => ?_) (fun h => ?_) <;> (try simp only [decide_eq_true_eq, decide_eq_false_iff_not, Bool.not_eq_true', Bool.not_eq_false', Bool.not_true, Bool.not_false] at h) <;> first | (exfalso; omega) | (cases h; done) | (conv => whnf))
    | (refine And.intro ?_ ?_; (omega); (conv => whnf))
    | (refine Exists.intro _ (And.intro (And.intro rfl rfl) ?_); (conv => whnf))
    | (refine Exists.intro ?w (And.intro (Pl.den ?p) ?k); (case p => repeat constructor); (conv => whnf))
    | (refine Exists.intro _ (And.intro (by with_reducible rfl) ?_); (conv => whnf))
    | (refine Exists.intro _ (And.intro (cast_succ _) ?_); (conv => whnf))
    | (refine Exists.intro _ (And.intro (by assumption) ?_); (conv => whnf))
    | (refine Exists.intro _ (And.intro (Int.toNat_of_nonneg ?_).symm ?_); (omega); (conv => whnf))
    | (refine Exists.intro _ (And.intro rfl ?_); (conv => whnf))
    | (intro h; (try simp only [decide_eq_true_eq, decide_eq_false_iff_not, Bool.not_eq_true', Bool.not_eq_false', Bool.not_true, Bool.not_false] at h); first | (exfalso; omega) | (cases h; done) | (conv => whnf)))
  refine ⟨b.map bv, ⟨by simp, hB.rowAt⟩, ?_⟩
  conv => whnf
  repeat' (first
    | (refine And.intro (by first | exact trivial | exact And.intro rfl trivial | exact And.intro rfl (And.intro rfl trivial) | exact And.intro rfl (And.intro rfl (And.intro rfl trivial))) (And.intro (fun _ h => h) ?_); (conv => whnf))
    | (refine And.intro (by first | exact trivial | exact And.intro rfl trivial | exact And.intro rfl (And.intro rfl trivial) | exact And.intro rfl (And.intro rfl (And.intro rfl trivial))) (And.intro (fun _ h => List.mem_cons_of_mem _ h) ?_); (conv => whnf))
    | (refine And.intro (by first | exact trivial | exact And.intro rfl trivial | exact And.intro rfl (And.intro rfl trivial) | exact And.intro rfl (And.intro rfl (And.intro rfl trivial))) (And.intro (fun _ h => List.mem_append_right _ h) ?_); (conv => whnf))
    | (refine And.intro (fun h => ?_) (fun h => ?_) <;> (try simp only [decide_eq_true_eq, decide_eq_false_iff_not, Bool.not_eq_true', Bool.not_eq_false', Bool.not_true, Bool.not_false] at h) <;> first | (exfalso; omega) | (cases h; done) | (conv => whnf))
    | (refine And.intro ?_ ?_; (omega); (conv => whnf))
    | (refine Exists.intro _ (And.intro (And.intro rfl rfl) ?_); (conv => whnf))
    | (refine Exists.intro ?w (And.intro (Pl.den ?p) ?k); (case p => repeat constructor); (conv => whnf))
    | (refine Exists.intro _ (And.intro (by with_reducible rfl) ?_); (conv => whnf))
    | (refine Exists.intro _ (And.intro (cast_succ _) ?_); (conv => whnf))
    | (refine Exists.intro _ (And.intro (by assumption) ?_); (conv => whnf))
    | (refine Exists.intro _ (And.intro (Int.toNat_of_nonneg ?_).symm ?_); (omega); (conv => whnf))
    | (refine Exists.intro _ (And.intro rfl ?_); (conv => whnf))
    | (intro h; (try simp only [decide_eq_true_eq, decide_eq_false_iff_not, Bool.not_eq_true', Bool.not_eq_false', Bool.not_true, Bool.not_false] at h); first | (exfalso; omega) | (cases h; done) | (conv => whnf)))
  · refine loop_by tok (FuS.inv A b.length cap fx) (FuP b) (fun x => 64 - x.1) (0, none) [0] ⟨Nat.zero_le _, by simp only; omega, rfl⟩ ⟨rfl, ⟨fun _ _ _ => rfl, trivial⟩, trivial, fun f hf => hf⟩ ?_
    rintro ⟨k, row⟩ ⟨hk, hbk, hr⟩
    simp only at hk hbk hr
    have hfl := fil_length hbk
    cases row with
    | none =>
      obtain rfl : k = 0 := hr
      have hb0 : b = [] := List.length_eq_zero_iff.1 (by omega)
      simp only [FuS.inv]
      conv => whnf
      repeat' (first
        | (refine And.intro (by first | exact trivial | exact And.intro rfl trivial | exact And.intro rfl (And.intro rfl trivial) | exact And.intro rfl (And.intro rfl (And.intro rfl trivial))) (And.intro (fun _ h => h) ?_); (conv => whnf))
        | (refine And.intro (by first | exact trivial | exact And.intro rfl trivial | exact And.intro rfl (And.intro rfl trivial) | exact And.intro rfl (And.intro rfl (And.intro rfl trivial))) (And.intro (fun _ h => List.mem_cons_of_mem _ h) ?_); (conv => whnf))
        | (refine And.intro (by first | exact trivial | exact And.intro rfl trivial | exact And.intro rfl (And.intro rfl trivial) | exact And.intro rfl (And.intro rfl (And.intro rfl trivial))) (And.intro (fun _ h => List.mem_append_right _ h) ?_); (conv => whnf))
        | (refine And.intro (fun h => ?_) (fun h => ?_) <;> (try simp only [decide_eq_true_eq, decide_eq_false_iff_not, Bool.not_eq_true', Bool.not_eq_false', Bool.not_true, Bool.not_false] at h) <;> first | (exfalso; omega) | (cases h; done) | (conv => whnf))
        | (refine And.intro ?_ ?_; (omega); (conv => whnf))
        | (refine Exists.intro _ (And.intro (And.intro rfl rfl) ?_); (conv => whnf))
        | (refine Exists.intro ?w (And.intro (Pl.den ?p) ?k); (case p => repeat constructor); (conv => whnf))
        | (refine Exists.intro _ (And.intro (by with_reducible rfl) ?_); (conv => whnf))
        | (refine Exists.intro _ (And.intro (cast_succ _) ?_); (conv => whnf))
        | (refine Exists.intro _ (And.intro (by assumption) ?_); (conv => whnf))
        | (refine Exists.intro _ (And.intro (Int.toNat_of_nonneg ?_).symm ?_); (omega); (conv => whnf))
        | (refine Exists.intro _ (And.intro rfl ?_); (conv => whnf))
        | (intro h; (try simp only [decide_eq_true_eq, decide_eq_false_iff_not, Bool.not_eq_true', Bool.not_eq_false', Bool.not_true, Bool.not_false] at h); first | (exfalso; omega) | (cases h; done) | (conv => whnf)))
      rename_i m sp
      have hsp := h
      refine ⟨(0 + 1, some ([Value.int .u8 0] ++ sp)), [1], ⟨⟨by simp only; omega, by simp only; omega, by simp, by rw [hb0]; rfl⟩, by simp only; omega⟩, rfl, ⟨SEq.ren rfl ?_, trivial⟩, ⟨OSub.ren rfl rfl, trivial⟩, fun f hf => hf⟩
      simp only [ren, List.length_append, List.length_singleton, hsp, Nat.mul_one]
      try rfl
    | some xs =>
      obtain ⟨h1, h2⟩ := hr
      simp only [FuS.inv]
      conv => whnf
      repeat' (first
        | (refine And.intro (by first | exact trivial | exact And.intro rfl trivial | exact And.intro rfl (And.intro rfl trivial) | exact And.intro rfl (And.intro rfl (And.intro rfl trivial))) (And.intro (fun _ h => h) ?_); (conv => whnf))
        | (refine And.intro (by first | exact trivial | exact And.intro rfl trivial | exact And.intro rfl (And.intro rfl trivial) | exact And.intro rfl (And.intro rfl (And.intro rfl trivial))) (And.intro (fun _ h => List.mem_cons_of_mem _ h) ?_); (conv => whnf))
        | (refine And.intro (by first | exact trivial | exact And.intro rfl trivial | exact And.intro rfl (And.intro rfl trivial) | exact And.intro rfl (And.intro rfl (And.intro rfl trivial))) (And.intro (fun _ h => List.mem_append_right _ h) ?_); (conv => whnf))
        | (refine And.intro (fun h => ?_) (fun h => ?_) <;> (try simp only [decide_eq_true_eq, decide_eq_false_iff_not, Bool.not_eq_true', Bool.not_eq_false', Bool.not_true, Bool.not_false] at h) <;> first | (exfalso; omega) | (cases h; done) | (conv => whnf))
        | (refine And.intro ?_ ?_; (omega); (conv => whnf))
        | (refine Exists.intro _ (And.intro (And.intro rfl rfl) ?_); (conv => whnf))
        | (refine Exists.intro ?w (And.intro (Pl.den ?p) ?k); (case p => repeat constructor); (conv => whnf))
        | (refine Exists.intro _ (And.intro (by with_reducible rfl) ?_); (conv => whnf))
        | (refine Exists.intro _ (And.intro (cast_succ _) ?_); (conv => whnf))
        | (refine Exists.intro _ (And.intro (by assumption) ?_); (conv => whnf))
        | (refine Exists.intro _ (And.intro (Int.toNat_of_nonneg ?_).symm ?_); (omega); (conv => whnf))
        | (refine Exists.intro _ (And.intro rfl ?_); (conv => whnf))
        | (intro h; (try simp only [decide_eq_true_eq, decide_eq_false_iff_not, Bool.not_eq_true', Bool.not_eq_false', Bool.not_true, Bool.not_false] at h); first | (exfalso; omega) | (cases h; done) | (conv => whnf)))
      · refine And.intro ⟨by omega, h1, by omega, fun u hu => by obtain rfl := List.mem_singleton.1 hu; rfl⟩ ?_
        intro m sp hsp
        conv => whnf
        repeat' (first
          | (refine And.intro (by first | exact trivial | exact And.intro rfl trivial | exact And.intro rfl (And.intro rfl trivial) | exact And.intro rfl (And.intro rfl (And.intro rfl trivial))) (And.intro (fun _ h => h) ?_); (conv => whnf))
          | (refine And.intro (by first | exact trivial | exact And.intro rfl trivial | exact And.intro rfl (And.intro rfl trivial) | exact And.intro rfl (And.intro rfl (And.intro rfl trivial))) (And.intro (fun _ h => List.mem_cons_of_mem _ h) ?_); (conv => whnf))
          | (refine And.intro (by first | exact trivial | exact And.intro rfl trivial | exact And.intro rfl (And.intro rfl trivial) | exact And.intro rfl (And.intro rfl (And.intro rfl trivial))) (And.intro (fun _ h => List.mem_append_right _ h) ?_); (conv => whnf))
          | (refine And.intro (fun h => ?_) (fun h => ?_) <;> (try simp only [decide_eq_true_eq, decide_eq_false_iff_not, Bool.not_eq_true', Bool.not_eq_false', Bool.not_true, Bool.not_false] at h) <;> first | (exfalso; omega) | (cases h; done) | (conv => whnf))
          | (refine And.intro ?_ ?_; (omega); (conv => whnf))
          | (refine Exists.intro _ (And.intro (And.intro rfl rfl) ?_); (conv => whnf))
          | (refine Exists.intro ?w (And.intro (Pl.den ?p) ?k); (case p => repeat constructor); (conv => whnf))
          | (refine Exists.intro _ (And.intro (by with_reducible rfl) ?_); (conv => whnf))
          | (refine Exists.intro _ (And.intro (cast_succ _) ?_); (conv => whnf))
          | (refine Exists.intro _ (And.intro (by assumption) ?_); (conv => whnf))
          | (refine Exists.intro _ (And.intro (Int.toNat_of_nonneg ?_).symm ?_); (omega); (conv => whnf))
          | (refine Exists.intro _ (And.intro rfl ?_); (conv => whnf))
          | (intro h; (try simp only [decide_eq_true_eq, decide_eq_false_iff_not, Bool.not_eq_true', Bool.not_eq_false', Bool.not_true, Bool.not_false] at h); first | (exfalso; omega) | (cases h; done) | (conv => whnf)))
        refine ⟨(k + 1, some (xs.take k ++ [Value.int .u8 0] ++ sp)), [2], ⟨⟨by simp only; omega, by simp only; omega, by simp; omega, ?_⟩, by simp only; omega⟩, rfl, ⟨SEq.ren rfl ?_, trivial⟩, ⟨OSub.ren rfl ?_, trivial⟩, fun f hf => hf⟩
        · rw [List.take_left' (by simp; omega), h2, fil_succ hbk, List.map_append]; rfl
        · simp only [ren, List.length_append, List.length_singleton, List.length_take, Nat.min_eq_left h1, hsp, Nat.mul_one]
          rfl
        · simp only [renO, Nat.mul_one]
      · obtain rfl : k = 64 := by omega
        exact ⟨(xs, xs.length), h2, Ret.mk [0] [(0, .row xs 5)] (Fold.drop1 (by repeat first | exact List.mem_cons_self .. | apply List.mem_cons_of_mem)) rfl (SEq.ren rfl rfl) ⟨OSub.ren rfl rfl, trivial⟩ (fun _ h => nomatch h)⟩
  · rename_i m0 sp0
    have hsp0 := h
    refine loop_by tok (FuS.inv A b.length cap fx) (FuP b) (fun x => 64 - x.1) (b.length, some (b.map bv ++ sp0)) [0] ⟨hb, Nat.le_refl _, by simp, by simp [fil]⟩ ⟨rfl, ⟨SEq.ren rfl (by simp [ren, hsp0, sg]), trivial⟩, ⟨OSub.ren rfl rfl, trivial⟩, fun f hf => hf⟩ ?_
    rintro ⟨k, row⟩ ⟨hk, hbk, hr⟩
    simp only at hk hbk hr
    have hfl := fil_length hbk
    cases row with
    | none =>
      obtain rfl : k = 0 := hr
      exfalso
      omega
    | some xs =>
      obtain ⟨h1, h2⟩ := hr
      simp only [FuS.inv]
      conv => whnf
      repeat' (first
        | (refine And.intro (by first | exact trivial | exact And.intro rfl trivial | exact And.intro rfl (And.intro rfl trivial) | exact And.intro rfl (And.intro rfl (And.intro rfl trivial))) (And.intro (fun _ h => h) ?_); (conv => whnf))
        | (refine And.intro (by first | exact trivial | exact And.intro rfl trivial | exact And.intro rfl (And.intro rfl trivial) | exact And.intro rfl (And.intro rfl (And.intro rfl trivial))) (And.intro (fun _ h => List.mem_cons_of_mem _ h) ?_); (conv => whnf))
        | (refine And.intro (by first | exact trivial | exact And.intro rfl trivial | exact And.intro rfl (And.intro rfl trivial) | exact And.intro rfl (And.intro rfl (And.intro rfl trivial))) (And.intro (fun _ h => List.mem_append_right _ h) ?_); (conv => whnf))
        | (refine And.intro (fun h => ?_) (fun h => ?_) <;> (try simp only [decide_eq_true_eq, decide_eq_false_iff_not, Bool.not_eq_true', Bool.not_eq_false', Bool.not_true, Bool.not_false] at h) <;> first | (exfalso; omega) | (cases h; done) | (conv => whnf))
        | (refine And.intro ?_ ?_; (omega); (conv => whnf))
        | (refine Exists.intro _ (And.intro (And.intro rfl rfl) ?_); (conv => whnf))
        | (refine Exists.intro ?w (And.intro (Pl.den ?p) ?k); (case p => repeat constructor); (conv => whnf))
        | (refine Exists.intro _ (And.intro (by with_reducible rfl) ?_); (conv => whnf))
        | (refine Exists.intro _ (And.intro (cast_succ _) ?_); (conv => whnf))
        | (refine Exists.intro _ (And.intro (by assumption) ?_); (conv => whnf))
        | (refine Exists.intro _ (And.intro (Int.toNat_of_nonneg ?_).symm ?_); (omega); (conv => whnf))
        | (refine Exists.intro _ (And.intro rfl ?_); (conv => whnf))
        | (intro h; (try simp only [decide_eq_true_eq, decide_eq_false_iff_not, Bool.not_eq_true', Bool.not_eq_false', Bool.not_true, Bool.not_false] at h); first | (exfalso; omega) | (cases h; done) | (conv => whnf)))
      · refine And.intro ⟨by omega, h1, by omega, fun u hu => by obtain rfl := List.mem_singleton.1 hu; rfl⟩ ?_
        intro m sp hsp
        conv => whnf
        repeat' (first
          | (refine And.intro (by first | exact trivial | exact And.intro rfl trivial | exact And.intro rfl (And.intro rfl trivial) | exact And.intro rfl (And.intro rfl (And.intro rfl trivial))) (And.intro (fun _ h => h) ?_); (conv => whnf))
          | (refine And.intro (by first | exact trivial | exact And.intro rfl trivial | exact And.intro rfl (And.intro rfl trivial) | exact And.intro rfl (And.intro rfl (And.intro rfl trivial))) (And.intro (fun _ h => List.mem_cons_of_mem _ h) ?_); (conv => whnf))
          | (refine And.intro (by first | exact trivial | exact And.intro rfl trivial | exact And.intro rfl (And.intro rfl trivial) | exact And.intro rfl (And.intro rfl (And.intro rfl trivial))) (And.intro (fun _ h => List.mem_append_right _ h) ?_); (conv => whnf))
          | (refine And.intro (fun h => ?_) (fun h => ?_) <;> (try simp only [decide_eq_true_eq, decide_eq_false_iff_not, Bool.not_eq_true', Bool.not_eq_false', Bool.not_true, Bool.not_false] at h) <;> first | (exfalso; omega) | (cases h; done) | (conv => whnf))
          | (refine And.intro ?_ ?_; (omega); (conv => whnf))
          | (refine Exists.intro _ (And.intro (And.intro rfl rfl) ?_); (conv => whnf))
          | (refine Exists.intro ?w (And.intro (Pl.den ?p) ?k); (case p => repeat constructor); (conv => whnf))
          | (refine Exists.intro _ (And.intro (by with_reducible rfl) ?_); (conv => whnf))
          | (refine Exists.intro _ (And.intro (cast_succ _) ?_); (conv => whnf))
          | (refine Exists.intro _ (And.intro (by assumption) ?_); (conv => whnf))
          | (refine Exists.intro _ (And.intro (Int.toNat_of_nonneg ?_).symm ?_); (omega); (conv => whnf))
          | (refine Exists.intro _ (And.intro rfl ?_); (conv => whnf))
          | (intro h; (try simp only [decide_eq_true_eq, decide_eq_false_iff_not, Bool.not_eq_true', Bool.not_eq_false', Bool.not_true, Bool.not_false] at h); first | (exfalso; omega) | (cases h; done) | (conv => whnf)))
        refine ⟨(k + 1, some (xs.take k ++ [Value.int .u8 0] ++ sp)), [2], ⟨⟨by simp only; omega, by simp only; omega, by simp; omega, ?_⟩, by simp only; omega⟩, rfl, ⟨SEq.ren rfl ?_, trivial⟩, ⟨OSub.ren rfl ?_, trivial⟩, fun f hf => hf⟩
        · rw [List.take_left' (by simp; omega), h2, fil_succ hbk, List.map_append]; rfl
        · simp only [ren, List.length_append, List.length_singleton, List.length_take, Nat.min_eq_left h1, hsp, Nat.mul_one]
          rfl
        · simp only [renO, Nat.mul_one]
      · obtain rfl : k = 64 := by omega
        exact ⟨(xs, xs.length), h2, Ret.mk [0] [(0, .row xs 5)] (Fold.drop1 (by repeat first | exact List.mem_cons_self .. | apply List.mem_cons_of_mem)) rfl (SEq.ren rfl rfl) ⟨OSub.ren rfl rfl, trivial⟩ (fun _ h => nomatch h)⟩
theorem tFull (fx : List Fact) (A : Option Addr) (cap : Nat) (b : List UInt8) (hB : BytesAt fx A b) (hb : b.length ≤ 64) :
    Tri Try.prog 42 [.v (.slice A b.length cap)] [] 0 fx (RetE (α := Nat × List Value × Nat) 0 (fun x => x.2.1.take 64 = (pad b).map bv) (fun x => .v (.slice (some ⟨x.1, 0, none⟩) 64 x.2.2)) (fun _ => []) 0 (fun x => [rowFact x.1 x.2.1 5])) := by
  refine (tFullRaw fx A cap b hB hb).conv.share fun y h m f ⟨⟨xs, c⟩, hp, e1, e2, e3, e4⟩ => ?_
  subst e1 e2 e3 e4
  exact ⟨0, xs, 5, List.mem_singleton.2 rfl, fun bb => ⟨.v (.slice (some ⟨bb, 0, none⟩) 64 c), fun ρ hr => by subst hr; rfl, (bb, xs, c), hp, Ret.noneS rfl (fun _ _ => rfl) (fun g hg => by simpa using hg)⟩⟩
/-- Have three sectors the same? -/
theorem tSteady (fx : List Fact) (d : DS) (hd : d.Ok) (h : d.down = false) (p : Nat) (hp : p + 2 < d.l.length) (x : Sec) (h0 : d.get p = x) (h1 : d.get (p + 1) = x) (h2 : d.get (p + 2) = x) :
    Tri Try.prog 46 [.p 0 0, .v (.int .i64 p)] [dsk 0 d] 1 fx (Ret 1 (.b true) [dsk 0 d] 1 []) := by
  have hlen := hd.len
  have hx : x.length = 64 := by rw [← h0]; exact hd.get_length (by omega)
  refine Tri.of_code tok Try.func46 rfl rfl rfl (by decide) rfl (Nat.le_of_ble_eq_true rfl) ?_
  conv => whnf
  repeat' (first
    | (refine And.intro (by first | exact trivial | exact And.intro rfl trivial | exact And.intro rfl (And.intro rfl trivial) | exact And.intro rfl (And.intro rfl (And.intro rfl trivial))) (And.intro (fun _ h => h) ?_); (conv => whnf))
    | (refine And.intro (by first | exact trivial | exact And.intro rfl trivial | exact And.intro rfl (And.intro rfl trivial) | exact And.intro rfl (And.intro rfl (And.intro rfl trivial))) (And.intro (fun _ h => List.mem_cons_of_mem _ h) ?_); (conv => whnf))
    | (refine And.intro (by first | exact trivial | exact And.intro rfl trivial | exact And.intro rfl (And.intro rfl trivial) | exact And.intro rfl (And.intro rfl (And.intro rfl trivial))) (And.intro (fun _ h => List.mem_append_right _ h) ?_); (conv => whnf))
    | (refine And.intro (fun h => ?_) (fun h => ?_) <;> (try simp only [decide_eq_true_eq, decide_eq_false_iff_not, Bool.not_eq_true', Bool.not_eq_false', Bool.not_true, Bool.not_false] at h) <;> first | (exfalso; omega) | (cases h; done) | (conv => whnf))
    | (refine And.intro ?_ ?_; (omega); (conv => whnf))
    | (refine Exists.intro _ (And.intro (And.intro rfl rfl) ?_); (conv => whnf))
    | (refine Exists.intro ?w (And.intro (Pl.den ?p) ?k); (case p => repeat constructor); (conv => whnf))
    | (refine Exists.intro _ (And.intro (by with_reducible rfl) ?_); (conv => whnf))
    | (refine Exists.intro _ (And.intro (cast_succ _) ?_); (conv => whnf))
    | (refine Exists.intro _ (And.intro (by assumption) ?_); (conv => whnf))
    | (refine Exists.intro _ (And.intro (Int.toNat_of_nonneg ?_).symm ?_); (omega); (conv => whnf))
    | (refine Exists.intro _ (And.intro rfl ?_); (conv => whnf))
    | (intro h; (try simp only [decide_eq_true_eq, decide_eq_false_iff_not, Bool.not_eq_true', Bool.not_eq_false', Bool.not_true, Bool.not_false] at h); first | (exfalso; omega) | (cases h; done) | (conv => whnf)))
  refine Tri.use (tReadF fx d hd h p (by omega)) [0] rfl (args_ren rfl rfl) ⟨OSub.ren rfl rfl, trivial⟩ (fun f hf => by first | exact hf | cases hf | simp_all) (fun u hu => ?_)
  obtain ⟨b0, s0⟩ := u
  conv => whnf
  repeat' (first
    | (refine And.intro (by first | exact trivial | exact And.intro rfl trivial | exact And.intro rfl (And.intro rfl trivial) | exact And.intro rfl (And.intro rfl (And.intro rfl trivial))) (And.intro (fun _ h => h) ?_); (conv => whnf))
    | (refine And.intro (by first | exact trivial | exact And.intro rfl trivial | exact And.intro rfl (And.intro rfl trivial) | exact And.intro rfl (And.intro rfl (And.intro rfl trivial))) (And.intro (fun _ h => List.mem_cons_of_mem _ h) ?_); (conv => whnf))
    | (refine And.intro (by first | exact trivial | exact And.intro rfl trivial | exact And.intro rfl (And.intro rfl trivial) | exact And.intro rfl (And.intro rfl (And.intro rfl trivial))) (And.intro (fun _ h => List.mem_append_right _ h) ?_); (conv => whnf))
    | (refine And.intro (fun h => ?_) (fun h => ?_) <;> (try simp only [decide_eq_true_eq, decide_eq_false_iff_not, Bool.not_eq_true', Bool.not_eq_false', Bool.not_true, Bool.not_false] at h) <;> first | (exfalso; omega) | (cases h; done) | (conv => whnf))
    | (refine And.intro ?_ ?_; (omega); (conv => whnf))
    | (refine Exists.intro _ (And.intro (And.intro rfl rfl) ?_); (conv => whnf))
    | (refine Exists.intro ?w (And.intro (Pl.den ?p) ?k); (case p => repeat constructor); (conv => whnf))
    | (refine Exists.intro _ (And.intro (by with_reducible rfl) ?_); (conv => whnf))
    | (refine Exists.intro _ (And.intro (cast_succ _) ?_); (conv => whnf))
    | (refine Exists.intro _ (And.intro (by assumption) ?_); (conv => whnf))
    | (refine Exists.intro _ (And.intro (Int.toNat_of_nonneg ?_).symm ?_); (omega); (conv => whnf))
    | (refine Exists.intro _ (And.intro rfl ?_); (conv => whnf))
    | (intro h; (try simp only [decide_eq_true_eq, decide_eq_false_iff_not, Bool.not_eq_true', Bool.not_eq_false', Bool.not_true, Bool.not_false] at h); first | (exfalso; omega) | (cases h; done) | (conv => whnf)))
  refine Tri.use (tReadF (rowFact b0 ((d.get p).map bv ++ s0) 5 :: fx) d hd h (p + 1) (by omega)) [0] rfl (args_cons (SEq.ren rfl rfl) (fun _ _ _ => by simp [denL, den])) ⟨OSub.ren rfl rfl, trivial⟩ (fun f hf => hf) fun u hu => ?_
  obtain ⟨b1, s1⟩ := u
  conv => whnf
  repeat' (first
    | (refine And.intro (by first | exact trivial | exact And.intro rfl trivial | exact And.intro rfl (And.intro rfl trivial) | exact And.intro rfl (And.intro rfl (And.intro rfl trivial))) (And.intro (fun _ h => h) ?_); (conv => whnf))
    | (refine And.intro (by first | exact trivial | exact And.intro rfl trivial | exact And.intro rfl (And.intro rfl trivial) | exact And.intro rfl (And.intro rfl (And.intro rfl trivial))) (And.intro (fun _ h => List.mem_cons_of_mem _ h) ?_); (conv => whnf))
    | (refine And.intro (by first | exact trivial | exact And.intro rfl trivial | exact And.intro rfl (And.intro rfl trivial) | exact And.intro rfl (And.intro rfl (And.intro rfl trivial))) (And.intro (fun _ h => List.mem_append_right _ h) ?_); (conv => whnf))
    | (refine And.intro (fun h => ?_) (fun h => ?_) <;> (try simp only [decide_eq_true_eq, decide_eq_false_iff_not, Bool.not_eq_true', Bool.not_eq_false', Bool.not_true, Bool.not_false] at h) <;> first | (exfalso; omega) | (cases h; done) | (conv => whnf))
    | (refine And.intro ?_ ?_; (omega); (conv => whnf))
    | (refine Exists.intro _ (And.intro (And.intro rfl rfl) ?_); (conv => whnf))
    | (refine Exists.intro ?w (And.intro (Pl.den ?p) ?k); (case p => repeat constructor); (conv => whnf))
    | (refine Exists.intro _ (And.intro (by with_reducible rfl) ?_); (conv => whnf))
    | (refine Exists.intro _ (And.intro (cast_succ _) ?_); (conv => whnf))
    | (refine Exists.intro _ (And.intro (by assumption) ?_); (conv => whnf))
    | (refine Exists.intro _ (And.intro (Int.toNat_of_nonneg ?_).symm ?_); (omega); (conv => whnf))
    | (refine Exists.intro _ (And.intro rfl ?_); (conv => whnf))
    | (intro h; (try simp only [decide_eq_true_eq, decide_eq_false_iff_not, Bool.not_eq_true', Bool.not_eq_false', Bool.not_true, Bool.not_false] at h); first | (exfalso; omega) | (cases h; done) | (conv => whnf)))
  refine Tri.use (tReadF (rowFact b1 ((d.get (p + 1)).map bv ++ s1) 5 :: rowFact b0 ((d.get p).map bv ++ s0) 5 :: fx) d hd h (p + 2) (by omega)) [0] rfl (args_cons (SEq.ren rfl rfl) (fun _ _ _ => by simp [denL, den])) ⟨OSub.ren rfl rfl, trivial⟩ (fun f hf => hf) fun u hu => ?_
  obtain ⟨b2, s2⟩ := u
  conv => whnf
  repeat' (first
    | (refine And.intro (by first | exact trivial | exact And.intro rfl trivial | exact And.intro rfl (And.intro rfl trivial) | exact And.intro rfl (And.intro rfl (And.intro rfl trivial))) (And.intro (fun _ h => h) ?_); (conv => whnf))
    | (refine And.intro (by first | exact trivial | exact And.intro rfl trivial | exact And.intro rfl (And.intro rfl trivial) | exact And.intro rfl (And.intro rfl (And.intro rfl trivial))) (And.intro (fun _ h => List.mem_cons_of_mem _ h) ?_); (conv => whnf))
    | (refine And.intro (by first | exact trivial | exact And.intro rfl trivial | exact And.intro rfl (And.intro rfl trivial) | exact And.intro rfl (And.intro rfl (And.intro rfl trivial))) (And.intro (fun _ h => List.mem_append_right _ h) ?_); (conv => whnf))
    | (refine And.intro (fun h => ?_) (fun h => ?_) <;> (try simp only [decide_eq_true_eq, decide_eq_false_iff_not, Bool.not_eq_true', Bool.not_eq_false', Bool.not_true, Bool.not_false] at h) <;> first | (exfalso; omega) | (cases h; done) | (conv => whnf))
    | (refine And.intro ?_ ?_; (omega); (conv => whnf))
    | (refine Exists.intro _ (And.intro (And.intro rfl rfl) ?_); (conv => whnf))
    | (refine Exists.intro ?w (And.intro (Pl.den ?p) ?k); (case p => repeat constructor); (conv => whnf))
    | (refine Exists.intro _ (And.intro (by with_reducible rfl) ?_); (conv => whnf))
    | (refine Exists.intro _ (And.intro (cast_succ _) ?_); (conv => whnf))
    | (refine Exists.intro _ (And.intro (by assumption) ?_); (conv => whnf))
    | (refine Exists.intro _ (And.intro (Int.toNat_of_nonneg ?_).symm ?_); (omega); (conv => whnf))
    | (refine Exists.intro _ (And.intro rfl ?_); (conv => whnf))
    | (intro h; (try simp only [decide_eq_true_eq, decide_eq_false_iff_not, Bool.not_eq_true', Bool.not_eq_false', Bool.not_true, Bool.not_false] at h); first | (exfalso; omega) | (cases h; done) | (conv => whnf)))
  have a0 : BytesAt (rowFact b2 ((d.get (p + 2)).map bv ++ s2) 5 :: rowFact b1 ((d.get (p + 1)).map bv ++ s1) 5 :: rowFact b0 ((d.get p).map bv ++ s0) 5 :: fx) (some ⟨b0, 0, none⟩) x := BytesAt.row (xs := (d.get p).map bv ++ s0) (T := 5) (by repeat first | exact List.mem_cons_self .. | apply List.mem_cons_of_mem) (by rw [List.drop_zero, h0, List.take_left' (by simp)])
  have a1 : BytesAt (rowFact b2 ((d.get (p + 2)).map bv ++ s2) 5 :: rowFact b1 ((d.get (p + 1)).map bv ++ s1) 5 :: rowFact b0 ((d.get p).map bv ++ s0) 5 :: fx) (some ⟨b1, 0, none⟩) x := BytesAt.row (xs := (d.get (p + 1)).map bv ++ s1) (T := 5) (by repeat first | exact List.mem_cons_self .. | apply List.mem_cons_of_mem) (by rw [List.drop_zero, h1, List.take_left' (by simp)])
  have a2 : BytesAt (rowFact b2 ((d.get (p + 2)).map bv ++ s2) 5 :: rowFact b1 ((d.get (p + 1)).map bv ++ s1) 5 :: rowFact b0 ((d.get p).map bv ++ s0) 5 :: fx) (some ⟨b2, 0, none⟩) x := BytesAt.row (xs := (d.get (p + 2)).map bv ++ s2) (T := 5) (by repeat first | exact List.mem_cons_self .. | apply List.mem_cons_of_mem) (by rw [List.drop_zero, h2, List.take_left' (by simp)])
  have t1 := tSame _ _ _ (64 + s0.length) (64 + s1.length) x x a0 a1 (by omega)
  have t2 := tSame _ _ _ (64 + s1.length) (64 + s2.length) x x a1 a2 (by omega)
  rw [hx, decide_eq_true (rfl : x = x)] at t1 t2
  refine Tri.use t1.one [] rfl (args_ren rfl rfl) trivial (fun f hf => by first | exact hf | cases hf | simp_all) (fun u hu => ?_)
  conv => whnf
  repeat' (first
    | (refine And.intro (by first | exact trivial | exact And.intro rfl trivial | exact And.intro rfl (And.intro rfl trivial) | exact And.intro rfl (And.intro rfl (And.intro rfl trivial))) (And.intro (fun _ h => h) ?_); (conv => whnf))
    | (refine And.intro (by first | exact trivial | exact And.intro rfl trivial | exact And.intro rfl (And.intro rfl trivial) | exact And.intro rfl (And.intro rfl (And.intro rfl trivial))) (And.intro (fun _ h => List.mem_cons_of_mem _ h) ?_); (conv => whnf))
    | (refine And.intro (by first | exact trivial | exact And.intro rfl trivial | exact And.intro rfl (And.intro rfl trivial) | exact And.intro rfl (And.intro rfl (And.intro rfl trivial))) (And.intro (fun _ h => List.mem_append_right _ h) ?_); (conv => whnf))
    | (refine And.intro (fun h => ?_) (fun h => ?_) <;> (try simp only [decide_eq_true_eq, decide_eq_false_iff_not, Bool.not_eq_true', Bool.not_eq_false', Bool.not_true, Bool.not_false] at h) <;> first | (exfalso; omega) | (cases h; done) | (conv => whnf))
    | (refine And.intro ?_ ?_; (omega); (conv => whnf))
    | (refine Exists.intro _ (And.intro (And.intro rfl rfl) ?_); (conv => whnf))
    | (refine Exists.intro ?w (And.intro (Pl.den ?p) ?k); (case p => repeat constructor); (conv => whnf))
    | (refine Exists.intro _ (And.intro (by with_reducible rfl) ?_); (conv => whnf))
    | (refine Exists.intro _ (And.intro (cast_succ _) ?_); (conv => whnf))
    | (refine Exists.intro _ (And.intro (by assumption) ?_); (conv => whnf))
    | (refine Exists.intro _ (And.intro (Int.toNat_of_nonneg ?_).symm ?_); (omega); (conv => whnf))
    | (refine Exists.intro _ (And.intro rfl ?_); (conv => whnf))
    | (intro h; (try simp only [decide_eq_true_eq, decide_eq_false_iff_not, Bool.not_eq_true', Bool.not_eq_false', Bool.not_true, Bool.not_false] at h); first | (exfalso; omega) | (cases h; done) | (conv => whnf)))
  refine Tri.use t2.one [] rfl (args_ren rfl rfl) trivial (fun f hf => by first | exact hf | cases hf | simp_all) (fun u hu => ?_)
  conv => whnf
  repeat' (first
    | (refine And.intro (by first | exact trivial | exact And.intro rfl trivial | exact And.intro rfl (And.intro rfl trivial) | exact And.intro rfl (And.intro rfl (And.intro rfl trivial))) (And.intro (fun _ h => h) ?_); (conv => whnf))
    | (refine And.intro (by first | exact trivial | exact And.intro rfl trivial | exact And.intro rfl (And.intro rfl trivial) | exact And.intro rfl (And.intro rfl (And.intro rfl trivial))) (And.intro (fun _ h => List.mem_cons_of_mem _ h) ?_); (conv => whnf))
    | (refine And.intro (by first | exact trivial | exact And.intro rfl trivial | exact And.intro rfl (And.intro rfl trivial) | exact And.intro rfl (And.intro rfl (And.intro rfl trivial))) (And.intro (fun _ h => List.mem_append_right _ h) ?_); (conv => whnf))
    | (refine And.intro (fun h => ?_) (fun h => ?_) <;> (try simp only [decide_eq_true_eq, decide_eq_false_iff_not, Bool.not_eq_true', Bool.not_eq_false', Bool.not_true, Bool.not_false] at h) <;> first | (exfalso; omega) | (cases h; done) | (conv => whnf))
    | (refine And.intro ?_ ?_; (omega); (conv => whnf))
    | (refine Exists.intro _ (And.intro (And.intro rfl rfl) ?_); (conv => whnf))
    | (refine Exists.intro ?w (And.intro (Pl.den ?p) ?k); (case p => repeat constructor); (conv => whnf))
    | (refine Exists.intro _ (And.intro (by with_reducible rfl) ?_); (conv => whnf))
    | (refine Exists.intro _ (And.intro (cast_succ _) ?_); (conv => whnf))
    | (refine Exists.intro _ (And.intro (by assumption) ?_); (conv => whnf))
    | (refine Exists.intro _ (And.intro (Int.toNat_of_nonneg ?_).symm ?_); (omega); (conv => whnf))
    | (refine Exists.intro _ (And.intro rfl ?_); (conv => whnf))
    | (intro h; (try simp only [decide_eq_true_eq, decide_eq_false_iff_not, Bool.not_eq_true', Bool.not_eq_false', Bool.not_true, Bool.not_false] at h); first | (exfalso; omega) | (cases h; done) | (conv => whnf)))
  exact Ret.mk [0] [dsk 0 d] (Fold.drop1 (by repeat first | exact List.mem_cons_self .. | apply List.mem_cons_of_mem)) rfl (fun _ _ _ => rfl) ⟨OSub.ren rfl rfl, trivial⟩ (fun _ h => nomatch h)
end Go.Proofs.Ytekgjjanikicnaa.Sx
