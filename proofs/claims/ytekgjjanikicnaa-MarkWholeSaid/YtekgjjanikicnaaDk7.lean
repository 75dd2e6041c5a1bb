/- What a disk's calls do: crashes. -/
import Derived.Test.YtekgjjanikicnaaDk6
namespace Go.Proofs.Ytekgjjanikicnaa.Sx
open Go
set_option maxRecDepth 100000
set_option linter.unusedSimpArgs false
set_option linter.unusedVariables false

/-- A part of a sector, laid into it. -/
theorem flat_part {l : List Sec} {i : Nat} {s p : Sec} (h : ∀ s ∈ l, s.length = 64) (hi : l[i]? = some s) (hp : p.length ≤ 64) : splice (flat l) (i * 64) (p.map bv) = flat (l.set i (p ++ s.drop p.length)) := by
  have hl := (List.getElem?_eq_some_iff.1 hi).1
  have hs : s.length = 64 := h s (List.mem_of_getElem? hi)
  have hf := flat_length h
  rw [← flat_set (p ++ s.drop p.length) h hl (by simp [hs]; omega)]
  have hg := flat_get h hi
  have e : (flat l).drop (i * 64) = s.map bv ++ (flat l).drop (i * 64 + 64) := by
    rw [← hg, ← List.drop_drop, List.take_append_drop]
  simp only [splice, List.length_map, List.length_append, List.length_drop, hs]
  rw [show p.length + (64 - p.length) = 64 by omega, ← List.drop_drop, e, List.drop_append, List.map_append, List.map_drop]
  simp only [List.length_map, hs, List.append_assoc]
  rw [show p.length - 64 = 0 by omega, List.drop_zero]
theorem set_same {α : Type} {l : List α} {i : Nat} {x : α} (h : l[i]? = some x) : l.set i x = l := by
  apply List.ext_getElem?
  intro j
  rw [List.getElem?_set]
  split
  · rename_i e; subst e; rw [h]; split
    · rfl
    · rename_i hn; exact absurd (List.getElem?_eq_some_iff.1 h).1 hn
  · rfl
structure CrS where
  i : Nat
  k : Nat
  l : List Sec
structure CrP (d : DS) (keep : List Bool) (torn at_ : Int) (x : CrS) : Prop where
  i : x.i ≤ d.l.length
  k : x.k ≤ x.i
  len : x.l.length = d.l.length
  sec : ∀ s ∈ x.l, s.length = 64
  rest : x.l.drop x.i = d.l.drop x.i
  eq : x.l.take x.i ++ crashGo d.c keep torn at_ (d.l.drop x.i) x.i x.k = crashGo d.c keep torn at_ d.l 0 0
theorem crashGo_none {c : Int → Option Sec} {keep : List Bool} {torn at_ : Int} {s : Sec} {r : List Sec} {i k : Nat} (h : c (i : Int) = none) : crashGo c keep torn at_ (s :: r) i k = s :: crashGo c keep torn at_ r (i + 1) k := by
  rw [crashGo, h]
theorem crashGo_some {c : Int → Option Sec} {keep : List Bool} {torn at_ : Int} {s t : Sec} {r : List Sec} {i k : Nat} (h : c (i : Int) = some t) : crashGo c keep torn at_ (s :: r) i k = left k keep torn at_ s t :: crashGo c keep torn at_ r (i + 1) (k + 1) := by
  rw [crashGo, h]
theorem CrP.here {d : DS} {keep : List Bool} {torn at_ : Int} {x : CrS} (h : CrP d keep torn at_ x) (hi : x.i < d.l.length) : x.l[x.i]? = some d.l[x.i] := by
  have e := congrArg (·[0]?) h.rest
  simp only [List.getElem?_drop, Nat.add_zero] at e
  rw [e, List.getElem?_eq_getElem hi]
theorem CrP.skip {d : DS} {keep : List Bool} {torn at_ : Int} {x : CrS} (h : CrP d keep torn at_ x) (hi : x.i < d.l.length) (hc : d.c (x.i : Int) = none) : CrP d keep torn at_ ⟨x.i + 1, x.k, x.l⟩ := by
  have hk := h.k
  refine ⟨hi, show x.k ≤ x.i + 1 by omega, h.len, h.sec, ?_, ?_⟩
  · simp only
    rw [← List.drop_drop, h.rest, List.drop_drop]
  · have e := h.eq
    rw [List.drop_eq_getElem_cons hi, crashGo_none hc] at e
    simp only
    rw [take_succ_of (h.here hi), List.append_assoc]
    exact e
theorem CrP.step {d : DS} {keep : List Bool} {torn at_ : Int} {x : CrS} (h : CrP d keep torn at_ x) (hi : x.i < d.l.length) {t : Sec} (hc : d.c (x.i : Int) = some t) (ht : t.length = 64) : CrP d keep torn at_ ⟨x.i + 1, x.k + 1, x.l.set x.i (left x.k keep torn at_ d.l[x.i] t)⟩ := by
  have hk := h.k
  have hs64 : d.l[x.i].length = 64 := h.sec _ (List.mem_of_getElem? (h.here hi))
  refine ⟨hi, show x.k + 1 ≤ x.i + 1 by omega, by simpa using h.len, fun s hs => ?_, ?_, ?_⟩
  · rcases List.mem_or_eq_of_mem_set hs with hs | rfl
    · exact h.sec s hs
    · exact left_length hs64 ht
  · simp only
    rw [List.drop_set_of_lt (by omega), ← List.drop_drop, h.rest, List.drop_drop]
  · have e := h.eq
    rw [List.drop_eq_getElem_cons hi, crashGo_some hc] at e
    simp only
    have hxl : x.i < x.l.length := by rw [h.len]; exact hi
    rw [take_succ_of (l := x.l.set x.i _) (x := left x.k keep torn at_ d.l[x.i] t) (by simp [hxl]), List.take_set_of_le (Nat.le_refl _), List.append_assoc]
    exact e
theorem CrP.done {d : DS} {keep : List Bool} {torn at_ : Int} {x : CrS} (h : CrP d keep torn at_ x) (hi : x.i = d.l.length) : x.l = crashGo d.c keep torn at_ d.l 0 0 := by
  have e := h.eq
  rw [hi, List.drop_length, List.take_of_length_le (by rw [h.len]; exact Nat.le_refl _)] at e
  simpa [crashGo] using e
theorem tCrash (fx : List Fact) (d : DS) (hd : d.Ok) (A : Option Addr) (cap : Nat) (keep : List Bool) (torn at_ : Int) (hK : BoolsAt fx A keep) (hk : keep.length ≤ 1000000000) (ht : -9223372036854775808 ≤ at_ ∧ at_ < 9223372036854775808) :
    Tri Try.prog 28 [.p 0 0, .agg [.v (.slice A keep.length cap), .v (.int .i64 torn), .v (.int .i64 at_)]] [dsk 0 d] 1 fx (RetE (α := Unit) 1 (fun _ => True) (fun _ => .tup []) (fun _ => [dsk 0 (d.crash keep torn at_)]) 1 (fun _ => [])) := by
  refine Tri.toldE (told_dsk d) (fun xs w => by simp [callFunc, Try.func28, Try.f28]) 0 (List.mem_singleton.2 rfl) fun v => Tri.one ?_
  show Tri _ 28 _ [(0, .cells [.s 1 0 d.l.length d.l.length, .m 2, .v (.int .i64 d.fuse), .v (.bool d.down)] 101), (1, .row (flat d.l) 102), (2, .map v.es v.clk)] 3 fx _
  have hf := hd.fus
  have hlen := hd.len
  refine Tri.of_code tok Try.func28 rfl rfl rfl (by decide) rfl (Nat.le_of_ble_eq_true rfl) ?_
  conv => whnf
  repeat' (first
    | (refine And.intro (by first | exact trivial | exact And.intro rfl trivial | exact And.intro rfl (And.intro rfl trivial) | exact And.intro rfl (And.intro rfl (And.intro rfl trivial))) (And.intro (fun _ h => h) ?_); (conv => whnf))
    | (refine And.intro (by first | exact trivial | exact And.intro rfl trivial | exact And.intro rfl (And.intro rfl trivial) | exact And.intro rfl (And.intro rfl (And.intro rfl trivial))) (And.intro (fun _ h => List.mem_cons_of_mem _ h) ?_); (conv => whnf))
    | (refine And.intro (by first | exact trivial | exact And.intro rfl trivial | exact And.intro rfl (And.intro rfl trivial) | exact And.intro rfl (And.intro rfl (And.intro rfl trivial))) (And.intro (fun _ h => List.mem_append_right _ h) ?_); (conv => whnf))
    | (refine And.intro (fun h => ?_) (fun h => ?_) <;> (try simp only [decide_eq_true_eq, decide_eq_false_iff_not, Bool.not_eq_true', Bool.not_eq_false', Bool.not_true, Bool.not_false] at h) <;> first | (exfalso; omega) | (cases h; done) | (conv => whnf))
    | (refine And.intro ?_ ?_; (omega); (conv => whnf))
    | (refine Exists.intro _ (And.intro (And.intro rfl rfl) ?_); (conv => whnf))
    | (refine Exists.intro ?w (And.intro (Pl.den ?p) ?k); (case p => repeat constructor); (conv => whnf))
    | (refine Exists.intro _ (And.intro (by with_reducible rfl) ?_); (conv => whnf))
    | (refine Exists.intro _ (And.intro (cast_succ _) ?_); (conv => whnf))
    | (refine Exists.intro _ (And.intro (by assumption) ?_); (conv => whnf))
    | (refine Exists.intro _ (And.intro (Int.toNat_of_nonneg ?_).symm ?_); (omega); (conv => whnf))
    | (refine Exists.intro _ (And.intro rfl ?_); (conv => whnf))
    | (intro h; (try simp only [decide_eq_true_eq, decide_eq_false_iff_not, Bool.not_eq_true', Bool.not_eq_false', Bool.not_true, Bool.not_false] at h); first | (exfalso; omega) | (cases h; done) | (conv => whnf)))
  refine loop_by tok (α := CrS) (fun x => match x with | ⟨i, k, l⟩ => ⟨[(0, .p 0 0), (3, .p 3 0), (4, .v (.int .i64 k)), (14, .v (.int .i64 d.l.length)), (15, .v (.int .i64 i))],
      [(0, .cells [.s 1 0 d.l.length d.l.length, .m 2, .v (.int .i64 d.fuse), .v (.bool d.down)] 101), (1, .row (flat l) 102), (2, .map v.es v.clk), (3, .cells [.v (.slice A keep.length cap), .v (.int .i64 torn), .v (.int .i64 at_)] 37)], 4, fx⟩)
    (CrP d keep torn at_) (fun x => d.l.length - x.i) ⟨0, 0, d.l⟩ [0, 1, 2, 3] ⟨Nat.zero_le _, Nat.le_refl _, rfl, hd.sec, rfl, rfl⟩ ⟨rfl, ⟨SEq.ren rfl rfl, SEq.ren rfl rfl, fun _ _ _ => rfl, fun _ _ _ => rfl, fun _ _ _ => rfl, trivial⟩, ⟨OSub.ren rfl rfl, OSub.ren rfl rfl, OSub.ren rfl rfl, OSub.ren rfl rfl, trivial⟩, fun f hf => hf⟩ ?_
  rintro ⟨i, k, l⟩ hx
  have hxi := hx.i
  have hxk := hx.k
  have hxl := hx.len
  have hsec := hx.sec
  simp only at hxi hxk hxl hsec
  conv => whnf
  repeat' (first
    | (refine And.intro (by first | exact trivial | exact And.intro rfl trivial | exact And.intro rfl (And.intro rfl trivial) | exact And.intro rfl (And.intro rfl (And.intro rfl trivial))) (And.intro (fun _ h => h) ?_); (conv => whnf))
    | (refine And.intro (by first | exact trivial | exact And.intro rfl trivial | exact And.intro rfl (And.intro rfl trivial) | exact And.intro rfl (And.intro rfl (And.intro rfl trivial))) (And.intro (fun _ h => List.mem_cons_of_mem _ h) ?_); (conv => whnf))
    | (refine And.intro (by first | exact trivial | exact And.intro rfl trivial | exact And.intro rfl (And.intro rfl trivial) | exact And.intro rfl (And.intro rfl (And.intro rfl trivial))) (And.intro (fun _ h => List.mem_append_right _ h) ?_); (conv => whnf))
    | (refine And.intro (fun h => ?_) (fun h => ?_) <;> (try simp only [decide_eq_true_eq, decide_eq_false_iff_not, Bool.not_eq_true', Bool.not_eq_false', Bool.not_true, Bool.not_false] at h) <;> first | (exfalso; omega) | (cases h; done) | (conv => whnf))
    | (refine And.intro ?_ ?_; (omega); (conv => whnf))
    | (refine Exists.intro _ (And.intro (And.intro rfl rfl) ?_); (conv => whnf))
    | (refine Exists.intro ?w (And.intro (Pl.den ?p) ?k); (case p => repeat constructor); (conv => whnf))
    | (refine Exists.intro _ (And.intro (by with_reducible rfl) ?_); (conv => whnf))
    | (refine Exists.intro _ (And.intro (cast_succ _) ?_); (conv => whnf))
    | (refine Exists.intro _ (And.intro (by assumption) ?_); (conv => whnf))
    | (refine Exists.intro _ (And.intro (Int.toNat_of_nonneg ?_).symm ?_); (omega); (conv => whnf))
    | (refine Exists.intro _ (And.intro rfl ?_); (conv => whnf))
    | (intro h; (try simp only [decide_eq_true_eq, decide_eq_false_iff_not, Bool.not_eq_true', Bool.not_eq_false', Bool.not_true, Bool.not_false] at h); first | (exfalso; omega) | (cases h; done) | (conv => whnf)))
  · refine ⟨v.h.ok, fun w hw => ?_, fun hno z hz => ?_⟩
    · obtain ⟨t, htc, rfl⟩ := v.h.get hw
      have ht64 := (hd.cac _ _ htc).2
      have hstep := hx.step (by simp only; omega) htc ht64
      have hhere := hx.here (by simp only; omega)
      simp only at hstep hhere
      conv => whnf
      repeat' (first
        | (refine And.intro (by first | exact trivial | exact And.intro rfl trivial | exact And.intro rfl (And.intro rfl trivial) | exact And.intro rfl (And.intro rfl (And.intro rfl trivial))) (And.intro (fun _ h => h) ?_); (conv => whnf))
        | (refine And.intro (by first | exact trivial | exact And.intro rfl trivial | exact And.intro rfl (And.intro rfl trivial) | exact And.intro rfl (And.intro rfl (And.intro rfl trivial))) (And.intro (fun _ h => List.mem_cons_of_mem _ h) ?_); (conv => whnf))
        | (refine And.intro (by first | exact trivial | exact And.intro rfl trivial | exact And.intro rfl (And.intro rfl trivial) | exact And.intro rfl (And.intro rfl (And.intro rfl trivial))) (And.intro (fun _ h => List.mem_append_right _ h) ?_); (conv => whnf))
        | (refine And.intro (fun h => ?_) (fun h => ?_) <;> (try simp only [decide_eq_true_eq, decide_eq_false_iff_not, Bool.not_eq_true', Bool.not_eq_false', Bool.not_true, Bool.not_false] at h) <;> first | (exfalso; omega) | (cases h; done) | (conv => whnf))
        | (refine And.intro ?_ ?_; (omega); (conv => whnf))
        | (refine Exists.intro _ (And.intro (And.intro rfl rfl) ?_); (conv => whnf))
        | (refine Exists.intro ?w (And.intro (Pl.den ?p) ?k); (case p => repeat constructor); (conv => whnf))
        | (refine Exists.intro _ (And.intro (by with_reducible rfl) ?_); (conv => whnf))
        | (refine Exists.intro _ (And.intro (cast_succ _) ?_); (conv => whnf))
        | (refine Exists.intro _ (And.intro (by assumption) ?_); (conv => whnf))
        | (refine Exists.intro _ (And.intro (Int.toNat_of_nonneg ?_).symm ?_); (omega); (conv => whnf))
        | (refine Exists.intro _ (And.intro rfl ?_); (conv => whnf))
        | (intro h; (try simp only [decide_eq_true_eq, decide_eq_false_iff_not, Bool.not_eq_true', Bool.not_eq_false', Bool.not_true, Bool.not_false] at h); first | (exfalso; omega) | (cases h; done) | (conv => whnf)))
      refine ⟨secV_ok ht64, ⟨rfl, rfl⟩, ?_⟩
      conv => whnf
      repeat' (first
        | (refine And.intro (by first | exact trivial | exact And.intro rfl trivial | exact And.intro rfl (And.intro rfl trivial) | exact And.intro rfl (And.intro rfl (And.intro rfl trivial))) (And.intro (fun _ h => h) ?_); (conv => whnf))
        | (refine And.intro (by first | exact trivial | exact And.intro rfl trivial | exact And.intro rfl (And.intro rfl trivial) | exact And.intro rfl (And.intro rfl (And.intro rfl trivial))) (And.intro (fun _ h => List.mem_cons_of_mem _ h) ?_); (conv => whnf))
        | (refine And.intro (by first | exact trivial | exact And.intro rfl trivial | exact And.intro rfl (And.intro rfl trivial) | exact And.intro rfl (And.intro rfl (And.intro rfl trivial))) (And.intro (fun _ h => List.mem_append_right _ h) ?_); (conv => whnf))
        | (refine And.intro (fun h => ?_) (fun h => ?_) <;> (try simp only [decide_eq_true_eq, decide_eq_false_iff_not, Bool.not_eq_true', Bool.not_eq_false', Bool.not_true, Bool.not_false] at h) <;> first | (exfalso; omega) | (cases h; done) | (conv => whnf))
        | (refine And.intro ?_ ?_; (omega); (conv => whnf))
        | (refine Exists.intro _ (And.intro (And.intro rfl rfl) ?_); (conv => whnf))
        | (refine Exists.intro ?w (And.intro (Pl.den ?p) ?k); (case p => repeat constructor); (conv => whnf))
        | (refine Exists.intro _ (And.intro (by with_reducible rfl) ?_); (conv => whnf))
        | (refine Exists.intro _ (And.intro (cast_succ _) ?_); (conv => whnf))
        | (refine Exists.intro _ (And.intro (by assumption) ?_); (conv => whnf))
        | (refine Exists.intro _ (And.intro (Int.toNat_of_nonneg ?_).symm ?_); (omega); (conv => whnf))
        | (refine Exists.intro _ (And.intro rfl ?_); (conv => whnf))
        | (intro h; (try simp only [decide_eq_true_eq, decide_eq_false_iff_not, Bool.not_eq_true', Bool.not_eq_false', Bool.not_true, Bool.not_false] at h); first | (exfalso; omega) | (cases h; done) | (conv => whnf)))
      · refine draw_rule tok (by kernel_rfl) [.any 0, .any 1, .any 2, .any 4, .any 6, .any 10, .load 3, .any 5, .one 7, .any 8, .any 9, .one 11] [] [(0, .cells [.s 1 0 d.l.length d.l.length, .m 2, .v (.int .i64 d.fuse), .v (.bool d.down)] 101)] (by kernel_rfl) rfl rfl ⟨rfl, trivial⟩ ?_
        conv => whnf
        repeat' (first
          | (refine And.intro (by first | exact trivial | exact And.intro rfl trivial | exact And.intro rfl (And.intro rfl trivial) | exact And.intro rfl (And.intro rfl (And.intro rfl trivial))) (And.intro (fun _ h => h) ?_); (conv => whnf))
          | (refine And.intro (by first | exact trivial | exact And.intro rfl trivial | exact And.intro rfl (And.intro rfl trivial) | exact And.intro rfl (And.intro rfl (And.intro rfl trivial))) (And.intro (fun _ h => List.mem_cons_of_mem _ h) ?_); (conv => whnf))
          | (refine And.intro (by first | exact trivial | exact And.intro rfl trivial | exact And.intro rfl (And.intro rfl trivial) | exact And.intro rfl (And.intro rfl (And.intro rfl trivial))) (And.intro (fun _ h => List.mem_append_right _ h) ?_); (conv => whnf))
          | (refine And.intro (fun h => ?_) (fun h => ?_) <;> (try simp only [decide_eq_true_eq, decide_eq_false_iff_not, Bool.not_eq_true', Bool.not_eq_false', Bool.not_true, Bool.not_false] at h) <;> first | (exfalso; omega) | (cases h; done) | (conv => whnf))
          | (refine And.intro ?_ ?_; (omega); (conv => whnf))
          | (refine Exists.intro _ (And.intro (And.intro rfl rfl) ?_); (conv => whnf))
          | (refine Exists.intro ?w (And.intro (Pl.den ?p) ?k); (case p => repeat constructor); (conv => whnf))
          | (refine Exists.intro _ (And.intro (by with_reducible rfl) ?_); (conv => whnf))
          | (refine Exists.intro _ (And.intro (cast_succ _) ?_); (conv => whnf))
          | (refine Exists.intro _ (And.intro (by assumption) ?_); (conv => whnf))
          | (refine Exists.intro _ (And.intro (Int.toNat_of_nonneg ?_).symm ?_); (omega); (conv => whnf))
          | (refine Exists.intro _ (And.intro rfl ?_); (conv => whnf))
          | (intro h; (try simp only [decide_eq_true_eq, decide_eq_false_iff_not, Bool.not_eq_true', Bool.not_eq_false', Bool.not_true, Bool.not_false] at h); first | (exfalso; omega) | (cases h; done) | (conv => whnf)))
        have hm : (at_ % 65).toNat ≤ 64 := by omega
        refine ⟨(t.take (at_ % 65).toNat).map bv, ⟨by rw [Nat.mul_one, Nat.min_eq_right hm, List.drop_zero, List.map_take], by rw [List.length_map, List.length_take, ht64, Nat.mul_one, Nat.min_comm]⟩, ?_⟩
        conv => whnf
        refine ⟨⟨by rw [flat_length hsec, hxl, List.length_map, List.length_take]; omega, fun u hu => by obtain ⟨c, _, rfl⟩ := List.mem_map.1 hu; rfl⟩, ?_⟩
        conv => whnf
        repeat' (first
          | (refine And.intro (by first | exact trivial | exact And.intro rfl trivial | exact And.intro rfl (And.intro rfl trivial) | exact And.intro rfl (And.intro rfl (And.intro rfl trivial))) (And.intro (fun _ h => h) ?_); (conv => whnf))
          | (refine And.intro (by first | exact trivial | exact And.intro rfl trivial | exact And.intro rfl (And.intro rfl trivial) | exact And.intro rfl (And.intro rfl (And.intro rfl trivial))) (And.intro (fun _ h => List.mem_cons_of_mem _ h) ?_); (conv => whnf))
          | (refine And.intro (by first | exact trivial | exact And.intro rfl trivial | exact And.intro rfl (And.intro rfl trivial) | exact And.intro rfl (And.intro rfl (And.intro rfl trivial))) (And.intro (fun _ h => List.mem_append_right _ h) ?_); (conv => whnf))
          | (refine And.intro (fun h => ?_) (fun h => ?_) <;> (try simp only [decide_eq_true_eq, decide_eq_false_iff_not, Bool.not_eq_true', Bool.not_eq_false', Bool.not_true, Bool.not_false] at h) <;> first | (exfalso; omega) | (cases h; done) | (conv => whnf))
          | (refine And.intro ?_ ?_; (omega); (conv => whnf))
          | (refine Exists.intro _ (And.intro (And.intro rfl rfl) ?_); (conv => whnf))
          | (refine Exists.intro ?w (And.intro (Pl.den ?p) ?k); (case p => repeat constructor); (conv => whnf))
          | (refine Exists.intro _ (And.intro (by with_reducible rfl) ?_); (conv => whnf))
          | (refine Exists.intro _ (And.intro (cast_succ _) ?_); (conv => whnf))
          | (refine Exists.intro _ (And.intro (by assumption) ?_); (conv => whnf))
          | (refine Exists.intro _ (And.intro (Int.toNat_of_nonneg ?_).symm ?_); (omega); (conv => whnf))
          | (refine Exists.intro _ (And.intro rfl ?_); (conv => whnf))
          | (intro h; (try simp only [decide_eq_true_eq, decide_eq_false_iff_not, Bool.not_eq_true', Bool.not_eq_false', Bool.not_true, Bool.not_false] at h); first | (exfalso; omega) | (cases h; done) | (conv => whnf)))
        refine ⟨⟨i + 1, k + 1, l.set i (left k keep torn at_ d.l[i] t)⟩, [0, 1, 2, 3], ⟨hstep, by simp only; omega⟩, rfl, ⟨SEq.ren rfl rfl, SEq.ren rfl rfl, SEq.eq rfl, fun _ _ _ => rfl, SEq.eq rfl, trivial⟩, ⟨OSub.ren rfl rfl, OSub.ren rfl ?_, OSub.ren rfl rfl, OSub.ren rfl rfl, trivial⟩, fun f hf => hf⟩
        simp only [renO]
        have hl : left k keep torn at_ d.l[i] t = t.take (at_ % 65).toNat ++ d.l[i].drop (t.take (at_ % 65).toNat).length := by
          unfold left
          rw [if_pos (by assumption), if_pos (by assumption), List.length_take, ht64, Nat.min_eq_left hm]
        rw [Nat.zero_add, hl, flat_part hsec hhere (by rw [List.length_take]; omega)]
      · have hl : left k keep torn at_ d.l[i] t = d.l[i] := by
          unfold left
          rw [if_pos (by assumption), if_neg (by assumption)]
        have hset : l.set i d.l[i] = l := set_same hhere
        rw [hl, hset] at hstep
        refine ⟨⟨i + 1, k + 1, l⟩, [0, 1, 2, 3], ⟨hstep, by simp only; omega⟩, rfl, ⟨SEq.ren rfl rfl, SEq.ren rfl rfl, SEq.eq rfl, fun _ _ _ => rfl, SEq.eq rfl, trivial⟩, ⟨OSub.ren rfl rfl, OSub.ren rfl rfl, OSub.ren rfl rfl, OSub.ren rfl rfl, trivial⟩, fun f hf => hf⟩
      · have hkl : k < keep.length := by omega
        obtain ⟨ad, rfl⟩ : ∃ ad, A = some ad := by
          cases A with
          | none => rw [hK.1 rfl] at hkl; cases hkl
          | some ad => exact ⟨ad, rfl⟩
        have hkk := hK.2 ad rfl k keep[k] (List.getElem?_eq_getElem hkl)
        rw [show ad.add k = ad.add (k * 1) by rw [Nat.mul_one]] at hkk
        cases hkv : keep[k] with
        | true =>
          rw [hkv] at hkk
          conv => whnf
          repeat' (first
            | (refine And.intro (by first | exact trivial | exact And.intro rfl trivial | exact And.intro rfl (And.intro rfl trivial) | exact And.intro rfl (And.intro rfl (And.intro rfl trivial))) (And.intro (fun _ h => h) ?_); (conv => whnf))
            | (refine And.intro (by first | exact trivial | exact And.intro rfl trivial | exact And.intro rfl (And.intro rfl trivial) | exact And.intro rfl (And.intro rfl (And.intro rfl trivial))) (And.intro (fun _ h => List.mem_cons_of_mem _ h) ?_); (conv => whnf))
            | (refine And.intro (by first | exact trivial | exact And.intro rfl trivial | exact And.intro rfl (And.intro rfl trivial) | exact And.intro rfl (And.intro rfl (And.intro rfl trivial))) (And.intro (fun _ h => List.mem_append_right _ h) ?_); (conv => whnf))
            | (refine And.intro (fun h => ?_) (fun h => ?_) <;> (try simp only [decide_eq_true_eq, decide_eq_false_iff_not, Bool.not_eq_true', Bool.not_eq_false', Bool.not_true, Bool.not_false] at h) <;> first | (exfalso; omega) | (cases h; done) | (conv => whnf))
            | (refine And.intro ?_ ?_; (omega); (conv => whnf))
            | (refine Exists.intro _ (And.intro (And.intro rfl rfl) ?_); (conv => whnf))
            | (refine Exists.intro ?w (And.intro (Pl.den ?p) ?k); (case p => repeat constructor); (conv => whnf))
            | (refine Exists.intro _ (And.intro (by with_reducible rfl) ?_); (conv => whnf))
            | (refine Exists.intro _ (And.intro (cast_succ _) ?_); (conv => whnf))
            | (refine Exists.intro _ (And.intro (by assumption) ?_); (conv => whnf))
            | (refine Exists.intro _ (And.intro (Int.toNat_of_nonneg ?_).symm ?_); (omega); (conv => whnf))
            | (refine Exists.intro _ (And.intro rfl ?_); (conv => whnf))
            | (intro h; (try simp only [decide_eq_true_eq, decide_eq_false_iff_not, Bool.not_eq_true', Bool.not_eq_false', Bool.not_true, Bool.not_false] at h); first | (exfalso; omega) | (cases h; done) | (conv => whnf)))
          refine draw_rule tok (by kernel_rfl) [.any 0, .any 1, .any 2, .any 4, .load 3, .one 5, .any 6, .one 7] [] [(0, .cells [.s 1 0 d.l.length d.l.length, .m 2, .v (.int .i64 d.fuse), .v (.bool d.down)] 101)] (by kernel_rfl) rfl rfl ⟨rfl, trivial⟩ ?_
          conv => whnf
          repeat' (first
            | (refine And.intro (by first | exact trivial | exact And.intro rfl trivial | exact And.intro rfl (And.intro rfl trivial) | exact And.intro rfl (And.intro rfl (And.intro rfl trivial))) (And.intro (fun _ h => h) ?_); (conv => whnf))
            | (refine And.intro (by first | exact trivial | exact And.intro rfl trivial | exact And.intro rfl (And.intro rfl trivial) | exact And.intro rfl (And.intro rfl (And.intro rfl trivial))) (And.intro (fun _ h => List.mem_cons_of_mem _ h) ?_); (conv => whnf))
            | (refine And.intro (by first | exact trivial | exact And.intro rfl trivial | exact And.intro rfl (And.intro rfl trivial) | exact And.intro rfl (And.intro rfl (And.intro rfl trivial))) (And.intro (fun _ h => List.mem_append_right _ h) ?_); (conv => whnf))
            | (refine And.intro (fun h => ?_) (fun h => ?_) <;> (try simp only [decide_eq_true_eq, decide_eq_false_iff_not, Bool.not_eq_true', Bool.not_eq_false', Bool.not_true, Bool.not_false] at h) <;> first | (exfalso; omega) | (cases h; done) | (conv => whnf))
            | (refine And.intro ?_ ?_; (omega); (conv => whnf))
            | (refine Exists.intro _ (And.intro (And.intro rfl rfl) ?_); (conv => whnf))
            | (refine Exists.intro ?w (And.intro (Pl.den ?p) ?k); (case p => repeat constructor); (conv => whnf))
            | (refine Exists.intro _ (And.intro (by with_reducible rfl) ?_); (conv => whnf))
            | (refine Exists.intro _ (And.intro (cast_succ _) ?_); (conv => whnf))
            | (refine Exists.intro _ (And.intro (by assumption) ?_); (conv => whnf))
            | (refine Exists.intro _ (And.intro (Int.toNat_of_nonneg ?_).symm ?_); (omega); (conv => whnf))
            | (refine Exists.intro _ (And.intro rfl ?_); (conv => whnf))
            | (intro h; (try simp only [decide_eq_true_eq, decide_eq_false_iff_not, Bool.not_eq_true', Bool.not_eq_false', Bool.not_true, Bool.not_false] at h); first | (exfalso; omega) | (cases h; done) | (conv => whnf)))
          refine ⟨t.map bv, ⟨by rw [List.drop_zero]; exact List.take_of_length_le (by simp [ht64]), by simp [ht64]⟩, ?_⟩
          conv => whnf
          repeat' (first
            | (refine And.intro (by first | exact trivial | exact And.intro rfl trivial | exact And.intro rfl (And.intro rfl trivial) | exact And.intro rfl (And.intro rfl (And.intro rfl trivial))) (And.intro (fun _ h => h) ?_); (conv => whnf))
            | (refine And.intro (by first | exact trivial | exact And.intro rfl trivial | exact And.intro rfl (And.intro rfl trivial) | exact And.intro rfl (And.intro rfl (And.intro rfl trivial))) (And.intro (fun _ h => List.mem_cons_of_mem _ h) ?_); (conv => whnf))
            | (refine And.intro (by first | exact trivial | exact And.intro rfl trivial | exact And.intro rfl (And.intro rfl trivial) | exact And.intro rfl (And.intro rfl (And.intro rfl trivial))) (And.intro (fun _ h => List.mem_append_right _ h) ?_); (conv => whnf))
            | (refine And.intro (fun h => ?_) (fun h => ?_) <;> (try simp only [decide_eq_true_eq, decide_eq_false_iff_not, Bool.not_eq_true', Bool.not_eq_false', Bool.not_true, Bool.not_false] at h) <;> first | (exfalso; omega) | (cases h; done) | (conv => whnf))
            | (refine And.intro ?_ ?_; (omega); (conv => whnf))
            | (refine Exists.intro _ (And.intro (And.intro rfl rfl) ?_); (conv => whnf))
            | (refine Exists.intro ?w (And.intro (Pl.den ?p) ?k); (case p => repeat constructor); (conv => whnf))
            | (refine Exists.intro _ (And.intro (by with_reducible rfl) ?_); (conv => whnf))
            | (refine Exists.intro _ (And.intro (cast_succ _) ?_); (conv => whnf))
            | (refine Exists.intro _ (And.intro (by assumption) ?_); (conv => whnf))
            | (refine Exists.intro _ (And.intro (Int.toNat_of_nonneg ?_).symm ?_); (omega); (conv => whnf))
            | (refine Exists.intro _ (And.intro rfl ?_); (conv => whnf))
            | (intro h; (try simp only [decide_eq_true_eq, decide_eq_false_iff_not, Bool.not_eq_true', Bool.not_eq_false', Bool.not_true, Bool.not_false] at h); first | (exfalso; omega) | (cases h; done) | (conv => whnf)))
          refine ⟨secV_ok ht64, ⟨by rw [flat_length hsec, hxl]; show 0 + i * 64 + 64 ≤ _; omega, ?_⟩⟩
          conv => whnf
          repeat' (first
            | (refine And.intro (by first | exact trivial | exact And.intro rfl trivial | exact And.intro rfl (And.intro rfl trivial) | exact And.intro rfl (And.intro rfl (And.intro rfl trivial))) (And.intro (fun _ h => h) ?_); (conv => whnf))
            | (refine And.intro (by first | exact trivial | exact And.intro rfl trivial | exact And.intro rfl (And.intro rfl trivial) | exact And.intro rfl (And.intro rfl (And.intro rfl trivial))) (And.intro (fun _ h => List.mem_cons_of_mem _ h) ?_); (conv => whnf))
            | (refine And.intro (by first | exact trivial | exact And.intro rfl trivial | exact And.intro rfl (And.intro rfl trivial) | exact And.intro rfl (And.intro rfl (And.intro rfl trivial))) (And.intro (fun _ h => List.mem_append_right _ h) ?_); (conv => whnf))
            | (refine And.intro (fun h => ?_) (fun h => ?_) <;> (try simp only [decide_eq_true_eq, decide_eq_false_iff_not, Bool.not_eq_true', Bool.not_eq_false', Bool.not_true, Bool.not_false] at h) <;> first | (exfalso; omega) | (cases h; done) | (conv => whnf))
            | (refine And.intro ?_ ?_; (omega); (conv => whnf))
            | (refine Exists.intro _ (And.intro (And.intro rfl rfl) ?_); (conv => whnf))
            | (refine Exists.intro ?w (And.intro (Pl.den ?p) ?k); (case p => repeat constructor); (conv => whnf))
            | (refine Exists.intro _ (And.intro (by with_reducible rfl) ?_); (conv => whnf))
            | (refine Exists.intro _ (And.intro (cast_succ _) ?_); (conv => whnf))
            | (refine Exists.intro _ (And.intro (by assumption) ?_); (conv => whnf))
            | (refine Exists.intro _ (And.intro (Int.toNat_of_nonneg ?_).symm ?_); (omega); (conv => whnf))
            | (refine Exists.intro _ (And.intro rfl ?_); (conv => whnf))
            | (intro h; (try simp only [decide_eq_true_eq, decide_eq_false_iff_not, Bool.not_eq_true', Bool.not_eq_false', Bool.not_true, Bool.not_false] at h); first | (exfalso; omega) | (cases h; done) | (conv => whnf)))
          refine ⟨⟨i + 1, k + 1, l.set i (left k keep torn at_ d.l[i] t)⟩, [0, 1, 2, 3], ⟨hstep, by simp only; omega⟩, rfl, ⟨SEq.ren rfl rfl, SEq.ren rfl rfl, SEq.eq rfl, fun _ _ _ => rfl, SEq.eq rfl, trivial⟩, ⟨OSub.ren rfl rfl, OSub.ren rfl ?_, OSub.ren rfl rfl, OSub.ren rfl rfl, trivial⟩, fun f hf => hf⟩
          simp only [renO]
          have hl : left k keep torn at_ d.l[i] t = t := by
            unfold left
            rw [if_neg (by assumption), if_pos (by rw [List.getElem?_eq_getElem hkl, hkv])]
          rw [Nat.zero_add, hl, flat_set t hsec (by omega) ht64]
        | false =>
          rw [hkv] at hkk
          conv => whnf
          repeat' (first
            | (refine And.intro (by first | exact trivial | exact And.intro rfl trivial | exact And.intro rfl (And.intro rfl trivial) | exact And.intro rfl (And.intro rfl (And.intro rfl trivial))) (And.intro (fun _ h => h) ?_); (conv => whnf))
            | (refine And.intro (by first | exact trivial | exact And.intro rfl trivial | exact And.intro rfl (And.intro rfl trivial) | exact And.intro rfl (And.intro rfl (And.intro rfl trivial))) (And.intro (fun _ h => List.mem_cons_of_mem _ h) ?_); (conv => whnf))
            | (refine And.intro (by first | exact trivial | exact And.intro rfl trivial | exact And.intro rfl (And.intro rfl trivial) | exact And.intro rfl (And.intro rfl (And.intro rfl trivial))) (And.intro (fun _ h => List.mem_append_right _ h) ?_); (conv => whnf))
            | (refine And.intro (fun h => ?_) (fun h => ?_) <;> (try simp only [decide_eq_true_eq, decide_eq_false_iff_not, Bool.not_eq_true', Bool.not_eq_false', Bool.not_true, Bool.not_false] at h) <;> first | (exfalso; omega) | (cases h; done) | (conv => whnf))
            | (refine And.intro ?_ ?_; (omega); (conv => whnf))
            | (refine Exists.intro _ (And.intro (And.intro rfl rfl) ?_); (conv => whnf))
            | (refine Exists.intro ?w (And.intro (Pl.den ?p) ?k); (case p => repeat constructor); (conv => whnf))
            | (refine Exists.intro _ (And.intro (by with_reducible rfl) ?_); (conv => whnf))
            | (refine Exists.intro _ (And.intro (cast_succ _) ?_); (conv => whnf))
            | (refine Exists.intro _ (And.intro (by assumption) ?_); (conv => whnf))
            | (refine Exists.intro _ (And.intro (Int.toNat_of_nonneg ?_).symm ?_); (omega); (conv => whnf))
            | (refine Exists.intro _ (And.intro rfl ?_); (conv => whnf))
            | (intro h; (try simp only [decide_eq_true_eq, decide_eq_false_iff_not, Bool.not_eq_true', Bool.not_eq_false', Bool.not_true, Bool.not_false] at h); first | (exfalso; omega) | (cases h; done) | (conv => whnf)))
          have hl : left k keep torn at_ d.l[i] t = d.l[i] := by
            unfold left
            rw [if_neg (by assumption), if_neg (by rw [List.getElem?_eq_getElem hkl, hkv]; simp)]
          have hset : l.set i d.l[i] = l := set_same hhere
          rw [hl, hset] at hstep
          refine ⟨⟨i + 1, k + 1, l⟩, [0, 1, 2, 3], ⟨hstep, by simp only; omega⟩, rfl, ⟨SEq.ren rfl rfl, SEq.ren rfl rfl, SEq.eq rfl, fun _ _ _ => rfl, SEq.eq rfl, trivial⟩, ⟨OSub.ren rfl rfl, OSub.ren rfl rfl, OSub.ren rfl rfl, OSub.ren rfl rfl, trivial⟩, fun f hf => hf⟩
      · have hl : left k keep torn at_ d.l[i] t = d.l[i] := by
          unfold left
          rw [if_neg (by assumption), if_neg (fun e => by have := (List.getElem?_eq_some_iff.1 e).1; omega)]
        have hset : l.set i d.l[i] = l := set_same hhere
        rw [hl, hset] at hstep
        refine ⟨⟨i + 1, k + 1, l⟩, [0, 1, 2, 3], ⟨hstep, by simp only; omega⟩, rfl, ⟨SEq.ren rfl rfl, SEq.ren rfl rfl, SEq.eq rfl, fun _ _ _ => rfl, SEq.eq rfl, trivial⟩, ⟨OSub.ren rfl rfl, OSub.ren rfl rfl, OSub.ren rfl rfl, OSub.ren rfl rfl, trivial⟩, fun f hf => hf⟩
    · obtain ⟨a, rfl, ha⟩ := zero_agg hz
      conv => whnf
      repeat' (first
        | (refine And.intro (by first | exact trivial | exact And.intro rfl trivial | exact And.intro rfl (And.intro rfl trivial) | exact And.intro rfl (And.intro rfl (And.intro rfl trivial))) (And.intro (fun _ h => h) ?_); (conv => whnf))
        | (refine And.intro (by first | exact trivial | exact And.intro rfl trivial | exact And.intro rfl (And.intro rfl trivial) | exact And.intro rfl (And.intro rfl (And.intro rfl trivial))) (And.intro (fun _ h => List.mem_cons_of_mem _ h) ?_); (conv => whnf))
        | (refine And.intro (by first | exact trivial | exact And.intro rfl trivial | exact And.intro rfl (And.intro rfl trivial) | exact And.intro rfl (And.intro rfl (And.intro rfl trivial))) (And.intro (fun _ h => List.mem_append_right _ h) ?_); (conv => whnf))
        | (refine And.intro (fun h => ?_) (fun h => ?_) <;> (try simp only [decide_eq_true_eq, decide_eq_false_iff_not, Bool.not_eq_true', Bool.not_eq_false', Bool.not_true, Bool.not_false] at h) <;> first | (exfalso; omega) | (cases h; done) | (conv => whnf))
        | (refine And.intro ?_ ?_; (omega); (conv => whnf))
        | (refine Exists.intro _ (And.intro (And.intro rfl rfl) ?_); (conv => whnf))
        | (refine Exists.intro ?w (And.intro (Pl.den ?p) ?k); (case p => repeat constructor); (conv => whnf))
        | (refine Exists.intro _ (And.intro (by with_reducible rfl) ?_); (conv => whnf))
        | (refine Exists.intro _ (And.intro (cast_succ _) ?_); (conv => whnf))
        | (refine Exists.intro _ (And.intro (by assumption) ?_); (conv => whnf))
        | (refine Exists.intro _ (And.intro (Int.toNat_of_nonneg ?_).symm ?_); (omega); (conv => whnf))
        | (refine Exists.intro _ (And.intro rfl ?_); (conv => whnf))
        | (intro h; (try simp only [decide_eq_true_eq, decide_eq_false_iff_not, Bool.not_eq_true', Bool.not_eq_false', Bool.not_true, Bool.not_false] at h); first | (exfalso; omega) | (cases h; done) | (conv => whnf)))
      refine ⟨⟨rfl, rfl⟩, ?_⟩
      conv => whnf
      repeat' (first
        | (refine And.intro (by first | exact trivial | exact And.intro rfl trivial | exact And.intro rfl (And.intro rfl trivial) | exact And.intro rfl (And.intro rfl (And.intro rfl trivial))) (And.intro (fun _ h => h) ?_); (conv => whnf))
        | (refine And.intro (by first | exact trivial | exact And.intro rfl trivial | exact And.intro rfl (And.intro rfl trivial) | exact And.intro rfl (And.intro rfl (And.intro rfl trivial))) (And.intro (fun _ h => List.mem_cons_of_mem _ h) ?_); (conv => whnf))
        | (refine And.intro (by first | exact trivial | exact And.intro rfl trivial | exact And.intro rfl (And.intro rfl trivial) | exact And.intro rfl (And.intro rfl (And.intro rfl trivial))) (And.intro (fun _ h => List.mem_append_right _ h) ?_); (conv => whnf))
        | (refine And.intro (fun h => ?_) (fun h => ?_) <;> (try simp only [decide_eq_true_eq, decide_eq_false_iff_not, Bool.not_eq_true', Bool.not_eq_false', Bool.not_true, Bool.not_false] at h) <;> first | (exfalso; omega) | (cases h; done) | (conv => whnf))
        | (refine And.intro ?_ ?_; (omega); (conv => whnf))
        | (refine Exists.intro _ (And.intro (And.intro rfl rfl) ?_); (conv => whnf))
        | (refine Exists.intro ?w (And.intro (Pl.den ?p) ?k); (case p => repeat constructor); (conv => whnf))
        | (refine Exists.intro _ (And.intro (by with_reducible rfl) ?_); (conv => whnf))
        | (refine Exists.intro _ (And.intro (cast_succ _) ?_); (conv => whnf))
        | (refine Exists.intro _ (And.intro (by assumption) ?_); (conv => whnf))
        | (refine Exists.intro _ (And.intro (Int.toNat_of_nonneg ?_).symm ?_); (omega); (conv => whnf))
        | (refine Exists.intro _ (And.intro rfl ?_); (conv => whnf))
        | (intro h; (try simp only [decide_eq_true_eq, decide_eq_false_iff_not, Bool.not_eq_true', Bool.not_eq_false', Bool.not_true, Bool.not_false] at h); first | (exfalso; omega) | (cases h; done) | (conv => whnf)))
      have hskip := hx.skip (by simp only; omega) (v.h.miss hno)
      simp only at hskip
      refine ⟨⟨i + 1, k, l⟩, [0, 1, 2, 3], ⟨hskip, by simp only; omega⟩, rfl, ⟨SEq.ren rfl rfl, SEq.ren rfl rfl, fun _ _ _ => rfl, fun _ _ _ => rfl, SEq.eq rfl, trivial⟩, ⟨OSub.ren rfl rfl, OSub.ren rfl rfl, OSub.ren rfl rfl, OSub.ren rfl rfl, trivial⟩, fun f hf => hf⟩
  · have hdone := hx.done (by simp only; omega)
    simp only at hdone
    apply Ret.dsk1
    · (repeat first | exact List.mem_cons_self .. | apply List.mem_cons_of_mem)
    · (repeat first | exact List.mem_cons_self .. | apply List.mem_cons_of_mem)
    · (repeat first | exact List.mem_cons_self .. | apply List.mem_cons_of_mem)
    · rfl
    · exact fun _ _ _ => rfl
    · exact fun ρ => by simp [dskC, den, DS.crash, crashGo_length]
    · exact congrArg flat hdone
    · exact Holds.empty _
end Go.Proofs.Ytekgjjanikicnaa.Sx
