/- What the reference's disk's calls do: writes, reads. -/
import Derived.Test.YtekgjjanikicnaaRf1
namespace Go.Proofs.Ytekgjjanikicnaa.Sx
open Go
set_option maxRecDepth 100000
set_option linter.unusedSimpArgs false
set_option linter.unusedVariables false

theorem RefOk.burnt {fx : List Fact} {ls ns : List Value} {d : DS} (h : RefOk fx ls ns d) : RefOk fx ls ns d.burnt :=
  ⟨by rw [d.burnt_l]; exact h.ll, by rw [d.burnt_l]; exact h.nl, by rw [d.burnt_l]; exact h.las, by rw [d.burnt_l, d.burnt_c]; exact h.non, by rw [d.burnt_c]; exact h.new⟩
theorem RefOk.put {fx : List Fact} {ls ns : List Value} {d : DS} (h : RefOk fx ls ns d) {i : Nat} (hi : i < d.l.length) {A : Option Addr} {cap : Nat} {b : Sec} (hb : BytesAt fx A b) (hcap : 64 ≤ cap) : RefOk fx ls (ns.set i (.slice A 64 cap)) (d.put i b) := by
  refine ⟨h.ll, by rw [List.length_set]; exact h.nl, h.las, fun j hj hc => ?_, fun j t hc => ?_⟩
  · simp only [DS.put] at hc
    split at hc
    · cases hc
    · rw [List.getElem?_set_ne (by omega)]; exact h.non j hj hc
  · simp only [DS.put] at hc
    split at hc
    · cases hc
      obtain rfl : j = i := by omega
      exact ⟨A, cap, by rw [List.getElem?_set_self (by have := h.nl; omega)], hb, hcap⟩
    · rw [List.getElem?_set_ne (by omega)]; exact h.new j t hc
theorem tRWrite (fx gx : List Fact) (d : DS) (hd : d.Ok) (i : Int) (A : Option Addr) (cap : Nat) (b : List UInt8) (hg : ∀ f, f ∈ gx → f ∈ fx) (hB : BytesAt fx A b) (hb : b.length ≤ 1000) :
    Tri Try.prog 67 [.p 0 0, .v (.int .i64 i), .v (.slice A b.length cap)] [ref 0 gx d] 1 fx (RetE (α := List Fact) 1 (fun _ => True) (fun _ => .v (.int .i64 (d.write i b).1)) (fun g => [ref 0 (g ++ gx) (d.write i b).2]) 1 (fun g => g)) := by
  refine Tri.toldE (told_ref gx d) (fun xs w => by simp [callFunc, Try.func67, Try.f67]) 0 (List.mem_singleton.2 rfl) fun v => ?_
  have hf := hd.fus
  cases v with
  | zero h0 =>
    have hl0 : d.l.length = 0 := by rw [h0]; rfl
    show Tri _ 67 _ [(0, .cells [.v (.slice none 0 0), .v (.slice none 0 0), .v (.int .i64 d.fuse), .v (.bool d.down)] 59)] 3 fx _
    refine Tri.of_code tok Try.func67 rfl rfl rfl (by decide) rfl (Nat.le_of_ble_eq_true rfl) ?_
    conv => whnf
    repeat' (first
      | (refine And.intro (by first | exact trivial | exact And.intro rfl trivial | exact And.intro rfl (And.intro rfl trivial) | exact And.intro rfl (And.intro rfl (And.intro rfl trivial))) (And.intro (fun _ h => h) ?_); (conv => whnf))
      | (refine And.intro (by first | exact trivial | exact And.intro rfl trivial | exact And.intro rfl (And.intro rfl trivial) | exact And.intro rfl (And.intro rfl (And.intro rfl trivial))) (And.intro (fun _ h => List.mem_cons_of_mem _ h) ?_); (conv => whnf))
      | (refine And.intro (by first | exact trivial | exact And.intro rfl trivial | exact And.intro rfl (And.intro rfl trivial) | exact And.intro rfl (And.intro rfl (And.intro rfl trivial))) (And.intro (fun _ h => List.mem_append_right _ h) ?_); (conv => whnf))
      | (refine And.intro (fun h => ?_) (fun h => ?_) <;> (try simp only [decide_eq_true_eq, decide_eq_false_iff_not, Bool.not_eq_true', Bool.not_eq_false', Bool.not_true, Bool.not_false] at h) <;> first | (exfalso; omega) | (cases h; done) | (conv => whnf))
      | (refine And.intro ?_ ?_; (omega); (conv => whnf))
      | (refine Exists.intro _ (And.intro (And.intro rfl rfl) ?_); (conv => whnf))
      | (refine Exists.intro ?w (And.intro (Pl.den ?p) ?k); (case p => repeat constructor); (conv => whnf))
      | (refine Exists.intro _ (And.intro (by with_reducible rfl) ?_); (conv => whnf))
      | (refine Exists.intro _ (And.intro (cast_succ _) ?_); (conv => whnf))
      | (refine Exists.intro _ (And.intro (by assumption) ?_); (conv => whnf))
      | (refine Exists.intro _ (And.intro (Int.toNat_of_nonneg ?_).symm ?_); (omega); (conv => whnf))
      | (refine Exists.intro _ (And.intro rfl ?_); (conv => whnf))
      | (intro h; (try simp only [decide_eq_true_eq, decide_eq_false_iff_not, Bool.not_eq_true', Bool.not_eq_false', Bool.not_true, Bool.not_false] at h); first | (exfalso; omega) | (cases h; done) | (conv => whnf)))
    · rw [write_down (by assumption)]
      refine ⟨[], trivial, ?_⟩
      apply Ret.ref0
      · (repeat first | exact List.mem_cons_self .. | apply List.mem_cons_of_mem)
      · rfl
      · exact h0
      · exact SEq.nrm rfl rfl
      · exact fun ρ => by simp [den, *]
      · exact fun _ h => nomatch h
    · rw [write_out (by assumption) (by omega)]
      refine ⟨[], trivial, ?_⟩
      apply Ret.ref0
      · (repeat first | exact List.mem_cons_self .. | apply List.mem_cons_of_mem)
      · rfl
      · exact h0
      · exact SEq.nrm rfl rfl
      · exact fun ρ => by simp [den, *]
      · exact fun _ h => nomatch h
    · rw [write_out (by assumption) (by omega)]
      refine ⟨[], trivial, ?_⟩
      apply Ret.ref0
      · (repeat first | exact List.mem_cons_self .. | apply List.mem_cons_of_mem)
      · rfl
      · exact h0
      · exact SEq.nrm rfl rfl
      · exact fun ρ => by simp [den, *]
      · exact fun _ h => nomatch h
  | rows ls ns hR =>
    show Tri _ 67 _ [(0, .cells [.s 1 0 d.l.length ls.length, .s 2 0 d.l.length ns.length, .v (.int .i64 d.fuse), .v (.bool d.down)] 59), (1, .row ls 22), (2, .row ns 22)] 3 fx _
    refine Tri.of_code tok Try.func67 rfl rfl rfl (by decide) rfl (Nat.le_of_ble_eq_true rfl) ?_
    conv => whnf
    repeat' (first
      | (refine And.intro (by first | exact trivial | exact And.intro rfl trivial | exact And.intro rfl (And.intro rfl trivial) | exact And.intro rfl (And.intro rfl (And.intro rfl trivial))) (And.intro (fun _ h => h) ?_); (conv => whnf))
      | (refine And.intro (by first | exact trivial | exact And.intro rfl trivial | exact And.intro rfl (And.intro rfl trivial) | exact And.intro rfl (And.intro rfl (And.intro rfl trivial))) (And.intro (fun _ h => List.mem_cons_of_mem _ h) ?_); (conv => whnf))
      | (refine And.intro (by first | exact trivial | exact And.intro rfl trivial | exact And.intro rfl (And.intro rfl trivial) | exact And.intro rfl (And.intro rfl (And.intro rfl trivial))) (And.intro (fun _ h => List.mem_append_right _ h) ?_); (conv => whnf))
      | (refine And.intro (fun h => ?_) (fun h => ?_) <;> (try simp only [decide_eq_true_eq, decide_eq_false_iff_not, Bool.not_eq_true', Bool.not_eq_false', Bool.not_true, Bool.not_false] at h) <;> first | (exfalso; omega) | (cases h; done) | (conv => whnf))
      | (refine And.intro ?_ ?_; (omega); (conv => whnf))
      | (refine Exists.intro _ (And.intro (And.intro rfl rfl) ?_); (conv => whnf))
      | (refine Exists.intro ?w (And.intro (Pl.den ?p) ?k); (case p => repeat constructor); (conv => whnf))
      | (refine Exists.intro _ (And.intro (by with_reducible rfl) ?_); (conv => whnf))
      | (refine Exists.intro _ (And.intro (cast_succ _) ?_); (conv => whnf))
      | (refine Exists.intro _ (And.intro (by assumption) ?_); (conv => whnf))
      | (refine Exists.intro _ (And.intro (Int.toNat_of_nonneg ?_).symm ?_); (omega); (conv => whnf))
      | (refine Exists.intro _ (And.intro rfl ?_); (conv => whnf))
      | (intro h; (try simp only [decide_eq_true_eq, decide_eq_false_iff_not, Bool.not_eq_true', Bool.not_eq_false', Bool.not_true, Bool.not_false] at h); first | (exfalso; omega) | (cases h; done) | (conv => whnf)))
    · rw [write_down (by assumption)]
      refine ⟨[], trivial, ?_⟩
      apply Ret.ref3
      · (repeat first | exact List.mem_cons_self .. | apply List.mem_cons_of_mem)
      · (repeat first | exact List.mem_cons_self .. | apply List.mem_cons_of_mem)
      · (repeat first | exact List.mem_cons_self .. | apply List.mem_cons_of_mem)
      · rfl
      · exact hR
      · exact SEq.nrm rfl rfl
      · exact fun ρ => by simp [den, *]
      · exact fun _ h => nomatch h
    · rw [write_out (by assumption) (by omega)]
      refine ⟨[], trivial, ?_⟩
      apply Ret.ref3
      · (repeat first | exact List.mem_cons_self .. | apply List.mem_cons_of_mem)
      · (repeat first | exact List.mem_cons_self .. | apply List.mem_cons_of_mem)
      · (repeat first | exact List.mem_cons_self .. | apply List.mem_cons_of_mem)
      · rfl
      · exact hR
      · exact SEq.nrm rfl rfl
      · exact fun ρ => by simp [den, *]
      · exact fun _ h => nomatch h
    · rw [write_out (by assumption) (by omega)]
      refine ⟨[], trivial, ?_⟩
      apply Ret.ref3
      · (repeat first | exact List.mem_cons_self .. | apply List.mem_cons_of_mem)
      · (repeat first | exact List.mem_cons_self .. | apply List.mem_cons_of_mem)
      · (repeat first | exact List.mem_cons_self .. | apply List.mem_cons_of_mem)
      · rfl
      · exact hR
      · exact SEq.nrm rfl rfl
      · exact fun ρ => by simp [den, *]
      · exact fun _ h => nomatch h
    · rw [write_len (by assumption) (by omega) (by omega)]
      refine ⟨[], trivial, ?_⟩
      apply Ret.ref3
      · (repeat first | exact List.mem_cons_self .. | apply List.mem_cons_of_mem)
      · (repeat first | exact List.mem_cons_self .. | apply List.mem_cons_of_mem)
      · (repeat first | exact List.mem_cons_self .. | apply List.mem_cons_of_mem)
      · rfl
      · exact hR
      · exact SEq.nrm rfl rfl
      · exact fun ρ => by simp [den, *]
      · exact fun _ h => nomatch h
    have hdn : d.down = false := by assumption
    have hb64 : b.length = 64 := by omega
    have hi : 0 ≤ i ∧ i < (d.l.length : Int) := by omega
    obtain ⟨j, rfl⟩ : ∃ j : Nat, i = (j : Int) := ⟨i.toNat, by omega⟩
    have hj : j < d.l.length := by omega
    have hnl := hR.nl
    refine Tri.of_code tok Try.func84 rfl rfl rfl (by decide) rfl (Nat.le_of_ble_eq_true rfl) ?_
    conv => whnf
    repeat' (first
      | (refine And.intro (by first | exact trivial | exact And.intro rfl trivial | exact And.intro rfl (And.intro rfl trivial) | exact And.intro rfl (And.intro rfl (And.intro rfl trivial))) (And.intro (fun _ h => h) ?_); (conv => whnf))
      | (refine And.intro (by first | exact trivial | exact And.intro rfl trivial | exact And.intro rfl (And.intro rfl trivial) | exact And.intro rfl (And.intro rfl (And.intro rfl trivial))) (And.intro (fun _ h => List.mem_cons_of_mem _ h) ?_); (conv => whnf))
      | (refine And.intro (by first | exact trivial | exact And.intro rfl trivial | exact And.intro rfl (And.intro rfl trivial) | exact And.intro rfl (And.intro rfl (And.intro rfl trivial))) (And.intro (fun _ h => List.mem_append_right _ h) ?_); (conv => whnf))
      | (refine And.intro (fun h => ?_) (fun h => ?_) <;> (try simp only [decide_eq_true_eq, decide_eq_false_iff_not, Bool.not_eq_true', Bool.not_eq_false', Bool.not_true, Bool.not_false] at h) <;> first | (exfalso; omega) | (cases h; done) | (conv => whnf))
      | (refine And.intro ?_ ?_; (omega); (conv => whnf))
      | (refine Exists.intro _ (And.intro (And.intro rfl rfl) ?_); (conv => whnf))
      | (refine Exists.intro ?w (And.intro (Pl.den ?p) ?k); (case p => repeat constructor); (conv => whnf))
      | (refine Exists.intro _ (And.intro (by with_reducible rfl) ?_); (conv => whnf))
      | (refine Exists.intro _ (And.intro (cast_succ _) ?_); (conv => whnf))
      | (refine Exists.intro _ (And.intro (by assumption) ?_); (conv => whnf))
      | (refine Exists.intro _ (And.intro (Int.toNat_of_nonneg ?_).symm ?_); (omega); (conv => whnf))
      | (refine Exists.intro _ (And.intro rfl ?_); (conv => whnf))
      | (intro h; (try simp only [decide_eq_true_eq, decide_eq_false_iff_not, Bool.not_eq_true', Bool.not_eq_false', Bool.not_true, Bool.not_false] at h); first | (exfalso; omega) | (cases h; done) | (conv => whnf)))
    · have hz : d.fuse = 0 := by assumption
      rw [write_burn hdn hi hb64 hz, burnt_zero hz]
      refine ⟨[], trivial, ?_⟩
      apply Ret.ref3
      · (repeat first | exact List.mem_cons_self .. | apply List.mem_cons_of_mem)
      · (repeat first | exact List.mem_cons_self .. | apply List.mem_cons_of_mem)
      · (repeat first | exact List.mem_cons_self .. | apply List.mem_cons_of_mem)
      · rfl
      · exact ⟨hR.ll, hR.nl, hR.las, hR.non, hR.new⟩
      · exact SEq.nrm rfl rfl
      · exact fun ρ => by simp [den, *]
      · exact fun _ h => nomatch h
    · exact absurd (hdn.symm.trans (by assumption)) (by simp)
    · have hz : 0 < d.fuse := by assumption
      rw [write_ok hdn hi hb64 (by omega), burnt_gt hz]
      refine ⟨b.map bv, ⟨by simp, hB.rowAt⟩, ?_⟩
      conv => whnf
      repeat' (first
        | (refine And.intro (by first | exact trivial | exact And.intro rfl trivial | exact And.intro rfl (And.intro rfl trivial) | exact And.intro rfl (And.intro rfl (And.intro rfl trivial))) (And.intro (fun _ h => h) ?_); (conv => whnf))
        | (refine And.intro (by first | exact trivial | exact And.intro rfl trivial | exact And.intro rfl (And.intro rfl trivial) | exact And.intro rfl (And.intro rfl (And.intro rfl trivial))) (And.intro (fun _ h => List.mem_cons_of_mem _ h) ?_); (conv => whnf))
        | (refine And.intro (by first | exact trivial | exact And.intro rfl trivial | exact And.intro rfl (And.intro rfl trivial) | exact And.intro rfl (And.intro rfl (And.intro rfl trivial))) (And.intro (fun _ h => List.mem_append_right _ h) ?_); (conv => whnf))
        | (refine And.intro (fun h => ?_) (fun h => ?_) <;> (try simp only [decide_eq_true_eq, decide_eq_false_iff_not, Bool.not_eq_true', Bool.not_eq_false', Bool.not_true, Bool.not_false] at h) <;> first | (exfalso; omega) | (cases h; done) | (conv => whnf))
        | (refine And.intro ?_ ?_; (omega); (conv => whnf))
        | (refine Exists.intro _ (And.intro (And.intro rfl rfl) ?_); (conv => whnf))
        | (refine Exists.intro ?w (And.intro (Pl.den ?p) ?k); (case p => repeat constructor); (conv => whnf))
        | (refine Exists.intro _ (And.intro (by with_reducible rfl) ?_); (conv => whnf))
        | (refine Exists.intro _ (And.intro (cast_succ _) ?_); (conv => whnf))
        | (refine Exists.intro _ (And.intro (by assumption) ?_); (conv => whnf))
        | (refine Exists.intro _ (And.intro (Int.toNat_of_nonneg ?_).symm ?_); (omega); (conv => whnf))
        | (refine Exists.intro _ (And.intro rfl ?_); (conv => whnf))
        | (intro h; (try simp only [decide_eq_true_eq, decide_eq_false_iff_not, Bool.not_eq_true', Bool.not_eq_false', Bool.not_true, Bool.not_false] at h); first | (exfalso; omega) | (cases h; done) | (conv => whnf)))
      refine And.intro (by simp; omega) ?_
      conv => whnf
      repeat' (first
        | (refine And.intro (by first | exact trivial | exact And.intro rfl trivial | exact And.intro rfl (And.intro rfl trivial) | exact And.intro rfl (And.intro rfl (And.intro rfl trivial))) (And.intro (fun _ h => h) ?_); (conv => whnf))
        | (refine And.intro (by first | exact trivial | exact And.intro rfl trivial | exact And.intro rfl (And.intro rfl trivial) | exact And.intro rfl (And.intro rfl (And.intro rfl trivial))) (And.intro (fun _ h => List.mem_cons_of_mem _ h) ?_); (conv => whnf))
        | (refine And.intro (by first | exact trivial | exact And.intro rfl trivial | exact And.intro rfl (And.intro rfl trivial) | exact And.intro rfl (And.intro rfl (And.intro rfl trivial))) (And.intro (fun _ h => List.mem_append_right _ h) ?_); (conv => whnf))
        | (refine And.intro (fun h => ?_) (fun h => ?_) <;> (try simp only [decide_eq_true_eq, decide_eq_false_iff_not, Bool.not_eq_true', Bool.not_eq_false', Bool.not_true, Bool.not_false] at h) <;> first | (exfalso; omega) | (cases h; done) | (conv => whnf))
        | (refine And.intro ?_ ?_; (omega); (conv => whnf))
        | (refine Exists.intro _ (And.intro (And.intro rfl rfl) ?_); (conv => whnf))
        | (refine Exists.intro ?w (And.intro (Pl.den ?p) ?k); (case p => repeat constructor); (conv => whnf))
        | (refine Exists.intro _ (And.intro (by with_reducible rfl) ?_); (conv => whnf))
        | (refine Exists.intro _ (And.intro (cast_succ _) ?_); (conv => whnf))
        | (refine Exists.intro _ (And.intro (by assumption) ?_); (conv => whnf))
        | (refine Exists.intro _ (And.intro (Int.toNat_of_nonneg ?_).symm ?_); (omega); (conv => whnf))
        | (refine Exists.intro _ (And.intro rfl ?_); (conv => whnf))
        | (intro h; (try simp only [decide_eq_true_eq, decide_eq_false_iff_not, Bool.not_eq_true', Bool.not_eq_false', Bool.not_true, Bool.not_false] at h); first | (exfalso; omega) | (cases h; done) | (conv => whnf)))
      rename_i m sp hsp
      obtain ⟨bb, hbb0⟩ : ∃ x, x = h := ⟨_, rfl⟩
      subst hbb0
      refine ⟨[rowFact bb (b.map bv ++ sp) 5], trivial, ?_⟩
      have hbb : BytesAt ([rowFact bb (b.map bv ++ sp) 5] ++ gx) (some ⟨bb, 0, none⟩) b := BytesAt.row (List.mem_cons_self ..) (by rw [List.drop_zero, List.take_left' (by simp)])
      have hsl : splice ns (0 + j * 1) [Value.slice (some ⟨bb, 0, none⟩) b.length (b.length + m)] = ns.set j (.slice (some ⟨bb, 0, none⟩) 64 (64 + m)) := by
        rw [Nat.mul_one, Nat.zero_add, splice_set (by omega), hb64]
      rw [hsl]
      apply Ret.ref3
      · (repeat first | exact List.mem_cons_self .. | apply List.mem_cons_of_mem)
      · (repeat first | exact List.mem_cons_self .. | apply List.mem_cons_of_mem)
      · (repeat first | exact List.mem_cons_self .. | apply List.mem_cons_of_mem)
      · rfl
      · exact RefOk.put (d := { d with fuse := d.fuse - 1 }) ⟨hR.ll, hR.nl, fun i s hi => by obtain ⟨A, cap, h1, h2⟩ := hR.las i s hi; exact ⟨A, cap, h1, h2.1.mono fun f hf => List.mem_cons_of_mem _ hf, h2.2⟩, hR.non, fun i s hi => by obtain ⟨A, cap, h1, h2⟩ := hR.new i s hi; exact ⟨A, cap, h1, h2.1.mono fun f hf => List.mem_cons_of_mem _ hf, h2.2⟩⟩ hj hbb (by omega)
      · exact SEq.nrm rfl rfl
      · exact fun ρ => by simp [den, DS.put]
      · intro g hg
        rw [List.mem_singleton.1 hg]
        exact List.mem_cons_self ..
    · exact absurd (hdn.symm.trans (by assumption)) (by simp)
    · have hz : d.fuse < 0 := by omega
      rw [write_ok hdn hi hb64 (by omega), burnt_lt hz]
      refine ⟨b.map bv, ⟨by simp, hB.rowAt⟩, ?_⟩
      conv => whnf
      repeat' (first
        | (refine And.intro (by first | exact trivial | exact And.intro rfl trivial | exact And.intro rfl (And.intro rfl trivial) | exact And.intro rfl (And.intro rfl (And.intro rfl trivial))) (And.intro (fun _ h => h) ?_); (conv => whnf))
        | (refine And.intro (by first | exact trivial | exact And.intro rfl trivial | exact And.intro rfl (And.intro rfl trivial) | exact And.intro rfl (And.intro rfl (And.intro rfl trivial))) (And.intro (fun _ h => List.mem_cons_of_mem _ h) ?_); (conv => whnf))
        | (refine And.intro (by first | exact trivial | exact And.intro rfl trivial | exact And.intro rfl (And.intro rfl trivial) | exact And.intro rfl (And.intro rfl (And.intro rfl trivial))) (And.intro (fun _ h => List.mem_append_right _ h) ?_); (conv => whnf))
        | (refine And.intro (fun h => ?_) (fun h => ?_) <;> (try simp only [decide_eq_true_eq, decide_eq_false_iff_not, Bool.not_eq_true', Bool.not_eq_false', Bool.not_true, Bool.not_false] at h) <;> first | (exfalso; omega) | (cases h; done) | (conv => whnf))
        | (refine And.intro ?_ ?_; (omega); (conv => whnf))
        | (refine Exists.intro _ (And.intro (And.intro rfl rfl) ?_); (conv => whnf))
        | (refine Exists.intro ?w (And.intro (Pl.den ?p) ?k); (case p => repeat constructor); (conv => whnf))
        | (refine Exists.intro _ (And.intro (by with_reducible rfl) ?_); (conv => whnf))
        | (refine Exists.intro _ (And.intro (cast_succ _) ?_); (conv => whnf))
        | (refine Exists.intro _ (And.intro (by assumption) ?_); (conv => whnf))
        | (refine Exists.intro _ (And.intro (Int.toNat_of_nonneg ?_).symm ?_); (omega); (conv => whnf))
        | (refine Exists.intro _ (And.intro rfl ?_); (conv => whnf))
        | (intro h; (try simp only [decide_eq_true_eq, decide_eq_false_iff_not, Bool.not_eq_true', Bool.not_eq_false', Bool.not_true, Bool.not_false] at h); first | (exfalso; omega) | (cases h; done) | (conv => whnf)))
      refine And.intro (by simp; omega) ?_
      conv => whnf
      repeat' (first
        | (refine And.intro (by first | exact trivial | exact And.intro rfl trivial | exact And.intro rfl (And.intro rfl trivial) | exact And.intro rfl (And.intro rfl (And.intro rfl trivial))) (And.intro (fun _ h => h) ?_); (conv => whnf))
        | (refine And.intro (by first | exact trivial | exact And.intro rfl trivial | exact And.intro rfl (And.intro rfl trivial) | exact And.intro rfl (And.intro rfl (And.intro rfl trivial))) (And.intro (fun _ h => List.mem_cons_of_mem _ h) ?_); (conv => whnf))
        | (refine And.intro (by first | exact trivial | exact And.intro rfl trivial | exact And.intro rfl (And.intro rfl trivial) | exact And.intro rfl (And.intro rfl (And.intro rfl trivial))) (And.intro (fun _ h => List.mem_append_right _ h) ?_); (conv => whnf))
        | (refine And.intro (fun h => ?_) (fun h => ?_) <;> (try simp only [decide_eq_true_eq, decide_eq_false_iff_not, Bool.not_eq_true', Bool.not_eq_false', Bool.not_true, Bool.not_false] at h) <;> first | (exfalso; omega) | (cases h; done) | (conv => whnf))
        | (refine And.intro ?_ ?_; (omega); (conv => whnf))
        | (refine Exists.intro _ (And.intro (And.intro rfl rfl) ?_); (conv => whnf))
        | (refine Exists.intro ?w (And.intro (Pl.den ?p) ?k); (case p => repeat constructor); (conv => whnf))
        | (refine Exists.intro _ (And.intro (by with_reducible rfl) ?_); (conv => whnf))
        | (refine Exists.intro _ (And.intro (cast_succ _) ?_); (conv => whnf))
        | (refine Exists.intro _ (And.intro (by assumption) ?_); (conv => whnf))
        | (refine Exists.intro _ (And.intro (Int.toNat_of_nonneg ?_).symm ?_); (omega); (conv => whnf))
        | (refine Exists.intro _ (And.intro rfl ?_); (conv => whnf))
        | (intro h; (try simp only [decide_eq_true_eq, decide_eq_false_iff_not, Bool.not_eq_true', Bool.not_eq_false', Bool.not_true, Bool.not_false] at h); first | (exfalso; omega) | (cases h; done) | (conv => whnf)))
      rename_i m sp hsp
      obtain ⟨bb, hbb0⟩ : ∃ x, x = h := ⟨_, rfl⟩
      subst hbb0
      refine ⟨[rowFact bb (b.map bv ++ sp) 5], trivial, ?_⟩
      have hbb : BytesAt ([rowFact bb (b.map bv ++ sp) 5] ++ gx) (some ⟨bb, 0, none⟩) b := BytesAt.row (List.mem_cons_self ..) (by rw [List.drop_zero, List.take_left' (by simp)])
      have hsl : splice ns (0 + j * 1) [Value.slice (some ⟨bb, 0, none⟩) b.length (b.length + m)] = ns.set j (.slice (some ⟨bb, 0, none⟩) 64 (64 + m)) := by
        rw [Nat.mul_one, Nat.zero_add, splice_set (by omega), hb64]
      rw [hsl]
      apply Ret.ref3
      · (repeat first | exact List.mem_cons_self .. | apply List.mem_cons_of_mem)
      · (repeat first | exact List.mem_cons_self .. | apply List.mem_cons_of_mem)
      · (repeat first | exact List.mem_cons_self .. | apply List.mem_cons_of_mem)
      · rfl
      · exact RefOk.put (d := d) ⟨hR.ll, hR.nl, fun i s hi => by obtain ⟨A, cap, h1, h2⟩ := hR.las i s hi; exact ⟨A, cap, h1, h2.1.mono fun f hf => List.mem_cons_of_mem _ hf, h2.2⟩, hR.non, fun i s hi => by obtain ⟨A, cap, h1, h2⟩ := hR.new i s hi; exact ⟨A, cap, h1, h2.1.mono fun f hf => List.mem_cons_of_mem _ hf, h2.2⟩⟩ hj hbb (by omega)
      · exact SEq.nrm rfl rfl
      · exact fun ρ => by simp [den, DS.put]
      · intro g hg
        rw [List.mem_singleton.1 hg]
        exact List.mem_cons_self ..
end Go.Proofs.Ytekgjjanikicnaa.Sx
