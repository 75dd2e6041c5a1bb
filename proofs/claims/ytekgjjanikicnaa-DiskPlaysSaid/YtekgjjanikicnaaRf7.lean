/- What the reference's disk's calls do: a new one. -/
import Derived.Test.YtekgjjanikicnaaRf6
namespace Go.Proofs.Ytekgjjanikicnaa.Sx
open Go
set_option maxRecDepth 100000
set_option linter.unusedSimpArgs false
set_option linter.unusedVariables false

structure RnS where
  i : Nat
  row : Option (List Value × List Value)
  gs : List Fact
def RnS.inv (N : Nat) (fx : List Fact) (x : RnS) : SS := match x.row with
  | none => ⟨[(0, .v (.int .i64 N)), (3, .p 0 0), (4, .v (.int .i64 x.i))], [(0, .cells [.v (.slice none 0 0), .v (.slice none 0 0), .k .i64 (-1), .b false] 59)], 1, x.gs ++ fx⟩
  | some (ls, ns) => ⟨[(0, .v (.int .i64 N)), (3, .p 0 0), (4, .v (.int .i64 x.i))], [(0, .cells [.s 1 0 x.i ls.length, .s 2 0 x.i ns.length, .k .i64 (-1), .b false] 59), (1, .row ls 22), (2, .row ns 22)], 3, x.gs ++ fx⟩
structure RnS.Pr (N : Nat) (fx : List Fact) (x : RnS) : Prop where
  i : x.i ≤ N
  row : match x.row with
    | none => x.i = 0
    | some (ls, ns) => RefOk (x.gs ++ fx) ls ns (DS.new x.i)
theorem DS.new_len (n : Nat) : (DS.new n).l.length = n := by simp [DS.new]
theorem RefOk.grow {fx fx' : List Fact} {ls ns : List Value} {i : Nat} (h : RefOk fx ls ns (DS.new i)) (hf : ∀ f, f ∈ fx → f ∈ fx') {A : Option Addr} {cap : Nat} (hA : BytesAt fx' A zsec ∧ 64 ≤ cap) {s1 s2 : List Value} :
    RefOk fx' (ls.take i ++ [.slice A 64 cap] ++ s1) (ns.take i ++ [.slice none 0 0] ++ s2) (DS.new (i + 1)) := by
  have hl := h.ll
  have hn := h.nl
  rw [DS.new_len] at hl hn
  have g : ∀ (l s : List Value) (x : Value), i ≤ l.length → (l.take i ++ [x] ++ s)[i]? = some x := fun l s x hl => by
    rw [List.append_assoc, List.getElem?_append_right (by rw [List.length_take]; omega), List.length_take, Nat.min_eq_left hl, Nat.sub_self]; rfl
  have g2 : ∀ (l s : List Value) (x : Value) (j : Nat), i ≤ l.length → j < i → (l.take i ++ [x] ++ s)[j]? = l[j]? := fun l s x j hl hj => by
    rw [List.append_assoc, List.getElem?_append_left (by rw [List.length_take]; omega), List.getElem?_take, if_pos hj]
  refine ⟨by rw [DS.new_len]; simp; omega, by rw [DS.new_len]; simp; omega, fun j s hj => ?_, fun j hj hc => ?_, fun j t hc => by cases hc⟩
  · have hj1 : j < i + 1 ∧ s = zsec := by
      have := (List.getElem?_eq_some_iff.1 hj)
      obtain ⟨h1, h2⟩ := this
      rw [DS.new_len] at h1
      exact ⟨h1, by rw [← h2]; simp [DS.new]⟩
    obtain ⟨hj1, rfl⟩ := hj1
    by_cases e : j = i
    · subst e; exact ⟨A, cap, g _ _ _ hl, hA⟩
    · obtain ⟨B, c, h1, h2⟩ := h.las j zsec (by simp only [DS.new]; rw [List.getElem?_replicate, if_pos (by omega)])
      exact ⟨B, c, by rw [g2 _ _ _ _ hl (by omega)]; exact h1, h2.1.mono hf, h2.2⟩
  · rw [DS.new_len] at hj
    by_cases e : j = i
    · subst e; exact g _ _ _ hn
    · rw [g2 _ _ _ _ hn (by omega)]
      exact h.non j (by rw [DS.new_len]; omega) rfl
theorem tRNew (fx : List Fact) (n : Nat) (hn : n ≤ 1000) : Tri Try.prog 37 [.v (.int .i64 n)] [] 0 fx (RetE (α := List Fact) 0 (fun _ => True) (fun _ => .p 0 0) (fun g => [ref 0 (g ++ fx) (DS.new n)]) 1 (fun g => g)) := by
  refine Tri.of_code tok Try.func37 rfl rfl rfl (by decide) rfl (Nat.le_of_ble_eq_true rfl) ?_
  conv => whnf
  repeat' (first
    | (refine And.intro (by first | exact trivial | exact And.intro rfl trivial | exact And.intro rfl (And.intro rfl trivial) | exact And.intro rfl (And.intro rfl (And.intro rfl trivial))) (And.intro (fun _ h => h) ?_); (conv => whnf))
    | (refine And.intro (by first | exact trivial | exact And.intro rfl trivial | exact And.intro rfl (And.intro rfl trivial) | exact And.intro rfl (And.intro rfl (And.intro rfl trivial))) (And.intro (fun _ h => List.mem_cons_of_mem _ h) ?_); (conv => whnf))
    | (refine And.intro (by first | exact trivial | exact And.intro rfl trivial | exact And.intro rfl (And.intro rfl trivial) | exact And.intro rfl (And.intro rfl (And.intro rfl trivial))) (And.intro (fun _ h => List.mem_append_right _ h) ?_); (conv => whnf))
    | (refine And.intro (fun h => ?_) (fun h => ?_) <;> (try simp only [decide_eq_true_eq, decide_eq_false_iff_not, Bool.not_eq_true', Bool.not_eq_false', Bool.not_true, Bool.not_false] at h) <;> first | (exfalso; omega) | (cases h; done) | (conv => whnf))
    | (refine And.intro ?_ ?_; (omega); (conv => whnf))
    | (refine Exists.intro _ (And.intro (And.intro rfl rfl) ?_); (conv => whnf))
    | (refine Exists.intro ?w (And.intro (Pl.den ?p) ?k); (case p => repeat constructor); (conv => whnf))
    | (refine Exists.intro _ (And.intro (by with_reducible rfl) ?_); (conv => whnf))
    | (refine Exists.intro _ (And.intro (cast_succ _) ?_); (conv => whnf))
    | (refine Exists.intro _ (And.intro (by assumption) ?_); (conv => whnf))
    | (refine Exists.intro _ (And.intro (Int.toNat_of_nonneg ?_).symm ?_); (omega); (conv => whnf))
    | (refine Exists.intro _ (And.intro rfl ?_); (conv => whnf))
    | (intro h; (try simp only [decide_eq_true_eq, decide_eq_false_iff_not, Bool.not_eq_true', Bool.not_eq_false', Bool.not_true, Bool.not_false] at h); first | (exfalso; omega) | (cases h; done) | (conv => whnf)))
  refine loop_by tok (RnS.inv n fx) (RnS.Pr n fx) (fun x => n - x.i) ⟨0, none, []⟩ [0] ⟨Nat.zero_le _, rfl⟩ ⟨rfl, ⟨fun _ _ _ => rfl, SEq.ren rfl rfl, fun _ _ _ => rfl, trivial⟩, ⟨OSub.ren rfl rfl, trivial⟩, fun f hf => hf⟩ ?_
  rintro ⟨i, row, gs⟩ hx
  have hi := hx.i
  have hr := hx.row
  simp only at hi hr
  cases row with
  | none =>
    obtain rfl : i = 0 := hr
    simp only [RnS.inv]
    conv => whnf
    repeat' (first
      | (refine And.intro (by first | exact trivial | exact And.intro rfl trivial | exact And.intro rfl (And.intro rfl trivial) | exact And.intro rfl (And.intro rfl (And.intro rfl trivial))) (And.intro (fun _ h => h) ?_); (conv => whnf))
      | (refine And.intro (by first | exact trivial | exact And.intro rfl trivial | exact And.intro rfl (And.intro rfl trivial) | exact And.intro rfl (And.intro rfl (And.intro rfl trivial))) (And.intro (fun _ h => List.mem_cons_of_mem _ h) ?_); (conv => whnf))
      | (refine And.intro (by first | exact trivial | exact And.intro rfl trivial | exact And.intro rfl (And.intro rfl trivial) | exact And.intro rfl (And.intro rfl (And.intro rfl trivial))) (And.intro (fun _ h => List.mem_append_right _ h) ?_); (conv => whnf))
      | (refine And.intro (fun h => ?_) (fun h => ?_) <;> (try simp only [decide_eq_true_eq, decide_eq_false_iff_not, Bool.not_eq_true', Bool.not_eq_false', Bool.not_true, Bool.not_false] at h) <;> first | (exfalso; omega) | (cases h; done) | (conv => whnf))
      | (refine And.intro ?_ ?_; (omega); (conv => whnf))
      | (refine Exists.intro _ (And.intro (And.intro rfl rfl) ?_); (conv => whnf))
      | (refine Exists.intro ?w (And.intro (Pl.den ?p) ?k); (case p => repeat constructor); (conv => whnf))
      | (refine Exists.intro _ (And.intro (by with_reducible rfl) ?_); (conv => whnf))
      | (refine Exists.intro _ (And.intro (cast_succ _) ?_); (conv => whnf))
      | (refine Exists.intro _ (And.intro (by assumption) ?_); (conv => whnf))
      | (refine Exists.intro _ (And.intro (Int.toNat_of_nonneg ?_).symm ?_); (omega); (conv => whnf))
      | (refine Exists.intro _ (And.intro rfl ?_); (conv => whnf))
      | (intro h; (try simp only [decide_eq_true_eq, decide_eq_false_iff_not, Bool.not_eq_true', Bool.not_eq_false', Bool.not_true, Bool.not_false] at h); first | (exfalso; omega) | (cases h; done) | (conv => whnf)))
    · refine draw_rule tok (by kernel_rfl) [.any 0, .any 1, .any 2, .any 3, .load 4, .one 5, .one 6, .one 7, .any 8, .any 9, .last 10] [10] [(0, .cells [.v (.slice none 0 0), .v (.slice none 0 0), .k .i64 (-1), .b false] 59)] (by kernel_rfl) rfl rfl ⟨rfl, trivial⟩ ?_
      conv => whnf
      repeat' (first
        | (refine And.intro (by first | exact trivial | exact And.intro rfl trivial | exact And.intro rfl (And.intro rfl trivial) | exact And.intro rfl (And.intro rfl (And.intro rfl trivial))) (And.intro (fun _ h => h) ?_); (conv => whnf))
        | (refine And.intro (by first | exact trivial | exact And.intro rfl trivial | exact And.intro rfl (And.intro rfl trivial) | exact And.intro rfl (And.intro rfl (And.intro rfl trivial))) (And.intro (fun _ h => List.mem_cons_of_mem _ h) ?_); (conv => whnf))
        | (refine And.intro (by first | exact trivial | exact And.intro rfl trivial | exact And.intro rfl (And.intro rfl trivial) | exact And.intro rfl (And.intro rfl (And.intro rfl trivial))) (And.intro (fun _ h => List.mem_append_right _ h) ?_); (conv => whnf))
        | (refine And.intro (fun h => ?_) (fun h => ?_) <;> (try simp only [decide_eq_true_eq, decide_eq_false_iff_not, Bool.not_eq_true', Bool.not_eq_false', Bool.not_true, Bool.not_false] at h) <;> first | (exfalso; omega) | (cases h; done) | (conv => whnf))
        | (refine And.intro ?_ ?_; (omega); (conv => whnf))
        | (refine Exists.intro _ (And.intro (And.intro rfl rfl) ?_); (conv => whnf))
        | (refine Exists.intro ?w (And.intro (Pl.den ?p) ?k); (case p => repeat constructor); (conv => whnf))
        | (refine Exists.intro _ (And.intro (by with_reducible rfl) ?_); (conv => whnf))
        | (refine Exists.intro _ (And.intro (cast_succ _) ?_); (conv => whnf))
        | (refine Exists.intro _ (And.intro (by assumption) ?_); (conv => whnf))
        | (refine Exists.intro _ (And.intro (Int.toNat_of_nonneg ?_).symm ?_); (omega); (conv => whnf))
        | (refine Exists.intro _ (And.intro rfl ?_); (conv => whnf))
        | (intro h; (try simp only [decide_eq_true_eq, decide_eq_false_iff_not, Bool.not_eq_true', Bool.not_eq_false', Bool.not_true, Bool.not_false] at h); first | (exfalso; omega) | (cases h; done) | (conv => whnf)))
      have hsp2 := h
      rename_i bb p1 m sp hsp p2 m2 sp2
      rw [Nat.mul_one] at hsp hsp2
      have hb : BytesAt (rowFact bb (repRow [Value.int IntKind.u8 0] 64) 5 :: (gs ++ fx)) (some ⟨bb, 0, none⟩) zsec := BytesAt.row (List.mem_cons_self ..) rfl
      have h0 : RefOk (gs ++ fx) [] [] (DS.new 0) := ⟨Nat.zero_le _, Nat.zero_le _, fun i s hi => by simp [DS.new] at hi, fun i hi => by simp [DS.new] at hi, fun i t hc => by cases hc⟩
      have h1 := h0.grow (fun f hf => List.mem_cons_of_mem _ hf) (cap := 64) ⟨hb, Nat.le_refl _⟩ (s1 := sp) (s2 := sp2)
      refine ⟨⟨0 + 1, some ([Value.slice (some ⟨bb, 0, none⟩) 64 64] ++ sp, [Value.slice none 0 0] ++ sp2), rowFact bb (repRow [Value.int IntKind.u8 0] 64) 5 :: gs⟩, [0, 3, 5], ⟨⟨by simp only; omega, h1⟩, by simp only; omega⟩, rfl, ⟨fun _ _ _ => rfl, SEq.ren rfl rfl, fun _ _ _ => rfl, trivial⟩, ⟨OSub.ren rfl ?_, OSub.ren rfl rfl, OSub.ren rfl rfl, trivial⟩, fun f hf => hf⟩
      simp only [renO, renL, ren, List.length_append, List.length_singleton, hsp, hsp2]
      rfl
    · obtain rfl : n = 0 := by omega
      refine ⟨gs, trivial, ?_⟩
      exact Ret.mk [0] [ref 0 (gs ++ fx) (DS.new 0)] ((ref_zero (σ := [0]) (List.mem_cons_self ..) rfl (fun ρ => rfl)).trans (Fold.drop fun e he => by obtain rfl := List.mem_singleton.1 he; exact List.mem_cons_self ..)) rfl (SEq.ren rfl rfl) ⟨OSub.ren rfl rfl, trivial⟩ (fun g hg => List.mem_append_left _ hg)
  | some p =>
    obtain ⟨ls, ns⟩ := p
    simp only [RnS.inv]
    have hR : RefOk (gs ++ fx) ls ns (DS.new i) := hr
    have hll := hR.ll
    have hnl := hR.nl
    rw [DS.new_len] at hll hnl
    conv => whnf
    repeat' (first
      | (refine And.intro (by first | exact trivial | exact And.intro rfl trivial | exact And.intro rfl (And.intro rfl trivial) | exact And.intro rfl (And.intro rfl (And.intro rfl trivial))) (And.intro (fun _ h => h) ?_); (conv => whnf))
      | (refine And.intro (by first | exact trivial | exact And.intro rfl trivial | exact And.intro rfl (And.intro rfl trivial) | exact And.intro rfl (And.intro rfl (And.intro rfl trivial))) (And.intro (fun _ h => List.mem_cons_of_mem _ h) ?_); (conv => whnf))
      | (refine And.intro (by first | exact trivial | exact And.intro rfl trivial | exact And.intro rfl (And.intro rfl trivial) | exact And.intro rfl (And.intro rfl (And.intro rfl trivial))) (And.intro (fun _ h => List.mem_append_right _ h) ?_); (conv => whnf))
      | (refine And.intro (fun h => ?_) (fun h => ?_) <;> (try simp only [decide_eq_true_eq, decide_eq_false_iff_not, Bool.not_eq_true', Bool.not_eq_false', Bool.not_true, Bool.not_false] at h) <;> first | (exfalso; omega) | (cases h; done) | (conv => whnf))
      | (refine And.intro ?_ ?_; (omega); (conv => whnf))
      | (refine Exists.intro _ (And.intro (And.intro rfl rfl) ?_); (conv => whnf))
      | (refine Exists.intro ?w (And.intro (Pl.den ?p) ?k); (case p => repeat constructor); (conv => whnf))
      | (refine Exists.intro _ (And.intro (by with_reducible rfl) ?_); (conv => whnf))
      | (refine Exists.intro _ (And.intro (cast_succ _) ?_); (conv => whnf))
      | (refine Exists.intro _ (And.intro (by assumption) ?_); (conv => whnf))
      | (refine Exists.intro _ (And.intro (Int.toNat_of_nonneg ?_).symm ?_); (omega); (conv => whnf))
      | (refine Exists.intro _ (And.intro rfl ?_); (conv => whnf))
      | (intro h; (try simp only [decide_eq_true_eq, decide_eq_false_iff_not, Bool.not_eq_true', Bool.not_eq_false', Bool.not_true, Bool.not_false] at h); first | (exfalso; omega) | (cases h; done) | (conv => whnf)))
    · refine draw_rule tok (by kernel_rfl) [.any 0, .any 1, .any 2, .any 3, .load 4, .one 5, .one 6, .one 7, .any 8, .any 9, .last 10] [10] [(0, .cells [.s 1 0 i ls.length, .s 2 0 i ns.length, .k .i64 (-1), .b false] 59)] (by kernel_rfl) rfl rfl ⟨rfl, trivial⟩ ?_
      conv => whnf
      repeat' (first
        | (refine And.intro (by first | exact trivial | exact And.intro rfl trivial | exact And.intro rfl (And.intro rfl trivial) | exact And.intro rfl (And.intro rfl (And.intro rfl trivial))) (And.intro (fun _ h => h) ?_); (conv => whnf))
        | (refine And.intro (by first | exact trivial | exact And.intro rfl trivial | exact And.intro rfl (And.intro rfl trivial) | exact And.intro rfl (And.intro rfl (And.intro rfl trivial))) (And.intro (fun _ h => List.mem_cons_of_mem _ h) ?_); (conv => whnf))
        | (refine And.intro (by first | exact trivial | exact And.intro rfl trivial | exact And.intro rfl (And.intro rfl trivial) | exact And.intro rfl (And.intro rfl (And.intro rfl trivial))) (And.intro (fun _ h => List.mem_append_right _ h) ?_); (conv => whnf))
        | (refine And.intro (fun h => ?_) (fun h => ?_) <;> (try simp only [decide_eq_true_eq, decide_eq_false_iff_not, Bool.not_eq_true', Bool.not_eq_false', Bool.not_true, Bool.not_false] at h) <;> first | (exfalso; omega) | (cases h; done) | (conv => whnf))
        | (refine And.intro ?_ ?_; (omega); (conv => whnf))
        | (refine Exists.intro _ (And.intro (And.intro rfl rfl) ?_); (conv => whnf))
        | (refine Exists.intro ?w (And.intro (Pl.den ?p) ?k); (case p => repeat constructor); (conv => whnf))
        | (refine Exists.intro _ (And.intro (by with_reducible rfl) ?_); (conv => whnf))
        | (refine Exists.intro _ (And.intro (cast_succ _) ?_); (conv => whnf))
        | (refine Exists.intro _ (And.intro (by assumption) ?_); (conv => whnf))
        | (refine Exists.intro _ (And.intro (Int.toNat_of_nonneg ?_).symm ?_); (omega); (conv => whnf))
        | (refine Exists.intro _ (And.intro rfl ?_); (conv => whnf))
        | (intro h; (try simp only [decide_eq_true_eq, decide_eq_false_iff_not, Bool.not_eq_true', Bool.not_eq_false', Bool.not_true, Bool.not_false] at h); first | (exfalso; omega) | (cases h; done) | (conv => whnf)))
      obtain ⟨bb, hbb0⟩ : ∃ x, x = h := ⟨_, rfl⟩
      subst hbb0
      refine And.intro ⟨by omega, hll, by omega, fun u hu => by obtain rfl := List.mem_singleton.1 hu; rfl⟩ ?_
      intro m sp hsp
      conv => whnf
      repeat' (first
        | (refine And.intro (by first | exact trivial | exact And.intro rfl trivial | exact And.intro rfl (And.intro rfl trivial) | exact And.intro rfl (And.intro rfl (And.intro rfl trivial))) (And.intro (fun _ h => h) ?_); (conv => whnf))
        | (refine And.intro (by first | exact trivial | exact And.intro rfl trivial | exact And.intro rfl (And.intro rfl trivial) | exact And.intro rfl (And.intro rfl (And.intro rfl trivial))) (And.intro (fun _ h => List.mem_cons_of_mem _ h) ?_); (conv => whnf))
        | (refine And.intro (by first | exact trivial | exact And.intro rfl trivial | exact And.intro rfl (And.intro rfl trivial) | exact And.intro rfl (And.intro rfl (And.intro rfl trivial))) (And.intro (fun _ h => List.mem_append_right _ h) ?_); (conv => whnf))
        | (refine And.intro (fun h => ?_) (fun h => ?_) <;> (try simp only [decide_eq_true_eq, decide_eq_false_iff_not, Bool.not_eq_true', Bool.not_eq_false', Bool.not_true, Bool.not_false] at h) <;> first | (exfalso; omega) | (cases h; done) | (conv => whnf))
        | (refine And.intro ?_ ?_; (omega); (conv => whnf))
        | (refine Exists.intro _ (And.intro (And.intro rfl rfl) ?_); (conv => whnf))
        | (refine Exists.intro ?w (And.intro (Pl.den ?p) ?k); (case p => repeat constructor); (conv => whnf))
        | (refine Exists.intro _ (And.intro (by with_reducible rfl) ?_); (conv => whnf))
        | (refine Exists.intro _ (And.intro (cast_succ _) ?_); (conv => whnf))
        | (refine Exists.intro _ (And.intro (by assumption) ?_); (conv => whnf))
        | (refine Exists.intro _ (And.intro (Int.toNat_of_nonneg ?_).symm ?_); (omega); (conv => whnf))
        | (refine Exists.intro _ (And.intro rfl ?_); (conv => whnf))
        | (intro h; (try simp only [decide_eq_true_eq, decide_eq_false_iff_not, Bool.not_eq_true', Bool.not_eq_false', Bool.not_true, Bool.not_false] at h); first | (exfalso; omega) | (cases h; done) | (conv => whnf)))
      refine And.intro ⟨by omega, hnl, by omega, fun u hu => by obtain rfl := List.mem_singleton.1 hu; rfl⟩ ?_
      intro m2 sp2 hsp2
      conv => whnf
      repeat' (first
        | (refine And.intro (by first | exact trivial | exact And.intro rfl trivial | exact And.intro rfl (And.intro rfl trivial) | exact And.intro rfl (And.intro rfl (And.intro rfl trivial))) (And.intro (fun _ h => h) ?_); (conv => whnf))
        | (refine And.intro (by first | exact trivial | exact And.intro rfl trivial | exact And.intro rfl (And.intro rfl trivial) | exact And.intro rfl (And.intro rfl (And.intro rfl trivial))) (And.intro (fun _ h => List.mem_cons_of_mem _ h) ?_); (conv => whnf))
        | (refine And.intro (by first | exact trivial | exact And.intro rfl trivial | exact And.intro rfl (And.intro rfl trivial) | exact And.intro rfl (And.intro rfl (And.intro rfl trivial))) (And.intro (fun _ h => List.mem_append_right _ h) ?_); (conv => whnf))
        | (refine And.intro (fun h => ?_) (fun h => ?_) <;> (try simp only [decide_eq_true_eq, decide_eq_false_iff_not, Bool.not_eq_true', Bool.not_eq_false', Bool.not_true, Bool.not_false] at h) <;> first | (exfalso; omega) | (cases h; done) | (conv => whnf))
        | (refine And.intro ?_ ?_; (omega); (conv => whnf))
        | (refine Exists.intro _ (And.intro (And.intro rfl rfl) ?_); (conv => whnf))
        | (refine Exists.intro ?w (And.intro (Pl.den ?p) ?k); (case p => repeat constructor); (conv => whnf))
        | (refine Exists.intro _ (And.intro (by with_reducible rfl) ?_); (conv => whnf))
        | (refine Exists.intro _ (And.intro (cast_succ _) ?_); (conv => whnf))
        | (refine Exists.intro _ (And.intro (by assumption) ?_); (conv => whnf))
        | (refine Exists.intro _ (And.intro (Int.toNat_of_nonneg ?_).symm ?_); (omega); (conv => whnf))
        | (refine Exists.intro _ (And.intro rfl ?_); (conv => whnf))
        | (intro h; (try simp only [decide_eq_true_eq, decide_eq_false_iff_not, Bool.not_eq_true', Bool.not_eq_false', Bool.not_true, Bool.not_false] at h); first | (exfalso; omega) | (cases h; done) | (conv => whnf)))
      rw [Nat.mul_one] at hsp hsp2
      have hb : BytesAt (rowFact bb (repRow [Value.int IntKind.u8 0] 64) 5 :: (gs ++ fx)) (some ⟨bb, 0, none⟩) zsec := BytesAt.row (List.mem_cons_self ..) rfl
      have h1 := hR.grow (fun f hf => List.mem_cons_of_mem _ hf) (cap := 64) ⟨hb, Nat.le_refl _⟩ (s1 := sp) (s2 := sp2)
      refine ⟨⟨i + 1, some (ls.take i ++ [Value.slice (some ⟨bb, 0, none⟩) 64 64] ++ sp, ns.take i ++ [Value.slice none 0 0] ++ sp2), rowFact bb (repRow [Value.int IntKind.u8 0] 64) 5 :: gs⟩, [0, 5, 7], ⟨⟨by simp only; omega, h1⟩, by simp only; omega⟩, rfl, ⟨fun _ _ _ => rfl, SEq.ren rfl rfl, SEq.eq rfl, trivial⟩, ⟨OSub.ren rfl ?_, OSub.ren rfl ?_, OSub.ren rfl ?_, trivial⟩, fun f hf => hf⟩
      · simp only [renO, renL, ren, List.length_append, List.length_singleton, List.length_take, Nat.min_eq_left hll, Nat.min_eq_left hnl, hsp, hsp2]
        rfl
      · simp only [renO, Nat.mul_one]
      · simp only [renO, Nat.mul_one]
    · obtain rfl : i = n := by omega
      refine ⟨gs, trivial, ?_⟩
      exact Ret.mk [0] [ref 0 (gs ++ fx) (DS.new i)] ((ref_rows (σ := [0, 1, 2]) (List.mem_cons_self ..) (List.mem_cons_of_mem _ (List.mem_cons_self ..)) (List.mem_cons_of_mem _ (List.mem_cons_of_mem _ (List.mem_cons_self ..))) rfl hR (fun ρ => by simp [den, DS.new_len, DS.new, sg])).trans (Fold.drop fun e he => by obtain rfl := List.mem_singleton.1 he; exact List.mem_cons_self ..)) rfl (SEq.ren rfl rfl) ⟨OSub.ren rfl rfl, trivial⟩ (fun g hg => List.mem_append_left _ hg)
end Go.Proofs.Ytekgjjanikicnaa.Sx
