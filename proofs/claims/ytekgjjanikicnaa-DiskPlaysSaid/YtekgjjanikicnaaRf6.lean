/- What the reference's disk's calls do: crashes. -/
import Derived.Test.YtekgjjanikicnaaRf5
namespace Go.Proofs.Ytekgjjanikicnaa.Sx
open Go
set_option maxRecDepth 100000
set_option linter.unusedSimpArgs false
set_option linter.unusedVariables false

/-- The first i sectors, k of them written, have met the crash; l stands there. -/
structure RcP (gx : List Fact) (d : DS) (keep : List Bool) (torn at_ : Int) (i k : Nat) (l : List Sec) (ls ns : List Value) : Prop where
  cr : CrP d keep torn at_ ⟨i, k, l⟩
  ref : RefOk gx ls ns { d with l := l, c := fun j => if j < (i : Int) then none else d.c j }
theorem RefOk.setl {gx : List Fact} {ls ns : List Value} {d : DS} {l : List Sec} {i : Nat} (h : RefOk gx ls ns { d with l := l, c := fun j => if j < (i : Int) then none else d.c j }) (hi : i < l.length) {t : Sec} {A : Option Addr} {cap : Nat} (hA : BytesAt gx A t ∧ 64 ≤ cap) :
    RefOk gx (ls.set i (.slice A 64 cap)) (ns.set i (.slice none 0 0)) { d with l := l.set i t, c := fun j => if j < ((i + 1 : Nat) : Int) then none else d.c j } := by
  have hl := h.ll
  have hn := h.nl
  simp only at hl hn
  refine ⟨by simp only [List.length_set]; exact hl, by simp only [List.length_set]; exact hn, fun j s hj => ?_, fun j hj hcj => ?_, fun j u hcj => ?_⟩
  · simp only at hj
    by_cases e : j = i
    · subst e
      rw [List.getElem?_set_self hi] at hj
      cases hj
      exact ⟨A, cap, by rw [List.getElem?_set_self (by omega)], hA⟩
    · rw [List.getElem?_set_ne (by omega)] at hj ⊢
      exact h.las j s hj
  · simp only [List.length_set] at hj
    by_cases e : j = i
    · subst e; rw [List.getElem?_set_self (by omega)]
    · rw [List.getElem?_set_ne (by omega)]
      refine h.non j hj ?_
      simp only at hcj ⊢
      by_cases e2 : (j : Int) < (i : Int)
      · rw [if_pos e2]
      · rw [if_neg e2]; rw [if_neg (by omega)] at hcj; exact hcj
  · simp only at hcj
    split at hcj
    · cases hcj
    · rw [List.getElem?_set_ne (by omega)]
      refine h.new j u ?_
      simp only
      rw [if_neg (by omega)]; exact hcj
theorem RefOk.skip {gx : List Fact} {ls ns : List Value} {d : DS} {l : List Sec} {i : Nat} (h : RefOk gx ls ns { d with l := l, c := fun j => if j < (i : Int) then none else d.c j }) (hc : d.c i = none) :
    RefOk gx ls ns { d with l := l, c := fun j => if j < ((i + 1 : Nat) : Int) then none else d.c j } := by
  have e : (fun j => if j < ((i + 1 : Nat) : Int) then none else d.c j) = (fun j => if j < (i : Int) then none else d.c j) := by
    funext j
    by_cases e : j = (i : Int)
    · subst e; rw [hc]; split <;> split <;> rfl
    · have : j < ((i + 1 : Nat) : Int) ↔ j < (i : Int) := by omega
      simp only [this]
  rw [e]; exact h
theorem appFK_intro : ∀ {a b : List Fact} {k : List Fact → Prop}, k (a ++ b) → appFK a b k
  | [], _, _, h => h
  | x :: a, b, k, h => appFK_intro (a := a) (k := fun m => k (x :: m)) h
structure RcS where
  i : Nat
  k : Nat
  l : List Sec
  ls : List Value
  ns : List Value
  gs : List Fact
theorem tRCrash (fx gx : List Fact) (d : DS) (hd : d.Ok) (A : Option Addr) (cap : Nat) (keep : List Bool) (torn at_ : Int) (hgx : ∀ f, f ∈ gx → f ∈ fx) (hK : BoolsAt gx A keep) (hk : keep.length ≤ 1000000000) (ht : -9223372036854775808 ≤ at_ ∧ at_ < 9223372036854775808) :
    Tri Try.prog 69 [.p 0 0, .agg [.v (.slice A keep.length cap), .v (.int .i64 torn), .v (.int .i64 at_)]] [ref 0 gx d] 1 fx (RetE (α := List Fact) 1 (fun _ => True) (fun _ => .tup []) (fun g => [ref 0 (g ++ gx) (d.crash keep torn at_)]) 1 (fun g => g)) := by
  refine Tri.toldE (told_ref gx d) (fun xs w => by simp [callFunc, Try.func69, Try.f69]) 0 (List.mem_singleton.2 rfl) fun v => ?_
  have hf := hd.fus
  have hlen := hd.len
  cases v with
  | zero h0 =>
    have hl0 : d.l.length = 0 := by rw [h0]; rfl
    show Tri _ 69 _ [(0, .cells [.v (.slice none 0 0), .v (.slice none 0 0), .v (.int .i64 d.fuse), .v (.bool d.down)] 59)] 3 fx _
    refine Tri.of_code tok Try.func69 rfl rfl rfl (by decide) rfl (Nat.le_of_ble_eq_true rfl) ?_
    conv => whnf
    repeat' (first
      | (refine And.intro (by first | exact trivial | exact And.intro rfl trivial | exact And.intro rfl (And.intro rfl trivial) | exact And.intro rfl (And.intro rfl (And.intro rfl trivial))) (And.intro (fun _ h => h) ?_); (conv => whnf))
      | (refine And.intro (by first | exact trivial | exact And.intro rfl trivial | exact And.intro rfl (And.intro rfl trivial) | exact And.intro rfl (And.intro rfl (And.intro rfl trivial))) (And.intro (fun _ h => List.mem_cons_of_mem _ h) ?_); (conv => whnf))
      | (refine And.intro (by first | exact trivial | exact And.intro rfl trivial | exact And.intro rfl (And.intro rfl trivial) | exact And.intro rfl (And.intro rfl (And.intro rfl trivial))) (And.intro (fun _ h => List.mem_append_right _ h) ?_); (conv => whnf))
      | (refine And.intro (fun h => ?_) (fun h => ?_) <;> (try simp only [decide_eq_true_eq, decide_eq_false_iff_not, Bool.not_eq_true', Bool.not_eq_false', Bool.not_true, Bool.not_false] at h) <;> first | (exfalso; omega) | (cases h; done) | (conv => whnf))
      | (refine And.intro ?_ ?_; (omega); (conv => whnf))
      | (refine Exists.intro _ (And.intro (And.intro rfl rfl) ?_); (conv => whnf))
      | (refine Exists.intro ?w (And.intro (Pl.den ?p) ?k); (case p => repeat constructor); (conv => whnf))
      | (refine Exists.intro _ (And.intro (by with_reducible rfl) ?_); (conv => whnf))
      | (refine Exists.intro _ (And.intro (cast_succ _) ?_); (conv => whnf))
      | (refine Exists.intro _ (And.intro (by assumption) ?_); (conv => whnf))
      | (refine Exists.intro _ (And.intro (Int.toNat_of_nonneg ?_).symm ?_); (omega); (conv => whnf))
      | (refine Exists.intro _ (And.intro rfl ?_); (conv => whnf))
      | (intro h; (try simp only [decide_eq_true_eq, decide_eq_false_iff_not, Bool.not_eq_true', Bool.not_eq_false', Bool.not_true, Bool.not_false] at h); first | (exfalso; omega) | (cases h; done) | (conv => whnf)))
    refine loop_rounds 1 (round_next tok ?_)
    conv => whnf
    repeat' (first
      | (refine And.intro (by first | exact trivial | exact And.intro rfl trivial | exact And.intro rfl (And.intro rfl trivial) | exact And.intro rfl (And.intro rfl (And.intro rfl trivial))) (And.intro (fun _ h => h) ?_); (conv => whnf))
      | (refine And.intro (by first | exact trivial | exact And.intro rfl trivial | exact And.intro rfl (And.intro rfl trivial) | exact And.intro rfl (And.intro rfl (And.intro rfl trivial))) (And.intro (fun _ h => List.mem_cons_of_mem _ h) ?_); (conv => whnf))
      | (refine And.intro (by first | exact trivial | exact And.intro rfl trivial | exact And.intro rfl (And.intro rfl trivial) | exact And.intro rfl (And.intro rfl (And.intro rfl trivial))) (And.intro (fun _ h => List.mem_append_right _ h) ?_); (conv => whnf))
      | (refine And.intro (fun h => ?_) (fun h => ?_) <;> (try simp only [decide_eq_true_eq, decide_eq_false_iff_not, Bool.not_eq_true', Bool.not_eq_false', Bool.not_true, Bool.not_false] at h) <;> first | (exfalso; omega) | (cases h; done) | (conv => whnf))
      | (refine And.intro ?_ ?_; (omega); (conv => whnf))
      | (refine Exists.intro _ (And.intro (And.intro rfl rfl) ?_); (conv => whnf))
      | (refine Exists.intro ?w (And.intro (Pl.den ?p) ?k); (case p => repeat constructor); (conv => whnf))
      | (refine Exists.intro _ (And.intro (by with_reducible rfl) ?_); (conv => whnf))
      | (refine Exists.intro _ (And.intro (cast_succ _) ?_); (conv => whnf))
      | (refine Exists.intro _ (And.intro (by assumption) ?_); (conv => whnf))
      | (refine Exists.intro _ (And.intro (Int.toNat_of_nonneg ?_).symm ?_); (omega); (conv => whnf))
      | (refine Exists.intro _ (And.intro rfl ?_); (conv => whnf))
      | (intro h; (try simp only [decide_eq_true_eq, decide_eq_false_iff_not, Bool.not_eq_true', Bool.not_eq_false', Bool.not_true, Bool.not_false] at h); first | (exfalso; omega) | (cases h; done) | (conv => whnf)))
    refine ⟨[], trivial, ?_⟩
    apply Ret.ref0
    · (repeat first | exact List.mem_cons_self .. | apply List.mem_cons_of_mem)
    · rfl
    · simp only [DS.crash, h0, crashGo]
    · exact fun _ _ _ => rfl
    · exact fun ρ => by simp [den, DS.crash]
    · exact fun _ h => nomatch h
  | rows ls ns hR =>
    show Tri _ 69 _ [(0, .cells [.s 1 0 d.l.length ls.length, .s 2 0 d.l.length ns.length, .v (.int .i64 d.fuse), .v (.bool d.down)] 59), (1, .row ls 22), (2, .row ns 22)] 3 fx _
    refine Tri.of_code tok Try.func69 rfl rfl rfl (by decide) rfl (Nat.le_of_ble_eq_true rfl) ?_
    conv => whnf
    repeat' (first
      | (refine And.intro (by first | exact trivial | exact And.intro rfl trivial | exact And.intro rfl (And.intro rfl trivial) | exact And.intro rfl (And.intro rfl (And.intro rfl trivial))) (And.intro (fun _ h => h) ?_); (conv => whnf))
      | (refine And.intro (by first | exact trivial | exact And.intro rfl trivial | exact And.intro rfl (And.intro rfl trivial) | exact And.intro rfl (And.intro rfl (And.intro rfl trivial))) (And.intro (fun _ h => List.mem_cons_of_mem _ h) ?_); (conv => whnf))
      | (refine And.intro (by first | exact trivial | exact And.intro rfl trivial | exact And.intro rfl (And.intro rfl trivial) | exact And.intro rfl (And.intro rfl (And.intro rfl trivial))) (And.intro (fun _ h => List.mem_append_right _ h) ?_); (conv => whnf))
      | (refine And.intro (fun h => ?_) (fun h => ?_) <;> (try simp only [decide_eq_true_eq, decide_eq_false_iff_not, Bool.not_eq_true', Bool.not_eq_false', Bool.not_true, Bool.not_false] at h) <;> first | (exfalso; omega) | (cases h; done) | (conv => whnf))
      | (refine And.intro ?_ ?_; (omega); (conv => whnf))
      | (refine Exists.intro _ (And.intro (And.intro rfl rfl) ?_); (conv => whnf))
      | (refine Exists.intro ?w (And.intro (Pl.den ?p) ?k); (case p => repeat constructor); (conv => whnf))
      | (refine Exists.intro _ (And.intro (by with_reducible rfl) ?_); (conv => whnf))
      | (refine Exists.intro _ (And.intro (cast_succ _) ?_); (conv => whnf))
      | (refine Exists.intro _ (And.intro (by assumption) ?_); (conv => whnf))
      | (refine Exists.intro _ (And.intro (Int.toNat_of_nonneg ?_).symm ?_); (omega); (conv => whnf))
      | (refine Exists.intro _ (And.intro rfl ?_); (conv => whnf))
      | (intro h; (try simp only [decide_eq_true_eq, decide_eq_false_iff_not, Bool.not_eq_true', Bool.not_eq_false', Bool.not_true, Bool.not_false] at h); first | (exfalso; omega) | (cases h; done) | (conv => whnf)))
    refine loop_by tok (α := RcS) (fun x => match x with | ⟨i, k, l, ls', ns', gs⟩ => ⟨[(0, .p 0 0), (3, .p 3 0), (4, .v (.int .i64 k)), (5, .v (.int .i64 i))],
        [(0, .cells [.s 1 0 d.l.length ls'.length, .s 2 0 d.l.length ns'.length, .v (.int .i64 d.fuse), .v (.bool d.down)] 59), (1, .row ls' 22), (2, .row ns' 22), (3, .cells [.v (.slice A keep.length cap), .v (.int .i64 torn), .v (.int .i64 at_)] 47)], 4, gs ++ fx⟩)
      (fun x => RcP (x.gs ++ gx) d keep torn at_ x.i x.k x.l x.ls x.ns) (fun x => d.l.length - x.i) ⟨0, 0, d.l, ls, ns, []⟩ [0, 1, 2, 3] ⟨⟨Nat.zero_le _, Nat.le_refl _, rfl, hd.sec, rfl, rfl⟩, ?h0⟩ ⟨rfl, ⟨SEq.ren rfl rfl, SEq.ren rfl rfl, fun _ _ _ => rfl, fun _ _ _ => rfl, trivial⟩, ⟨OSub.ren rfl rfl, OSub.ren rfl rfl, OSub.ren rfl rfl, OSub.ren rfl rfl, trivial⟩, fun f hf => hf⟩ ?_
    case h0 =>
      have := syn_zero hd
      have e : (fun j => if j < ((0 : Nat) : Int) then none else d.c j) = d.c := congrArg DS.c this
      simp only [e]
      exact hR
    rintro ⟨i, k, l, ls', ns', gs⟩ ⟨hx, hR'⟩
    simp only at hx hR'
    have hxi := hx.i
    have hxk := hx.k
    have hxl := hx.len
    have hsec := hx.sec
    have hll := hR'.ll
    have hnl := hR'.nl
    simp only at hxi hxk hxl hsec hll hnl
    conv => whnf
    repeat' (first
      | (refine And.intro (by first | exact trivial | exact And.intro rfl trivial | exact And.intro rfl (And.intro rfl trivial) | exact And.intro rfl (And.intro rfl (And.intro rfl trivial))) (And.intro (fun _ h => h) ?_); (conv => whnf))
      | (refine And.intro (by first | exact trivial | exact And.intro rfl trivial | exact And.intro rfl (And.intro rfl trivial) | exact And.intro rfl (And.intro rfl (And.intro rfl trivial))) (And.intro (fun _ h => List.mem_cons_of_mem _ h) ?_); (conv => whnf))
      | (refine And.intro (by first | exact trivial | exact And.intro rfl trivial | exact And.intro rfl (And.intro rfl trivial) | exact And.intro rfl (And.intro rfl (And.intro rfl trivial))) (And.intro (fun _ h => List.mem_append_right _ h) ?_); (conv => whnf))
      | (refine And.intro (fun h => ?_) (fun h => ?_) <;> (try simp only [decide_eq_true_eq, decide_eq_false_iff_not, Bool.not_eq_true', Bool.not_eq_false', Bool.not_true, Bool.not_false] at h) <;> first | (exfalso; omega) | (cases h; done) | (conv => whnf))
      | (refine And.intro ?_ ?_; (omega); (conv => whnf))
      | (refine Exists.intro _ (And.intro (And.intro rfl rfl) ?_); (conv => whnf))
      | (refine Exists.intro ?w (And.intro (Pl.den ?p) ?k); (case p => repeat constructor); (conv => whnf))
      | (refine Exists.intro _ (And.intro (by with_reducible rfl) ?_); (conv => whnf))
      | (refine Exists.intro _ (And.intro (cast_succ _) ?_); (conv => whnf))
      | (refine Exists.intro _ (And.intro (by assumption) ?_); (conv => whnf))
      | (refine Exists.intro _ (And.intro (Int.toNat_of_nonneg ?_).symm ?_); (omega); (conv => whnf))
      | (refine Exists.intro _ (And.intro rfl ?_); (conv => whnf))
      | (intro h; (try simp only [decide_eq_true_eq, decide_eq_false_iff_not, Bool.not_eq_true', Bool.not_eq_false', Bool.not_true, Bool.not_false] at h); first | (exfalso; omega) | (cases h; done) | (conv => whnf)))
    · have hiN : i < d.l.length := by omega
      cases hc : d.c i with
      | none =>
        have hn := hR'.non i (by simp only; omega) (by simp only; rw [if_neg (by omega)]; exact hc)
        have hskip := hx.skip (by simp only; omega) hc
        simp only at hskip
        refine Exists.intro (.slice none 0 0) (And.intro (by rw [Nat.mul_one, Nat.zero_add]; exact hn) ?_)
        conv => whnf
        repeat' (first
          | (refine And.intro (by first | exact trivial | exact And.intro rfl trivial | exact And.intro rfl (And.intro rfl trivial) | exact And.intro rfl (And.intro rfl (And.intro rfl trivial))) (And.intro (fun _ h => h) ?_); (conv => whnf))
          | (refine And.intro (by first | exact trivial | exact And.intro rfl trivial | exact And.intro rfl (And.intro rfl trivial) | exact And.intro rfl (And.intro rfl (And.intro rfl trivial))) (And.intro (fun _ h => List.mem_cons_of_mem _ h) ?_); (conv => whnf))
          | (refine And.intro (by first | exact trivial | exact And.intro rfl trivial | exact And.intro rfl (And.intro rfl trivial) | exact And.intro rfl (And.intro rfl (And.intro rfl trivial))) (And.intro (fun _ h => List.mem_append_right _ h) ?_); (conv => whnf))
          | (refine And.intro (fun h => ?_) (fun h => ?_) <;> (try simp only [decide_eq_true_eq, decide_eq_false_iff_not, Bool.not_eq_true', Bool.not_eq_false', Bool.not_true, Bool.not_false] at h) <;> first | (exfalso; omega) | (cases h; done) | (conv => whnf))
          | (refine And.intro ?_ ?_; (omega); (conv => whnf))
          | (refine Exists.intro _ (And.intro (And.intro rfl rfl) ?_); (conv => whnf))
          | (refine Exists.intro ?w (And.intro (Pl.den ?p) ?k); (case p => repeat constructor); (conv => whnf))
          | (refine Exists.intro _ (And.intro (by with_reducible rfl) ?_); (conv => whnf))
          | (refine Exists.intro _ (And.intro (cast_succ _) ?_); (conv => whnf))
          | (refine Exists.intro _ (And.intro (by assumption) ?_); (conv => whnf))
          | (refine Exists.intro _ (And.intro (Int.toNat_of_nonneg ?_).symm ?_); (omega); (conv => whnf))
          | (refine Exists.intro _ (And.intro rfl ?_); (conv => whnf))
          | (intro h; (try simp only [decide_eq_true_eq, decide_eq_false_iff_not, Bool.not_eq_true', Bool.not_eq_false', Bool.not_true, Bool.not_false] at h); first | (exfalso; omega) | (cases h; done) | (conv => whnf)))
        refine ⟨⟨i + 1, k, l, ls', ns', gs⟩, [0, 1, 2, 3], ⟨⟨hskip, hR'.skip hc⟩, by simp only; omega⟩, rfl, ⟨SEq.ren rfl rfl, SEq.ren rfl rfl, fun _ _ _ => rfl, SEq.eq rfl, trivial⟩, ⟨OSub.ren rfl rfl, OSub.ren rfl rfl, OSub.ren rfl rfl, OSub.ren rfl rfl, trivial⟩, fun f hf => hf⟩
      | some t =>
        have ht64 := (hd.cac _ _ hc).2
        have hhere := hx.here (by simp only; omega)
        have hstep := hx.step (by simp only; omega) hc ht64
        simp only at hhere hstep
        obtain ⟨B, bc, h1, h2, h3⟩ := hR'.new i t (by simp only; rw [if_neg (by omega)]; exact hc)
        obtain ⟨C, cc, h4, h5, h6⟩ := hR'.las i _ hhere
        have hs64 : d.l[i].length = 64 := hd.sec _ (List.getElem_mem _)
        have hsub : ∀ f, f ∈ gs ++ gx → f ∈ gs ++ fx := fun f hf => by
          rcases List.mem_append.1 hf with hf | hf
          · exact List.mem_append_left _ hf
          · exact List.mem_append_right _ (hgx f hf)
        refine Exists.intro (.slice B 64 bc) (And.intro (by rw [Nat.mul_one, Nat.zero_add]; exact h1) ?_)
        conv => whnf
        repeat' (first
          | (refine And.intro (by first | exact trivial | exact And.intro rfl trivial | exact And.intro rfl (And.intro rfl trivial) | exact And.intro rfl (And.intro rfl (And.intro rfl trivial))) (And.intro (fun _ h => h) ?_); (conv => whnf))
          | (refine And.intro (by first | exact trivial | exact And.intro rfl trivial | exact And.intro rfl (And.intro rfl trivial) | exact And.intro rfl (And.intro rfl (And.intro rfl trivial))) (And.intro (fun _ h => List.mem_cons_of_mem _ h) ?_); (conv => whnf))
          | (refine And.intro (by first | exact trivial | exact And.intro rfl trivial | exact And.intro rfl (And.intro rfl trivial) | exact And.intro rfl (And.intro rfl (And.intro rfl trivial))) (And.intro (fun _ h => List.mem_append_right _ h) ?_); (conv => whnf))
          | (refine And.intro (fun h => ?_) (fun h => ?_) <;> (try simp only [decide_eq_true_eq, decide_eq_false_iff_not, Bool.not_eq_true', Bool.not_eq_false', Bool.not_true, Bool.not_false] at h) <;> first | (exfalso; omega) | (cases h; done) | (conv => whnf))
          | (refine And.intro ?_ ?_; (omega); (conv => whnf))
          | (refine Exists.intro _ (And.intro (And.intro rfl rfl) ?_); (conv => whnf))
          | (refine Exists.intro ?w (And.intro (Pl.den ?p) ?k); (case p => repeat constructor); (conv => whnf))
          | (refine Exists.intro _ (And.intro (by with_reducible rfl) ?_); (conv => whnf))
          | (refine Exists.intro _ (And.intro (cast_succ _) ?_); (conv => whnf))
          | (refine Exists.intro _ (And.intro (by assumption) ?_); (conv => whnf))
          | (refine Exists.intro _ (And.intro (Int.toNat_of_nonneg ?_).symm ?_); (omega); (conv => whnf))
          | (refine Exists.intro _ (And.intro rfl ?_); (conv => whnf))
          | (intro h; (try simp only [decide_eq_true_eq, decide_eq_false_iff_not, Bool.not_eq_true', Bool.not_eq_false', Bool.not_true, Bool.not_false] at h); first | (exfalso; omega) | (cases h; done) | (conv => whnf)))
        refine draw_rule tok (by kernel_rfl) [.any 0, .any 1, .any 2, .any 4, .any 5, .any 6, .any 7, .any 9, .any 12, .any 13, .any 14, .any 16, .any 19, .load 3, .load 8, .any 10, .load 11, .load 15, .any 17, .load 18, .one 20, .one 21, .any 22, .last 23] [23] [(0, .cells [.s 1 0 d.l.length ls'.length, .s 2 0 d.l.length ns'.length, .v (.int .i64 d.fuse), .v (.bool d.down)] 59), (1, .row ls' 22), (2, .row ns' 22)] (by kernel_rfl) rfl rfl ⟨rfl, rfl, rfl, trivial⟩ ?_
        conv => whnf
        repeat' (first
          | (refine And.intro (by first | exact trivial | exact And.intro rfl trivial | exact And.intro rfl (And.intro rfl trivial) | exact And.intro rfl (And.intro rfl (And.intro rfl trivial))) (And.intro (fun _ h => h) ?_); (conv => whnf))
          | (refine And.intro (by first | exact trivial | exact And.intro rfl trivial | exact And.intro rfl (And.intro rfl trivial) | exact And.intro rfl (And.intro rfl (And.intro rfl trivial))) (And.intro (fun _ h => List.mem_cons_of_mem _ h) ?_); (conv => whnf))
          | (refine And.intro (by first | exact trivial | exact And.intro rfl trivial | exact And.intro rfl (And.intro rfl trivial) | exact And.intro rfl (And.intro rfl (And.intro rfl trivial))) (And.intro (fun _ h => List.mem_append_right _ h) ?_); (conv => whnf))
          | (refine And.intro (fun h => ?_) (fun h => ?_) <;> (try simp only [decide_eq_true_eq, decide_eq_false_iff_not, Bool.not_eq_true', Bool.not_eq_false', Bool.not_true, Bool.not_false] at h) <;> first | (exfalso; omega) | (cases h; done) | (conv => whnf))
          | (refine And.intro ?_ ?_; (omega); (conv => whnf))
          | (refine Exists.intro _ (And.intro (And.intro rfl rfl) ?_); (conv => whnf))
          | (refine Exists.intro ?w (And.intro (Pl.den ?p) ?k); (case p => repeat constructor); (conv => whnf))
          | (refine Exists.intro _ (And.intro (by with_reducible rfl) ?_); (conv => whnf))
          | (refine Exists.intro _ (And.intro (cast_succ _) ?_); (conv => whnf))
          | (refine Exists.intro _ (And.intro (by assumption) ?_); (conv => whnf))
          | (refine Exists.intro _ (And.intro (Int.toNat_of_nonneg ?_).symm ?_); (omega); (conv => whnf))
          | (refine Exists.intro _ (And.intro rfl ?_); (conv => whnf))
          | (intro h; (try simp only [decide_eq_true_eq, decide_eq_false_iff_not, Bool.not_eq_true', Bool.not_eq_false', Bool.not_true, Bool.not_false] at h); first | (exfalso; omega) | (cases h; done) | (conv => whnf)))
        refine Exists.intro (.slice C 64 cc) (And.intro (by rw [Nat.mul_one, Nat.zero_add]; exact h4) ?_)
        conv => whnf
        repeat' (first
          | (refine And.intro (by first | exact trivial | exact And.intro rfl trivial | exact And.intro rfl (And.intro rfl trivial) | exact And.intro rfl (And.intro rfl (And.intro rfl trivial))) (And.intro (fun _ h => h) ?_); (conv => whnf))
          | (refine And.intro (by first | exact trivial | exact And.intro rfl trivial | exact And.intro rfl (And.intro rfl trivial) | exact And.intro rfl (And.intro rfl (And.intro rfl trivial))) (And.intro (fun _ h => List.mem_cons_of_mem _ h) ?_); (conv => whnf))
          | (refine And.intro (by first | exact trivial | exact And.intro rfl trivial | exact And.intro rfl (And.intro rfl trivial) | exact And.intro rfl (And.intro rfl (And.intro rfl trivial))) (And.intro (fun _ h => List.mem_append_right _ h) ?_); (conv => whnf))
          | (refine And.intro (fun h => ?_) (fun h => ?_) <;> (try simp only [decide_eq_true_eq, decide_eq_false_iff_not, Bool.not_eq_true', Bool.not_eq_false', Bool.not_true, Bool.not_false] at h) <;> first | (exfalso; omega) | (cases h; done) | (conv => whnf))
          | (refine And.intro ?_ ?_; (omega); (conv => whnf))
          | (refine Exists.intro _ (And.intro (And.intro rfl rfl) ?_); (conv => whnf))
          | (refine Exists.intro ?w (And.intro (Pl.den ?p) ?k); (case p => repeat constructor); (conv => whnf))
          | (refine Exists.intro _ (And.intro (by with_reducible rfl) ?_); (conv => whnf))
          | (refine Exists.intro _ (And.intro (cast_succ _) ?_); (conv => whnf))
          | (refine Exists.intro _ (And.intro (by assumption) ?_); (conv => whnf))
          | (refine Exists.intro _ (And.intro (Int.toNat_of_nonneg ?_).symm ?_); (omega); (conv => whnf))
          | (refine Exists.intro _ (And.intro rfl ?_); (conv => whnf))
          | (intro h; (try simp only [decide_eq_true_eq, decide_eq_false_iff_not, Bool.not_eq_true', Bool.not_eq_false', Bool.not_true, Bool.not_false] at h); first | (exfalso; omega) | (cases h; done) | (conv => whnf)))
        refine Exists.intro (.slice B 64 bc) (And.intro (by rw [Nat.mul_one, Nat.zero_add]; exact h1) ?_)
        conv => whnf
        repeat' (first
          | (refine And.intro (by first | exact trivial | exact And.intro rfl trivial | exact And.intro rfl (And.intro rfl trivial) | exact And.intro rfl (And.intro rfl (And.intro rfl trivial))) (And.intro (fun _ h => h) ?_); (conv => whnf))
          | (refine And.intro (by first | exact trivial | exact And.intro rfl trivial | exact And.intro rfl (And.intro rfl trivial) | exact And.intro rfl (And.intro rfl (And.intro rfl trivial))) (And.intro (fun _ h => List.mem_cons_of_mem _ h) ?_); (conv => whnf))
          | (refine And.intro (by first | exact trivial | exact And.intro rfl trivial | exact And.intro rfl (And.intro rfl trivial) | exact And.intro rfl (And.intro rfl (And.intro rfl trivial))) (And.intro (fun _ h => List.mem_append_right _ h) ?_); (conv => whnf))
          | (refine And.intro (fun h => ?_) (fun h => ?_) <;> (try simp only [decide_eq_true_eq, decide_eq_false_iff_not, Bool.not_eq_true', Bool.not_eq_false', Bool.not_true, Bool.not_false] at h) <;> first | (exfalso; omega) | (cases h; done) | (conv => whnf))
          | (refine And.intro ?_ ?_; (omega); (conv => whnf))
          | (refine Exists.intro _ (And.intro (And.intro rfl rfl) ?_); (conv => whnf))
          | (refine Exists.intro ?w (And.intro (Pl.den ?p) ?k); (case p => repeat constructor); (conv => whnf))
          | (refine Exists.intro _ (And.intro (by with_reducible rfl) ?_); (conv => whnf))
          | (refine Exists.intro _ (And.intro (cast_succ _) ?_); (conv => whnf))
          | (refine Exists.intro _ (And.intro (by assumption) ?_); (conv => whnf))
          | (refine Exists.intro _ (And.intro (Int.toNat_of_nonneg ?_).symm ?_); (omega); (conv => whnf))
          | (refine Exists.intro _ (And.intro rfl ?_); (conv => whnf))
          | (intro h; (try simp only [decide_eq_true_eq, decide_eq_false_iff_not, Bool.not_eq_true', Bool.not_eq_false', Bool.not_true, Bool.not_false] at h); first | (exfalso; omega) | (cases h; done) | (conv => whnf)))
        refine Tri.use (tLeft (gs ++ gx) C B cc bc d.l[i] t h5 h2 hs64 ht64 h6 h3 k (by omega) A cap keep torn at_ ⟨hK.1, fun ad e j y hj => by obtain ⟨g, h1, h2⟩ := hK.2 ad e j y hj; exact ⟨g, List.mem_append_right _ h1, h2⟩⟩ hk ht) [] rfl (fun _ _ _ => rfl) trivial hsub fun u hu => ?_
        obtain ⟨U, uc, ug⟩ := u
        obtain ⟨hu1, hu2⟩ := hu
        simp only at hu1 hu2
        conv => whnf
        refine appFK_intro ?_
        conv => whnf
        repeat' (first
          | (refine And.intro (by first | exact trivial | exact And.intro rfl trivial | exact And.intro rfl (And.intro rfl trivial) | exact And.intro rfl (And.intro rfl (And.intro rfl trivial))) (And.intro (fun _ h => h) ?_); (conv => whnf))
          | (refine And.intro (by first | exact trivial | exact And.intro rfl trivial | exact And.intro rfl (And.intro rfl trivial) | exact And.intro rfl (And.intro rfl (And.intro rfl trivial))) (And.intro (fun _ h => List.mem_cons_of_mem _ h) ?_); (conv => whnf))
          | (refine And.intro (by first | exact trivial | exact And.intro rfl trivial | exact And.intro rfl (And.intro rfl trivial) | exact And.intro rfl (And.intro rfl (And.intro rfl trivial))) (And.intro (fun _ h => List.mem_append_right _ h) ?_); (conv => whnf))
          | (refine And.intro (fun h => ?_) (fun h => ?_) <;> (try simp only [decide_eq_true_eq, decide_eq_false_iff_not, Bool.not_eq_true', Bool.not_eq_false', Bool.not_true, Bool.not_false] at h) <;> first | (exfalso; omega) | (cases h; done) | (conv => whnf))
          | (refine And.intro ?_ ?_; (omega); (conv => whnf))
          | (refine Exists.intro _ (And.intro (And.intro rfl rfl) ?_); (conv => whnf))
          | (refine Exists.intro ?w (And.intro (Pl.den ?p) ?k); (case p => repeat constructor); (conv => whnf))
          | (refine Exists.intro _ (And.intro (by with_reducible rfl) ?_); (conv => whnf))
          | (refine Exists.intro _ (And.intro (cast_succ _) ?_); (conv => whnf))
          | (refine Exists.intro _ (And.intro (by assumption) ?_); (conv => whnf))
          | (refine Exists.intro _ (And.intro (Int.toNat_of_nonneg ?_).symm ?_); (omega); (conv => whnf))
          | (refine Exists.intro _ (And.intro rfl ?_); (conv => whnf))
          | (intro h; (try simp only [decide_eq_true_eq, decide_eq_false_iff_not, Bool.not_eq_true', Bool.not_eq_false', Bool.not_true, Bool.not_false] at h); first | (exfalso; omega) | (cases h; done) | (conv => whnf)))
        refine And.intro (show 0 + i * 1 + 1 ≤ ls'.length by omega) ?_
        conv => whnf
        repeat' (first
          | (refine And.intro (by first | exact trivial | exact And.intro rfl trivial | exact And.intro rfl (And.intro rfl trivial) | exact And.intro rfl (And.intro rfl (And.intro rfl trivial))) (And.intro (fun _ h => h) ?_); (conv => whnf))
          | (refine And.intro (by first | exact trivial | exact And.intro rfl trivial | exact And.intro rfl (And.intro rfl trivial) | exact And.intro rfl (And.intro rfl (And.intro rfl trivial))) (And.intro (fun _ h => List.mem_cons_of_mem _ h) ?_); (conv => whnf))
          | (refine And.intro (by first | exact trivial | exact And.intro rfl trivial | exact And.intro rfl (And.intro rfl trivial) | exact And.intro rfl (And.intro rfl (And.intro rfl trivial))) (And.intro (fun _ h => List.mem_append_right _ h) ?_); (conv => whnf))
          | (refine And.intro (fun h => ?_) (fun h => ?_) <;> (try simp only [decide_eq_true_eq, decide_eq_false_iff_not, Bool.not_eq_true', Bool.not_eq_false', Bool.not_true, Bool.not_false] at h) <;> first | (exfalso; omega) | (cases h; done) | (conv => whnf))
          | (refine And.intro ?_ ?_; (omega); (conv => whnf))
          | (refine Exists.intro _ (And.intro (And.intro rfl rfl) ?_); (conv => whnf))
          | (refine Exists.intro ?w (And.intro (Pl.den ?p) ?k); (case p => repeat constructor); (conv => whnf))
          | (refine Exists.intro _ (And.intro (by with_reducible rfl) ?_); (conv => whnf))
          | (refine Exists.intro _ (And.intro (cast_succ _) ?_); (conv => whnf))
          | (refine Exists.intro _ (And.intro (by assumption) ?_); (conv => whnf))
          | (refine Exists.intro _ (And.intro (Int.toNat_of_nonneg ?_).symm ?_); (omega); (conv => whnf))
          | (refine Exists.intro _ (And.intro rfl ?_); (conv => whnf))
          | (intro h; (try simp only [decide_eq_true_eq, decide_eq_false_iff_not, Bool.not_eq_true', Bool.not_eq_false', Bool.not_true, Bool.not_false] at h); first | (exfalso; omega) | (cases h; done) | (conv => whnf)))
        refine And.intro (show 0 + i * 1 + 1 ≤ ns'.length by omega) ?_
        conv => whnf
        repeat' (first
          | (refine And.intro (by first | exact trivial | exact And.intro rfl trivial | exact And.intro rfl (And.intro rfl trivial) | exact And.intro rfl (And.intro rfl (And.intro rfl trivial))) (And.intro (fun _ h => h) ?_); (conv => whnf))
          | (refine And.intro (by first | exact trivial | exact And.intro rfl trivial | exact And.intro rfl (And.intro rfl trivial) | exact And.intro rfl (And.intro rfl (And.intro rfl trivial))) (And.intro (fun _ h => List.mem_cons_of_mem _ h) ?_); (conv => whnf))
          | (refine And.intro (by first | exact trivial | exact And.intro rfl trivial | exact And.intro rfl (And.intro rfl trivial) | exact And.intro rfl (And.intro rfl (And.intro rfl trivial))) (And.intro (fun _ h => List.mem_append_right _ h) ?_); (conv => whnf))
          | (refine And.intro (fun h => ?_) (fun h => ?_) <;> (try simp only [decide_eq_true_eq, decide_eq_false_iff_not, Bool.not_eq_true', Bool.not_eq_false', Bool.not_true, Bool.not_false] at h) <;> first | (exfalso; omega) | (cases h; done) | (conv => whnf))
          | (refine And.intro ?_ ?_; (omega); (conv => whnf))
          | (refine Exists.intro _ (And.intro (And.intro rfl rfl) ?_); (conv => whnf))
          | (refine Exists.intro ?w (And.intro (Pl.den ?p) ?k); (case p => repeat constructor); (conv => whnf))
          | (refine Exists.intro _ (And.intro (by with_reducible rfl) ?_); (conv => whnf))
          | (refine Exists.intro _ (And.intro (cast_succ _) ?_); (conv => whnf))
          | (refine Exists.intro _ (And.intro (by assumption) ?_); (conv => whnf))
          | (refine Exists.intro _ (And.intro (Int.toNat_of_nonneg ?_).symm ?_); (omega); (conv => whnf))
          | (refine Exists.intro _ (And.intro rfl ?_); (conv => whnf))
          | (intro h; (try simp only [decide_eq_true_eq, decide_eq_false_iff_not, Bool.not_eq_true', Bool.not_eq_false', Bool.not_true, Bool.not_false] at h); first | (exfalso; omega) | (cases h; done) | (conv => whnf)))
        have hU : BytesAt ((ug ++ gs) ++ gx) U (left k keep torn at_ d.l[i] t) := by rw [List.append_assoc]; exact hu1
        have hset := (hR'.mono (fx' := (ug ++ gs) ++ gx) (fun f hf => by rw [List.append_assoc]; exact List.mem_append_right _ hf)).setl (i := i) (show i < l.length by omega) (cap := uc) ⟨hU, hu2⟩
        refine ⟨⟨i + 1, k + 1, l.set i (left k keep torn at_ d.l[i] t), ls'.set i (.slice U 64 uc), ns'.set i (.slice none 0 0), ug ++ gs⟩, [0, 1, 2, 3], ⟨⟨hstep, hset⟩, by simp only; omega⟩, rfl, ⟨SEq.ren rfl rfl, SEq.ren rfl rfl, SEq.eq rfl, SEq.eq rfl, trivial⟩, ⟨OSub.ren rfl ?_, OSub.ren rfl ?_, OSub.ren rfl ?_, OSub.ren rfl rfl, trivial⟩, fun f hf => by have hf : f ∈ (ug ++ gs) ++ fx := hf; rw [List.append_assoc] at hf; exact hf⟩
        · simp only [renO, renL, ren, List.length_set]; rfl
        · simp only [renO]; rw [Nat.mul_one, Nat.zero_add, splice_set (by omega)]
        · simp only [renO]; rw [Nat.mul_one, Nat.zero_add, splice_set (by omega)]
    · have hdone := hx.done (show i = d.l.length by omega)
      simp only at hdone
      refine ⟨gs, trivial, ?_⟩
      apply Ret.ref3
      · (repeat first | exact List.mem_cons_self .. | apply List.mem_cons_of_mem)
      · (repeat first | exact List.mem_cons_self .. | apply List.mem_cons_of_mem)
      · (repeat first | exact List.mem_cons_self .. | apply List.mem_cons_of_mem)
      · rfl
      · show RefOk (gs ++ gx) ls' ns' ⟨crashGo d.c keep torn at_ d.l 0 0, fun _ => none, -1, false⟩
        have e : (fun j => if j < (i : Int) then none else d.c j) = fun _ => none := by
          have := congrArg DS.c (syn_end hd)
          obtain rfl : i = d.l.length := by omega
          exact this
        rw [e, hdone] at hR'
        exact ⟨hR'.ll, hR'.nl, hR'.las, hR'.non, hR'.new⟩
      · exact fun _ _ _ => rfl
      · exact fun ρ => by simp [den, DS.crash, crashGo_length]
      · exact fun g hg => List.mem_append_left _ hg
end Go.Proofs.Ytekgjjanikicnaa.Sx
