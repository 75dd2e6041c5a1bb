/- The disk as a region of its own: told in parts, and folded again; what its calls do. -/
import Derived.Test.YtekgjjanikicnaaDk2
import Derived.Test.YtekgjjanikicnaaTT
import Derived.Test.YtekgjjanikicnaaSxO
import Derived.Test.YtekgjjanikicnaaTx4
namespace Go.Proofs.Ytekgjjanikicnaa.Sx
open Go
set_option maxRecDepth 100000
set_option linter.unusedSimpArgs false
set_option linter.unusedVariables false

def dskC (g mb : Nat) (d : DS) : List Value := [.slice (some ⟨g, 0, none⟩) d.l.length d.l.length, .map (some mb), .int .i64 d.fuse, .bool d.down]
/-- A disk: its struct, its sectors, its map. -/
def dskA (d : DS) : AR where
  A w b F := ∃ g mb es clk, b ≠ g ∧ b ≠ mb ∧ g ≠ mb ∧ (∀ k, F k ↔ k = b ∨ k = g ∨ k = mb) ∧ CellsAt w b (dskC g mb d) 101 ∧ CellsAt w g (flat d.l) 102 ∧ w.heap[mb]? = some (.map es clk) ∧ Holds es clk d.c
  loc := by
    rintro w w' b F ⟨g, mb, es, clk, h1, h2, h3, h4, h5, h6, h7, h8⟩ e
    exact ⟨g, mb, es, clk, h1, h2, h3, h4, h5.loc (e b ((h4 b).2 (.inl rfl))), h6.loc (e g ((h4 g).2 (.inr (.inl rfl)))), by rw [e mb ((h4 mb).2 (.inr (.inr rfl)))]; exact h7, h8⟩
structure DskV (d : DS) where
  es : Array MapEntry
  clk : Nat
  h : Holds es clk d.c
def dskS (d : DS) (m : Nat) : List SV := [.s m 0 d.l.length d.l.length, .m (m + 1), .v (.int .i64 d.fuse), .v (.bool d.down)]
def dskL (d : DS) (v : DskV d) (r m : Nat) : List (Nat × SObj) := [(r, .cells (dskS d m) 101), (m, .row (flat d.l) 102), (m + 1, .map v.es v.clk)]
theorem told_dsk (d : DS) : Told (dskA d) (dskL d) 2 := by
  refine ⟨fun ρ r m w F hr hA hF => ?_⟩
  obtain ⟨g, mb, es, clk, h1, h2, h3, h4, h5, h6, h7, h8⟩ := hA
  have hmem : ∀ j o, (j, o) ∈ dskL d ⟨es, clk, h8⟩ r m → (j = r ∧ o = .cells (dskS d m) 101) ∨ (j = m ∧ o = .row (flat d.l) 102) ∨ (j = m + 1 ∧ o = .map es clk) := fun j o hm => by
    simpa [dskL] using hm
  refine ⟨⟨es, clk, h8⟩, updR (updR ρ m g) (m + 1) mb, fun j k => if j = r then k = ρ r else if j = m then k = g else k = mb, ?_, fun ρ3 ha j o hm => ?_, fun j o hm => ?_, fun j o j' o' hm hm' hne k hk hk' => ?_, fun k ⟨j, o, hm, hk⟩ => ?_⟩
  · intro j hj
    rw [updR_ne _ _ (by omega), updR_ne _ _ (by omega)]
  · have e1 : ρ3 r = ρ r := by rw [ha r (by omega), updR_ne _ _ (by omega), updR_ne _ _ (by omega)]
    have e2 : ρ3 m = g := by rw [ha m (by omega), updR_ne _ _ (by omega), updR_same]
    have e3 : ρ3 (m + 1) = mb := by rw [ha (m + 1) (by omega), updR_same]
    rcases hmem j o hm with ⟨rfl, rfl⟩ | ⟨rfl, rfl⟩ | ⟨rfl, rfl⟩
    · refine ⟨fun k => by simp [e1], ?_⟩
      simp only [dskS, denL_cons, denL_nil, den, e1, e2, e3]
      exact h5
    · rw [e2]
      exact ⟨fun k => by simp [show ¬ j = r by omega], h6⟩
    · rw [e3]
      exact ⟨fun k => by simp [show ¬ m + 1 = r by omega], h7⟩
  · rcases hmem j o hm with ⟨rfl, rfl⟩ | ⟨rfl, rfl⟩ | ⟨rfl, rfl⟩
    · exact .inl rfl
    · exact .inr ⟨Nat.le_refl _, by omega⟩
    · exact .inr ⟨by omega, by omega⟩
  · rcases hmem j o hm with ⟨rfl, rfl⟩ | ⟨rfl, rfl⟩ | ⟨rfl, rfl⟩ <;> rcases hmem j' o' hm' with ⟨rfl, rfl⟩ | ⟨rfl, rfl⟩ | ⟨rfl, rfl⟩
    · exact absurd rfl hne
    · simp only [if_true, show ¬ j' = j by omega, if_false] at hk hk'
      exact h1 (hk.symm.trans hk')
    · simp only [if_true, show ¬ m + 1 = j by omega, show ¬ m + 1 = m by omega, if_false] at hk hk'
      exact h2 (hk.symm.trans hk')
    · simp only [if_true, show ¬ j = j' by omega, if_false] at hk hk'
      exact h1 (hk'.symm.trans hk)
    · exact absurd rfl hne
    · simp only [if_true, show ¬ j = r by omega, show ¬ j + 1 = r by omega, show ¬ j + 1 = j by omega, if_false] at hk hk'
      exact h3 (hk.symm.trans hk')
    · simp only [if_true, show ¬ m + 1 = j' by omega, show ¬ m + 1 = m by omega, if_false] at hk hk'
      exact h2 (hk'.symm.trans hk)
    · simp only [if_true, show ¬ j' = r by omega, show ¬ j' + 1 = r by omega, show ¬ j' + 1 = j' by omega, if_false] at hk hk'
      exact h3 (hk'.symm.trans hk)
    · exact absurd rfl hne
  · rcases hmem j o hm with ⟨rfl, rfl⟩ | ⟨rfl, rfl⟩ | ⟨rfl, rfl⟩
    · simp only [if_true] at hk
      exact (h4 k).2 (.inl hk)
    · simp only [if_true, show ¬ j = r by omega, if_false] at hk
      exact (h4 k).2 (.inr (.inl hk))
    · simp only [show ¬ m + 1 = r by omega, show ¬ m + 1 = m by omega, if_false] at hk
      exact (h4 k).2 (.inr (.inr hk))
theorem dsk_close {d : DS} {r m m' : Nat} {cs : List SV} {xs : List Value} {es : Array MapEntry} {clk : Nat} (h1 : r ≠ m) (h2 : r ≠ m') (h3 : m ≠ m') (hc : ∀ ρ, denL ρ cs = dskC (ρ m) (ρ m') d) (hx : xs = flat d.l) (hh : Holds es clk d.c) {h : List (Nat × SObj)}
    (hL : ∀ e, e ∈ [(r, SObj.cells cs 101), (m, .row xs 102), (m', .map es clk)] → e ∈ h) : Fold h ((r, .abs (dskA d)) :: restH [r, m, m'] h) := by
  subst hx
  refine Fold.abs (L := [(r, SObj.cells cs 101), (m, .row (flat d.l) 102), (m', .map es clk)]) hL (by simp) fun ρ F n w hp => ?_
  have m1 : (r, SObj.cells cs 101) ∈ [(r, SObj.cells cs 101), (m, .row (flat d.l) 102), (m', .map es clk)] := by simp
  have m2 : (m, SObj.row (flat d.l) 102) ∈ [(r, SObj.cells cs 101), (m, .row (flat d.l) 102), (m', .map es clk)] := by simp
  have m3 : (m', SObj.map es clk) ∈ [(r, SObj.cells cs 101), (m, .row (flat d.l) 102), (m', .map es clk)] := by simp
  have o1 := hp.obj ρ (Ag.refl _ _) r _ m1
  have o2 := hp.obj ρ (Ag.refl _ _) m _ m2
  have o3 := hp.obj ρ (Ag.refl _ _) m' _ m3
  have ne : ∀ {a b : Nat} {oa ob : SObj}, (a, oa) ∈ [(r, SObj.cells cs 101), (m, .row (flat d.l) 102), (m', .map es clk)] → (b, ob) ∈ [(r, SObj.cells cs 101), (m, .row (flat d.l) 102), (m', .map es clk)] → a ≠ b → F a (ρ a) → F b (ρ b) → ρ a ≠ ρ b :=
    fun ha hb hab fa fb e => hp.shape.dis _ _ _ _ ha hb hab _ fa (by rw [e]; exact fb)
  refine ⟨ρ m, ρ m', es, clk, ne m1 m2 h1 ((o1.1 _).2 rfl) ((o2.1 _).2 rfl), ne m1 m3 h2 ((o1.1 _).2 rfl) ((o3.1 _).2 rfl), ne m2 m3 h3 ((o2.1 _).2 rfl) ((o3.1 _).2 rfl), fun k => ⟨?_, ?_⟩, ?_, o2.2, o3.2, hh⟩
  · rintro ⟨j, o, hm, hk⟩
    simp only [List.mem_cons, List.not_mem_nil, or_false, Prod.mk.injEq] at hm
    rcases hm with ⟨rfl, rfl⟩ | ⟨rfl, rfl⟩ | ⟨rfl, rfl⟩
    · exact .inl ((o1.1 k).1 hk)
    · exact .inr (.inl ((o2.1 k).1 hk))
    · exact .inr (.inr ((o3.1 k).1 hk))
  · rintro (rfl | rfl | rfl)
    · exact ⟨r, _, m1, (o1.1 _).2 rfl⟩
    · exact ⟨m, _, m2, (o2.1 _).2 rfl⟩
    · exact ⟨m', _, m3, (o3.1 _).2 rfl⟩
  · have := o1.2
    rwa [hc ρ] at this
theorem flat_new (n : Nat) : flat (List.replicate n zsec) = (List.replicate n (zsec.map bv)).flatten := by
  unfold flat
  induction n with
  | zero => rfl
  | succ n ih => rw [List.replicate_succ, List.replicate_succ, List.flatMap_cons, List.flatten_cons, ih]
/-- A disk, as it is handed over. -/
abbrev dsk (r : Nat) (d : DS) : Nat × SObj := (r, .abs (dskA d))
/-- The three regions of a disk, wherever they stand. -/
theorem mem3 {a b c e : Nat × SObj} {h : List (Nat × SObj)} (he : e ∈ [a, b, c]) (ha : a ∈ h) (hb : b ∈ h) (hc : c ∈ h) : e ∈ h := by
  simp only [List.mem_cons, List.not_mem_nil, or_false] at he
  rcases he with rfl | rfl | rfl
  · exact ha
  · exact hb
  · exact hc
/-- A disk in its parts, folded. -/
theorem dsk_fold {d : DS} {cs : List SV} {xs : List Value} {es : Array MapEntry} {clk : Nat} {h : List (Nat × SObj)} (h1 : (0, SObj.cells cs 101) ∈ h) (h2 : (1, SObj.row xs 102) ∈ h) (h3 : (2, SObj.map es clk) ∈ h)
    (hc : ∀ ρ, denL ρ cs = dskC (ρ 1) (ρ 2) d) (hx : xs = flat d.l) (hh : Holds es clk d.c) : Fold h (dsk 0 d :: restH [0, 1, 2] h) :=
  dsk_close (r := 0) (m := 1) (m' := 2) (by decide) (by decide) (by decide) hc hx hh (fun e he => mem3 he h1 h2 h3)
/-- What a call leaves of a disk. -/
theorem Ret.dsk1 {d : DS} {cs : List SV} {xs : List Value} {es : Array MapEntry} {clk : Nat} {h : List (Nat × SObj)} {v y : SV} {n : Nat} {f : List Fact} (h1 : (0, SObj.cells cs 101) ∈ h) (h2 : (1, SObj.row xs 102) ∈ h) (h3 : (2, SObj.map es clk) ∈ h)
    (hn : namesOk 1 n 1 [0] [0] = true) (hv : SEq 1 [0] v y) (hc : ∀ ρ, denL ρ cs = dskC (ρ 1) (ρ 2) d) (hx : xs = flat d.l) (hh : Holds es clk d.c) : Ret 1 v [dsk 0 d] 1 [] y h n f :=
  Ret.mk [0] [dsk 0 d] ((dsk_fold h1 h2 h3 hc hx hh).trans (Fold.drop (by simp))) hn hv ⟨OSub.ren rfl rfl, trivial⟩ (fun _ h => nomatch h)
theorem Ret.dskAt {m0 : Nat} (r m m' : Nat) {d : DS} {cs : List SV} {xs : List Value} {es : Array MapEntry} {clk : Nat} {h : List (Nat × SObj)} {v y : SV} {n : Nat} {f : List Fact} (h1 : (r, SObj.cells cs 101) ∈ h) (h2 : (m, SObj.row xs 102) ∈ h) (h3 : (m', SObj.map es clk) ∈ h)
    (hne : r ≠ m ∧ r ≠ m' ∧ m ≠ m') (hn : namesOk m0 n 1 [r] [0] = true) (hs : heapSub 1 [r] [dsk r d] [dsk 0 d]) (hv : SEq 1 [r] v y) (hc : ∀ ρ, denL ρ cs = dskC (ρ m) (ρ m') d) (hx : xs = flat d.l) (hh : Holds es clk d.c) : Ret m0 v [dsk 0 d] 1 [] y h n f :=
  Ret.mk [r] [dsk r d] ((dsk_close hne.1 hne.2.1 hne.2.2 hc hx hh (fun e he => mem3 he h1 h2 h3)).trans (Fold.drop (by simp))) hn hv hs (fun _ h => nomatch h)
theorem tNew (fx : List Fact) (n : Nat) (hn : n ≤ 4096) : Tri Try.prog 26 [.v (.int .i64 n)] [] 0 fx (RetE (α := Unit) 0 (fun _ => True) (fun _ => .tup [.p 0 0, .k .i64 0]) (fun _ => [dsk 0 (DS.new n)]) 1 (fun _ => [])) := by
  refine Tri.one ?_
  refine Tri.of_code tok Try.func26 rfl rfl rfl (by decide) rfl (Nat.le_of_ble_eq_true rfl) ?_
  conv => whnf
  repeat' (first
    | (refine And.intro (by first | exact trivial | exact And.intro rfl trivial | exact And.intro rfl (And.intro rfl trivial) | exact And.intro rfl (And.intro rfl (And.intro rfl trivial))) (And.intro (fun _ h => h) ?_); (conv => whnf))
    | (refine And.intro (by first | exact trivial | exact And.intro rfl trivial | exact And.intro rfl (And.intro rfl trivial) | exact And.intro rfl (And.intro rfl (And.intro rfl trivial))) (And.intro (fun _ h => List.mem_cons_of_mem _ h) ?_); (conv => whnf))
    | (refine And.intro (by first | exact trivial | exact And.intro rfl trivial | exact And.intro rfl (And.intro rfl trivial) | exact And.intro rfl (And.intro rfl (And.intro rfl trivial))) (And.intro (fun _ h => List.mem_append_right _ h) ?_); (conv => whnf))
    | (refine And.intro (fun h => ?_) (fun h => ?_) <;> (try simp only [decide_eq_true_eq, decide_eq_false_iff_not, Bool.not_eq_true', Bool.not_eq_false', Bool.not_true, Bool.not_false] at h) <;> first | (exfalso; omega) | (cases h; done) | (conv => whnf))
    | (refine And.intro ?_ ?_; (omega); (conv => whnf))
    | (refine Exists.intro _ (And.intro (And.intro rfl rfl) ?_); (conv => whnf))
    | (refine Exists.intro ?w (And.intro (Pl.den ?p) ?k); (case p => repeat constructor); (conv => whnf))
    | (refine Exists.intro _ (And.intro (by with_reducible rfl) ?_); (conv => whnf))
    | (refine Exists.intro _ (And.intro (cast_succ _) ?_); (conv => whnf))
    | (refine Exists.intro _ (And.intro (by assumption) ?_); (conv => whnf))
    | (refine Exists.intro _ (And.intro (Int.toNat_of_nonneg ?_).symm ?_); (omega); (conv => whnf))
    | (refine Exists.intro _ (And.intro rfl ?_); (conv => whnf))
    | (intro h; (try simp only [decide_eq_true_eq, decide_eq_false_iff_not, Bool.not_eq_true', Bool.not_eq_false', Bool.not_true, Bool.not_false] at h); first | (exfalso; omega) | (cases h; done) | (conv => whnf)))
  refine Ret.dskAt 2 0 1 (cs := ?cs) (xs := ?xs) (es := ?es) (clk := ?clk) ?m1 ?m2 ?m3 (by decide) rfl ⟨OSub.ren rfl rfl, trivial⟩ (SEq.ren rfl rfl) ?hc ?hx ?hh
  case m1 => (repeat first | exact List.mem_cons_self .. | apply List.mem_cons_of_mem)
  case m2 => (repeat first | exact List.mem_cons_self .. | apply List.mem_cons_of_mem)
  case m3 => (repeat first | exact List.mem_cons_self .. | apply List.mem_cons_of_mem)
  case hh => exact Holds.empty 0
  case hc => exact fun ρ => by simp [dskC, DS.new, den]
  case hx =>
    rw [show (DS.new n).l = List.replicate n zsec from rfl, flat_new]
    rfl
theorem tNewBad (fx : List Fact) (n : Int) (hn : n < 0 ∨ 4096 < n) : Tri Try.prog 26 [.v (.int .i64 n)] [] 0 fx (RetE (α := Unit) 0 (fun _ => True) (fun _ => .tup [.v (.pointer none), .k .i64 1]) (fun _ => []) 0 (fun _ => [])) := by
  refine Tri.one ?_
  refine Tri.of_code tok Try.func26 rfl rfl rfl (by decide) rfl (Nat.le_of_ble_eq_true rfl) ?_
  conv => whnf
  repeat' (first
    | (refine And.intro (by first | exact trivial | exact And.intro rfl trivial | exact And.intro rfl (And.intro rfl trivial) | exact And.intro rfl (And.intro rfl (And.intro rfl trivial))) (And.intro (fun _ h => h) ?_); (conv => whnf))
    | (refine And.intro (by first | exact trivial | exact And.intro rfl trivial | exact And.intro rfl (And.intro rfl trivial) | exact And.intro rfl (And.intro rfl (And.intro rfl trivial))) (And.intro (fun _ h => List.mem_cons_of_mem _ h) ?_); (conv => whnf))
    | (refine And.intro (by first | exact trivial | exact And.intro rfl trivial | exact And.intro rfl (And.intro rfl trivial) | exact And.intro rfl (And.intro rfl (And.intro rfl trivial))) (And.intro (fun _ h => List.mem_append_right _ h) ?_); (conv => whnf))
    | (refine And.intro (fun h => ?_) (fun h => ?_) <;> (try simp only [decide_eq_true_eq, decide_eq_false_iff_not, Bool.not_eq_true', Bool.not_eq_false', Bool.not_true, Bool.not_false] at h) <;> first | (exfalso; omega) | (cases h; done) | (conv => whnf))
    | (refine And.intro ?_ ?_; (omega); (conv => whnf))
    | (refine Exists.intro _ (And.intro (And.intro rfl rfl) ?_); (conv => whnf))
    | (refine Exists.intro ?w (And.intro (Pl.den ?p) ?k); (case p => repeat constructor); (conv => whnf))
    | (refine Exists.intro _ (And.intro (by with_reducible rfl) ?_); (conv => whnf))
    | (refine Exists.intro _ (And.intro (cast_succ _) ?_); (conv => whnf))
    | (refine Exists.intro _ (And.intro (by assumption) ?_); (conv => whnf))
    | (refine Exists.intro _ (And.intro (Int.toNat_of_nonneg ?_).symm ?_); (omega); (conv => whnf))
    | (refine Exists.intro _ (And.intro rfl ?_); (conv => whnf))
    | (intro h; (try simp only [decide_eq_true_eq, decide_eq_false_iff_not, Bool.not_eq_true', Bool.not_eq_false', Bool.not_true, Bool.not_false] at h); first | (exfalso; omega) | (cases h; done) | (conv => whnf)))
  · exact Ret.noneS rfl (fun _ _ => rfl) (fun _ h => nomatch h)
  · exact Ret.noneS rfl (fun _ _ => rfl) (fun _ h => nomatch h)
theorem tDown (fx : List Fact) (d : DS) : Tri Try.prog 36 [.p 0 0] [dsk 0 d] 1 fx (RetE (α := Unit) 1 (fun _ => True) (fun _ => .v (.bool d.down)) (fun _ => [dsk 0 d]) 1 (fun _ => [])) := by
  refine Tri.toldE (told_dsk d) (fun xs w => by simp [callFunc, Try.func36, Try.f36]) 0 (List.mem_singleton.2 rfl) fun v => Tri.one ?_
  show Tri _ 36 _ [(0, .cells [.s 1 0 d.l.length d.l.length, .m 2, .v (.int .i64 d.fuse), .v (.bool d.down)] 101), (1, .row (flat d.l) 102), (2, .map v.es v.clk)] 3 fx _
  refine Tri.of_code tok Try.func36 rfl rfl rfl (by decide) rfl (Nat.le_of_ble_eq_true rfl) ?_
  conv => whnf
  repeat' (first
    | (refine And.intro (by first | exact trivial | exact And.intro rfl trivial | exact And.intro rfl (And.intro rfl trivial) | exact And.intro rfl (And.intro rfl (And.intro rfl trivial))) (And.intro (fun _ h => h) ?_); (conv => whnf))
    | (refine And.intro (by first | exact trivial | exact And.intro rfl trivial | exact And.intro rfl (And.intro rfl trivial) | exact And.intro rfl (And.intro rfl (And.intro rfl trivial))) (And.intro (fun _ h => List.mem_cons_of_mem _ h) ?_); (conv => whnf))
    | (refine And.intro (by first | exact trivial | exact And.intro rfl trivial | exact And.intro rfl (And.intro rfl trivial) | exact And.intro rfl (And.intro rfl (And.intro rfl trivial))) (And.intro (fun _ h => List.mem_append_right _ h) ?_); (conv => whnf))
    | (refine And.intro (fun h => ?_) (fun h => ?_) <;> (try simp only [decide_eq_true_eq, decide_eq_false_iff_not, Bool.not_eq_true', Bool.not_eq_false', Bool.not_true, Bool.not_false] at h) <;> first | (exfalso; omega) | (cases h; done) | (conv => whnf))
    | (refine And.intro ?_ ?_; (omega); (conv => whnf))
    | (refine Exists.intro _ (And.intro (And.intro rfl rfl) ?_); (conv => whnf))
    | (refine Exists.intro ?w (And.intro (Pl.den ?p) ?k); (case p => repeat constructor); (conv => whnf))
    | (refine Exists.intro _ (And.intro (by with_reducible rfl) ?_); (conv => whnf))
    | (refine Exists.intro _ (And.intro (cast_succ _) ?_); (conv => whnf))
    | (refine Exists.intro _ (And.intro (by assumption) ?_); (conv => whnf))
    | (refine Exists.intro _ (And.intro (Int.toNat_of_nonneg ?_).symm ?_); (omega); (conv => whnf))
    | (refine Exists.intro _ (And.intro rfl ?_); (conv => whnf))
    | (intro h; (try simp only [decide_eq_true_eq, decide_eq_false_iff_not, Bool.not_eq_true', Bool.not_eq_false', Bool.not_true, Bool.not_false] at h); first | (exfalso; omega) | (cases h; done) | (conv => whnf)))
  apply Ret.dsk1
  · (repeat first | exact List.mem_cons_self .. | apply List.mem_cons_of_mem)
  · (repeat first | exact List.mem_cons_self .. | apply List.mem_cons_of_mem)
  · (repeat first | exact List.mem_cons_self .. | apply List.mem_cons_of_mem)
  · rfl
  · exact fun _ _ _ => rfl
  · exact fun ρ => rfl
  · rfl
  · exact v.h
theorem tSize (fx : List Fact) (d : DS) : Tri Try.prog 38 [.p 0 0] [dsk 0 d] 1 fx (RetE (α := Unit) 1 (fun _ => True) (fun _ => .v (.int .i64 d.l.length)) (fun _ => [dsk 0 d]) 1 (fun _ => [])) := by
  refine Tri.toldE (told_dsk d) (fun xs w => by simp [callFunc, Try.func38, Try.f38]) 0 (List.mem_singleton.2 rfl) fun v => Tri.one ?_
  show Tri _ 38 _ [(0, .cells [.s 1 0 d.l.length d.l.length, .m 2, .v (.int .i64 d.fuse), .v (.bool d.down)] 101), (1, .row (flat d.l) 102), (2, .map v.es v.clk)] 3 fx _
  refine Tri.of_code tok Try.func38 rfl rfl rfl (by decide) rfl (Nat.le_of_ble_eq_true rfl) ?_
  conv => whnf
  repeat' (first
    | (refine And.intro (by first | exact trivial | exact And.intro rfl trivial | exact And.intro rfl (And.intro rfl trivial) | exact And.intro rfl (And.intro rfl (And.intro rfl trivial))) (And.intro (fun _ h => h) ?_); (conv => whnf))
    | (refine And.intro (by first | exact trivial | exact And.intro rfl trivial | exact And.intro rfl (And.intro rfl trivial) | exact And.intro rfl (And.intro rfl (And.intro rfl trivial))) (And.intro (fun _ h => List.mem_cons_of_mem _ h) ?_); (conv => whnf))
    | (refine And.intro (by first | exact trivial | exact And.intro rfl trivial | exact And.intro rfl (And.intro rfl trivial) | exact And.intro rfl (And.intro rfl (And.intro rfl trivial))) (And.intro (fun _ h => List.mem_append_right _ h) ?_); (conv => whnf))
    | (refine And.intro (fun h => ?_) (fun h => ?_) <;> (try simp only [decide_eq_true_eq, decide_eq_false_iff_not, Bool.not_eq_true', Bool.not_eq_false', Bool.not_true, Bool.not_false] at h) <;> first | (exfalso; omega) | (cases h; done) | (conv => whnf))
    | (refine And.intro ?_ ?_; (omega); (conv => whnf))
    | (refine Exists.intro _ (And.intro (And.intro rfl rfl) ?_); (conv => whnf))
    | (refine Exists.intro ?w (And.intro (Pl.den ?p) ?k); (case p => repeat constructor); (conv => whnf))
    | (refine Exists.intro _ (And.intro (by with_reducible rfl) ?_); (conv => whnf))
    | (refine Exists.intro _ (And.intro (cast_succ _) ?_); (conv => whnf))
    | (refine Exists.intro _ (And.intro (by assumption) ?_); (conv => whnf))
    | (refine Exists.intro _ (And.intro (Int.toNat_of_nonneg ?_).symm ?_); (omega); (conv => whnf))
    | (refine Exists.intro _ (And.intro rfl ?_); (conv => whnf))
    | (intro h; (try simp only [decide_eq_true_eq, decide_eq_false_iff_not, Bool.not_eq_true', Bool.not_eq_false', Bool.not_true, Bool.not_false] at h); first | (exfalso; omega) | (cases h; done) | (conv => whnf)))
  apply Ret.dsk1
  · (repeat first | exact List.mem_cons_self .. | apply List.mem_cons_of_mem)
  · (repeat first | exact List.mem_cons_self .. | apply List.mem_cons_of_mem)
  · (repeat first | exact List.mem_cons_self .. | apply List.mem_cons_of_mem)
  · rfl
  · exact fun _ _ _ => rfl
  · exact fun ρ => rfl
  · rfl
  · exact v.h
theorem tSetFuse (fx : List Fact) (d : DS) (n : Int) : Tri Try.prog 40 [.p 0 0, .v (.int .i64 n)] [dsk 0 d] 1 fx (RetE (α := Unit) 1 (fun _ => True) (fun _ => .tup []) (fun _ => [dsk 0 (d.setFuse n)]) 1 (fun _ => [])) := by
  refine Tri.toldE (told_dsk d) (fun xs w => by simp [callFunc, Try.func40, Try.f40]) 0 (List.mem_singleton.2 rfl) fun v => Tri.one ?_
  show Tri _ 40 _ [(0, .cells [.s 1 0 d.l.length d.l.length, .m 2, .v (.int .i64 d.fuse), .v (.bool d.down)] 101), (1, .row (flat d.l) 102), (2, .map v.es v.clk)] 3 fx _
  refine Tri.of_code tok Try.func40 rfl rfl rfl (by decide) rfl (Nat.le_of_ble_eq_true rfl) ?_
  conv => whnf
  repeat' (first
    | (refine And.intro (by first | exact trivial | exact And.intro rfl trivial | exact And.intro rfl (And.intro rfl trivial) | exact And.intro rfl (And.intro rfl (And.intro rfl trivial))) (And.intro (fun _ h => h) ?_); (conv => whnf))
    | (refine And.intro (by first | exact trivial | exact And.intro rfl trivial | exact And.intro rfl (And.intro rfl trivial) | exact And.intro rfl (And.intro rfl (And.intro rfl trivial))) (And.intro (fun _ h => List.mem_cons_of_mem _ h) ?_); (conv => whnf))
    | (refine And.intro (by first | exact trivial | exact And.intro rfl trivial | exact And.intro rfl (And.intro rfl trivial) | exact And.intro rfl (And.intro rfl (And.intro rfl trivial))) (And.intro (fun _ h => List.mem_append_right _ h) ?_); (conv => whnf))
    | (refine And.intro (fun h => ?_) (fun h => ?_) <;> (try simp only [decide_eq_true_eq, decide_eq_false_iff_not, Bool.not_eq_true', Bool.not_eq_false', Bool.not_true, Bool.not_false] at h) <;> first | (exfalso; omega) | (cases h; done) | (conv => whnf))
    | (refine And.intro ?_ ?_; (omega); (conv => whnf))
    | (refine Exists.intro _ (And.intro (And.intro rfl rfl) ?_); (conv => whnf))
    | (refine Exists.intro ?w (And.intro (Pl.den ?p) ?k); (case p => repeat constructor); (conv => whnf))
    | (refine Exists.intro _ (And.intro (by with_reducible rfl) ?_); (conv => whnf))
    | (refine Exists.intro _ (And.intro (cast_succ _) ?_); (conv => whnf))
    | (refine Exists.intro _ (And.intro (by assumption) ?_); (conv => whnf))
    | (refine Exists.intro _ (And.intro (Int.toNat_of_nonneg ?_).symm ?_); (omega); (conv => whnf))
    | (refine Exists.intro _ (And.intro rfl ?_); (conv => whnf))
    | (intro h; (try simp only [decide_eq_true_eq, decide_eq_false_iff_not, Bool.not_eq_true', Bool.not_eq_false', Bool.not_true, Bool.not_false] at h); first | (exfalso; omega) | (cases h; done) | (conv => whnf)))
  have e : (if n < -1 then -1 else n) = max n (-1) := by split <;> omega
  apply Ret.dsk1
  · (repeat first | exact List.mem_cons_self .. | apply List.mem_cons_of_mem)
  · (repeat first | exact List.mem_cons_self .. | apply List.mem_cons_of_mem)
  · (repeat first | exact List.mem_cons_self .. | apply List.mem_cons_of_mem)
  · rfl
  · exact fun _ _ _ => rfl
  · exact fun ρ => by simp only [denL_cons, denL_nil, den, dskC, DS.setFuse, e]
  · rfl
  · exact v.h
end Go.Proofs.Ytekgjjanikicnaa.Sx
