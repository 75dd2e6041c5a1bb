/- What the text laws' callees do, part 2: the library's builder of strings, written to and read. -/
import Derived.Test.YtekgjjanikicnaaDoorTx1
namespace Go.Proofs.YtekgjjanikicnaaDoor.Sx
open Go
set_option maxRecDepth 100000
set_option linter.unusedSimpArgs false
set_option linter.unusedVariables false

/-- A builder that holds these bytes. -/
def bldA (bs : List UInt8) : AR where
  A w b F := (bs = [] ∧ (∀ k, F k ↔ k = b) ∧ CellsAt w b [.pointer none, .slice none 0 0] 138) ∨
    ∃ g xs, g ≠ b ∧ (∀ k, F k ↔ k = b ∨ k = g) ∧ CellsAt w b [.pointer (some ⟨b, 0, none⟩), .slice (some ⟨g, 0, none⟩) bs.length xs.length] 138 ∧ CellsAt w g xs 5 ∧ xs.take bs.length = bs.map bv ∧ bs ≠ [] ∧ bs.length ≤ xs.length
  loc := by
    rintro w w' b F (⟨h1, h2, h3⟩ | ⟨g, xs, h1, h2, h3, h4, h5⟩) e
    · exact .inl ⟨h1, h2, h3.loc (e b ((h2 b).2 rfl))⟩
    · exact .inr ⟨g, xs, h1, h2, h3.loc (e b ((h2 b).2 (.inl rfl))), h4.loc (e g ((h2 g).2 (.inr rfl))), h5⟩
inductive BldV (bs : List UInt8) where
  | fresh (h : bs = [])
  | used (xs : List Value) (h1 : xs.take bs.length = bs.map bv) (h2 : bs ≠ []) (h3 : bs.length ≤ xs.length)
def bldL {bs : List UInt8} : BldV bs → Nat → Nat → List (Nat × SObj)
  | .fresh _, r, _ => [(r, .cells [.v (.pointer none), .v (.slice none 0 0)] 138)]
  | .used xs _ _ _, r, m => [(r, .cells [.p r 0, .s m 0 bs.length xs.length] 138), (m, .row xs 5)]
def bld0 (bs : List UInt8) : BldV bs :=
  match bs with
  | [] => .fresh rfl
  | c :: r => .used ((c :: r).map bv) (by rw [List.take_of_length_le (by simp)]) (by simp) (by simp)
theorem told_bld (bs : List UInt8) : Told (bldA bs) (bldL (bs := bs)) 1 := by
  refine ⟨fun ρ r m w F hr hA hF => ?_⟩
  rcases hA with ⟨h1, h2, h3⟩ | ⟨g, xs, h1, h2, h3, h4, h5, h6, h7⟩
  · refine ⟨.fresh h1, ρ, fun _ => F, Ag.refl _ _, fun ρ3 ha j o hm => ?_, fun j o hm => ?_, fun j o j' o' hm hm' hne => ?_, fun k ⟨j, o, hm, hk⟩ => hk⟩
    · obtain ⟨rfl, rfl⟩ := Prod.mk.inj (List.mem_singleton.1 hm)
      rw [ha j (by omega)]; exact ⟨h2, h3⟩
    · obtain ⟨rfl, rfl⟩ := Prod.mk.inj (List.mem_singleton.1 hm)
      exact .inl rfl
    · obtain ⟨rfl, rfl⟩ := Prod.mk.inj (List.mem_singleton.1 hm)
      obtain ⟨rfl, rfl⟩ := Prod.mk.inj (List.mem_singleton.1 hm')
      exact absurd rfl hne
  · have hmem : ∀ j o, (j, o) ∈ bldL (BldV.used xs h5 h6 h7) r m → (j = r ∧ o = .cells [.p r 0, .s m 0 bs.length xs.length] 138) ∨ (j = m ∧ o = .row xs 5) := fun j o hm => by
      simpa [bldL] using hm
    refine ⟨.used xs h5 h6 h7, updR ρ m g, updR (fun _ k => k = g) r (fun k => k = ρ r), Ag.updR ρ g, fun ρ3 ha j o hm => ?_, fun j o hm => ?_, fun j o j' o' hm hm' hne k hk hk' => ?_, fun k ⟨j, o, hm, hk⟩ => ?_⟩
    · have e1 : ρ3 r = ρ r := by rw [ha r (by omega), updR_ne _ _ (by omega)]
      have e2 : ρ3 m = g := by rw [ha m (by omega), updR_same]
      rcases hmem j o hm with ⟨rfl, rfl⟩ | ⟨rfl, rfl⟩
      · rw [updR_same]
        refine ⟨fun k => by rw [e1], ?_⟩
        simp only [denL_cons, denL_nil, den, e1, e2]
        exact h3
      · rw [updR_ne _ _ (by omega), e2]
        exact ⟨fun k => Iff.rfl, h4⟩
    · rcases hmem j o hm with ⟨rfl, rfl⟩ | ⟨rfl, rfl⟩
      · exact .inl rfl
      · exact .inr ⟨Nat.le_refl _, by omega⟩
    · rcases hmem j o hm with ⟨rfl, rfl⟩ | ⟨rfl, rfl⟩ <;> rcases hmem j' o' hm' with ⟨rfl, rfl⟩ | ⟨rfl, rfl⟩
      · exact absurd rfl hne
      · rw [updR_same] at hk; rw [updR_ne _ _ (by omega)] at hk'; exact h1 (hk'.symm.trans hk)
      · rw [updR_same] at hk'; rw [updR_ne _ _ (by omega)] at hk; exact h1 (hk.symm.trans hk')
      · exact absurd rfl hne
    · rcases hmem j o hm with ⟨rfl, rfl⟩ | ⟨rfl, rfl⟩
      · rw [updR_same] at hk; exact (h2 k).2 (.inl hk)
      · rw [updR_ne _ _ (by omega)] at hk; exact (h2 k).2 (.inr hk)
theorem bld_close {bs : List UInt8} {r m n cap : Nat} {xs : List Value} (hne : r ≠ m) (hn : n = bs.length) (hc : cap = xs.length) (h1 : xs.take bs.length = bs.map bv) (h2 : bs ≠ []) (h3 : bs.length ≤ xs.length) {h : List (Nat × SObj)}
    (hL : ∀ e, e ∈ [(r, SObj.cells [.p r 0, .s m 0 n cap] 138), (m, .row xs 5)] → e ∈ h) : Fold h ((r, .abs (bldA bs)) :: restH [r, m] h) := by
  subst hn hc
  refine Fold.abs (L := [(r, SObj.cells [.p r 0, .s m 0 bs.length xs.length] 138), (m, .row xs 5)]) hL (by simp) fun ρ F m' w hh => ?_
  have o1 := hh.obj ρ (Ag.refl _ _) r _ (List.mem_cons_self ..)
  have o2 := hh.obj ρ (Ag.refl _ _) m _ (List.mem_cons_of_mem _ (List.mem_cons_self ..))
  have c1 := o1.2
  simp only [denL_cons, denL_nil, den] at c1
  refine .inr ⟨ρ m, xs, fun e => ?_, fun k => ⟨?_, ?_⟩, c1, o2.2, h1, h2, h3⟩
  · exact hh.shape.dis m _ r _ (List.mem_cons_of_mem _ (List.mem_cons_self ..)) (List.mem_cons_self ..) (Ne.symm hne) (ρ m) ((o2.1 _).2 rfl) ((o1.1 _).2 e)
  · rintro ⟨j, o, hm, hk⟩
    rcases List.mem_cons.1 hm with e | hm
    · cases e; exact .inl ((o1.1 k).1 hk)
    · obtain ⟨rfl, rfl⟩ := Prod.mk.inj (List.mem_singleton.1 hm)
      exact .inr ((o2.1 k).1 hk)
  · rintro (rfl | rfl)
    · exact ⟨r, _, List.mem_cons_self .., (o1.1 _).2 rfl⟩
    · exact ⟨m, _, List.mem_cons_of_mem _ (List.mem_cons_self ..), (o2.1 _).2 rfl⟩
theorem bld_zero {r : Nat} {h : List (Nat × SObj)} (hL : (r, SObj.cells [.v (.pointer none), .v (.slice none 0 0)] 138) ∈ h) : Fold h ((r, .abs (bldA [])) :: restH [r] h) := by
  refine Fold.abs (L := [(r, SObj.cells [.v (.pointer none), .v (.slice none 0 0)] 138)]) (fun e he => by rw [List.mem_singleton.1 he]; exact hL) (by simp) fun ρ F m' w hh => ?_
  have o1 := hh.obj ρ (Ag.refl _ _) r _ (List.mem_cons_self ..)
  have c1 := o1.2
  simp only [denL_cons, denL_nil, den] at c1
  refine .inl ⟨rfl, fun k => ⟨?_, fun hk => ⟨r, _, List.mem_cons_self .., (o1.1 k).2 hk⟩⟩, c1⟩
  rintro ⟨j, o, hm, hk⟩
  obtain ⟨rfl, rfl⟩ := Prod.mk.inj (List.mem_singleton.1 hm)
  exact (o1.1 k).1 hk
theorem tWriteByte (bs : List UInt8) (c : UInt8) (hb : bs.length + 1 ≤ 140737488355328) : Tri Tryd.prog 109 [.p 0 0, .v (bv c)] [(0, .abs (bldA bs))] 1 [] (RetE (α := Unit) 1 (fun _ => True) (fun _ => .v .nilIface) (fun _ => [(0, .abs (bldA (bs ++ [c])))]) 1 (fun _ => [])) := by
  refine Tri.told (told_bld bs) (bld0 bs) 0 (List.mem_singleton.2 rfl) fun i => Tri.one ?_
  cases i with
  | fresh h =>
    show Tri _ 109 _ [(0, .cells [.v (.pointer none), .v (.slice none 0 0)] 138)] 2 [] _
    subst h
    refine Tri.of_code tok Tryd.func109 rfl rfl rfl (by decide) rfl (Nat.le_of_ble_eq_true rfl) ?_
    conv => whnf
    repeat' ((first | refine And.intro (by repeat' first | exact trivial | refine And.intro rfl ?_) (And.intro (by first | exact fun _ h => h | exact fun _ => List.mem_cons_of_mem _ | exact fun _ => List.mem_append_right _) ?_) | (refine And.intro (fun h => ?_) (fun h => ?_) <;> (try simp only [n1, n2, n3, n4, n5, n6] at h) <;> first | (exfalso; omega) | (cases h; done) | skip) | refine And.intro (by omega) ?_ | refine Exists.intro _ (And.intro (by first | exact And.intro rfl rfl | exact Pl.den (by repeat constructor) | with_reducible rfl | exact cast_succ _ | assumption | exact (Int.toNat_of_nonneg (by omega)).symm | rfl) ?_) | refine hD _ _ ?_ | refine hL _ _ ?_ | (intro h; (try simp only [n1, n2, n3, n4, n5, n6] at h); first | (exfalso; omega) | (cases h; done) | skip)) <;> (conv => whnf))
    refine Tri.use tCopyFresh [0] rfl (args_ren rfl rfl) ⟨OSub.ren rfl rfl, trivial⟩ (fun f hf => by first | exact hf | cases hf | simp_all) (fun u hu => ?_)
    conv => whnf
    repeat' ((first | refine And.intro (by repeat' first | exact trivial | refine And.intro rfl ?_) (And.intro (by first | exact fun _ h => h | exact fun _ => List.mem_cons_of_mem _ | exact fun _ => List.mem_append_right _) ?_) | (refine And.intro (fun h => ?_) (fun h => ?_) <;> (try simp only [n1, n2, n3, n4, n5, n6] at h) <;> first | (exfalso; omega) | (cases h; done) | skip) | refine And.intro (by omega) ?_ | refine Exists.intro _ (And.intro (by first | exact And.intro rfl rfl | exact Pl.den (by repeat constructor) | with_reducible rfl | exact cast_succ _ | assumption | exact (Int.toNat_of_nonneg (by omega)).symm | rfl) ?_) | refine hD _ _ ?_ | refine hL _ _ ?_ | (intro h; (try simp only [n1, n2, n3, n4, n5, n6] at h); first | (exfalso; omega) | (cases h; done) | skip)) <;> (conv => whnf))
    rename_i m sp
    have hsp := h
    rw [Nat.mul_one] at hsp
    refine Ret.mk [0] [(0, .abs (bldA [c]))] ((bld_close (bs := [c]) (r := 0) (m := 3) (n := 1) (cap := 1 + m) (xs := [bv c] ++ sp) (by decide) rfl (by simp [hsp]; omega) (by simp) (by simp) (by simp) ?_).trans (Fold.drop (by simp))) rfl (fun _ _ _ => rfl) ⟨OSub.ren rfl rfl, trivial⟩ (fun _ h => h)
    intro e he
    simp only [List.mem_cons, List.not_mem_nil, or_false] at he ⊢
    rcases he with rfl | rfl
    · exact .inr (.inr rfl)
    · exact .inl rfl
  | used xs h1 h2 h3 =>
    show Tri _ 109 _ [(0, .cells [.p 0 0, .s 1 0 bs.length xs.length] 138), (1, .row xs 5)] 2 [] _
    refine Tri.of_code tok Tryd.func109 rfl rfl rfl (by decide) rfl (Nat.le_of_ble_eq_true rfl) ?_
    conv => whnf
    repeat' ((first | refine And.intro (by repeat' first | exact trivial | refine And.intro rfl ?_) (And.intro (by first | exact fun _ h => h | exact fun _ => List.mem_cons_of_mem _ | exact fun _ => List.mem_append_right _) ?_) | (refine And.intro (fun h => ?_) (fun h => ?_) <;> (try simp only [n1, n2, n3, n4, n5, n6] at h) <;> first | (exfalso; omega) | (cases h; done) | skip) | refine And.intro (by omega) ?_ | refine Exists.intro _ (And.intro (by first | exact And.intro rfl rfl | exact Pl.den (by repeat constructor) | with_reducible rfl | exact cast_succ _ | assumption | exact (Int.toNat_of_nonneg (by omega)).symm | rfl) ?_) | refine hD _ _ ?_ | refine hL _ _ ?_ | (intro h; (try simp only [n1, n2, n3, n4, n5, n6] at h); first | (exfalso; omega) | (cases h; done) | skip)) <;> (conv => whnf))
    refine Tri.use (tCopyUsed bs.length xs) [0,1] rfl (args_ren rfl rfl) ⟨OSub.ren rfl rfl, OSub.ren rfl rfl, trivial⟩ (fun f hf => by first | exact hf | cases hf | simp_all) (fun u hu => ?_)
    conv => whnf
    repeat' ((first | refine And.intro (by repeat' first | exact trivial | refine And.intro rfl ?_) (And.intro (by first | exact fun _ h => h | exact fun _ => List.mem_cons_of_mem _ | exact fun _ => List.mem_append_right _) ?_) | (refine And.intro (fun h => ?_) (fun h => ?_) <;> (try simp only [n1, n2, n3, n4, n5, n6] at h) <;> first | (exfalso; omega) | (cases h; done) | skip) | refine And.intro (by omega) ?_ | refine Exists.intro _ (And.intro (by first | exact And.intro rfl rfl | exact Pl.den (by repeat constructor) | with_reducible rfl | exact cast_succ _ | assumption | exact (Int.toNat_of_nonneg (by omega)).symm | rfl) ?_) | refine hD _ _ ?_ | refine hL _ _ ?_ | (intro h; (try simp only [n1, n2, n3, n4, n5, n6] at h); first | (exfalso; omega) | (cases h; done) | skip)) <;> (conv => whnf))
    refine ⟨⟨by omega, h3, by omega, by simp [bv, Value.oneCell']⟩, ?_⟩
    intro m sp hsp
    simp only [Nat.mul_one] at hsp
    conv => whnf
    repeat' ((first | refine And.intro (by repeat' first | exact trivial | refine And.intro rfl ?_) (And.intro (by first | exact fun _ h => h | exact fun _ => List.mem_cons_of_mem _ | exact fun _ => List.mem_append_right _) ?_) | (refine And.intro (fun h => ?_) (fun h => ?_) <;> (try simp only [n1, n2, n3, n4, n5, n6] at h) <;> first | (exfalso; omega) | (cases h; done) | skip) | refine And.intro (by omega) ?_ | refine Exists.intro _ (And.intro (by first | exact And.intro rfl rfl | exact Pl.den (by repeat constructor) | with_reducible rfl | exact cast_succ _ | assumption | exact (Int.toNat_of_nonneg (by omega)).symm | rfl) ?_) | refine hD _ _ ?_ | refine hL _ _ ?_ | (intro h; (try simp only [n1, n2, n3, n4, n5, n6] at h); first | (exfalso; omega) | (cases h; done) | skip)) <;> (conv => whnf))
    have hlen : (bs ++ [c]).length = bs.length + 1 := by simp
    refine Ret.mk [0] [(0, .abs (bldA (bs ++ [c])))] ((bld_close (bs := bs ++ [c]) (r := 0) (m := 3) (n := bs.length + 1) (cap := bs.length + 1 + m) (xs := xs.take (bs.length * 1) ++ [bv c] ++ sp) (by decide) hlen.symm (by simp [hsp]; omega) ?_ (by simp) (by simp; omega) ?_).trans (Fold.drop (by simp))) rfl (fun _ _ _ => rfl) ⟨OSub.ren rfl rfl, trivial⟩ (fun _ h => h)
    · rw [Nat.mul_one, h1, hlen]
      rw [List.take_left' (by simp)]
      simp
    · intro e he
      simp only [List.mem_cons, List.not_mem_nil, or_false] at he ⊢
      rcases he with rfl | rfl
      · exact .inr (.inr rfl)
      · exact .inl rfl
theorem FzOk.cells {w : World} {b : Nat} {cs : List Value} {T : TypeId} (h : CellsAt w b cs T) : w.drew.shape? b = some (T, cs.length) := by
  obtain ⟨fz, h, _⟩ := h
  have e : w.drew.heap[b]? = _ := h
  simp [World.shape?, e]
set_option maxHeartbeats 2000000 in
theorem cStringNil (b : Nat) (p : Value) (w : World) (hc : CellsAt w b [p, .slice none 0 0] 138) :
    Calls Tryd.prog 110 #[.pointer (some ⟨b, 0, none⟩)] w fun e w' => e = .returned (.string ⟨#[]⟩) ∧ w' = w.drew := by
  have c1 : w.drew.cell? ⟨b, 1, none⟩ = some (.slice none 0 0) := by
    have : w.cell? ⟨b, 1, none⟩ = some (.slice none 0 0) := by rw [hc.cell]; rfl
    exact this
  have hSD : (Builtin.unsafeSliceData_ #[61] 165 #[.slice none 0 0]).run Tryd.prog w.drew = .ok (.pointer none) w.drew := rfl
  have hUS : ∀ W, (Builtin.unsafeString_ #[165, 3] 9 #[.pointer none, .int .i64 0]).run Tryd.prog W = .ok (.string .empty) W := fun W => Lib.run_unsafeString_none W _ _ _ none
  go_enter Tryd.func110, Tryd.ntmps110
  go_wp2
  go_region
  all_goals (go_wp2; go_ret; exact ⟨rfl, rfl⟩)
set_option maxHeartbeats 2000000 in
theorem cString (b g : Nat) (p : Value) (l : List UInt8) (cs : List Value) (w : World) (hc : CellsAt w b [p, .slice (some ⟨g, 0, none⟩) l.length cs.length] 138) (hg : CellsAt w g cs 5) (hl : cs.take l.length = l.map bv) (h0 : l ≠ []) (hle : l.length ≤ cs.length) (hb : l.length ≤ 140737488355328) :
    Calls Tryd.prog 110 #[.pointer (some ⟨b, 0, none⟩)] w fun e w' => e = .returned (.string ⟨l.toArray⟩) ∧ w' = w.drew.freeze ⟨g, 0, none⟩ l.length := by
  have hl0 : l.length ≠ 0 := by simpa using h0
  have c1 : w.drew.cell? ⟨b, 1, none⟩ = some (.slice (some ⟨g, 0, none⟩) l.length cs.length) := by
    have : w.cell? ⟨b, 1, none⟩ = some (.slice (some ⟨g, 0, none⟩) l.length cs.length) := by rw [hc.cell]; rfl
    exact this
  have hSD : (Builtin.unsafeSliceData_ #[61] 165 #[.slice (some ⟨g, 0, none⟩) l.length cs.length]).run Tryd.prog w.drew = .ok (.pointer (some ⟨g, 0, none⟩)) w.drew :=
    Lib.run_unsafeSliceData_row _ _ _ _ _ _ (by omega)
  have hUS : (Builtin.unsafeString_ #[165, 3] 9 #[.pointer (some ⟨g, 0, none⟩), .int .i64 l.length]).run Tryd.prog w.drew = .ok (.string ⟨l.toArray⟩) (w.drew.freeze ⟨g, 0, none⟩ l.length) := by
    refine Lib.run_unsafeString_row w.drew 165 3 9 5 Tryd.underlying165 (by kernel_rfl) g cs.length (FzOk.cells hg) l h0 hle (by omega) ?_
    intro j x hx
    have h1 : w.cell? ⟨g, j, none⟩ = cs[j]? := hg.cell j
    have h2 : cs[j]? = some (bv x) := by
      have h3 : (cs.take l.length)[j]? = some (bv x) := by rw [hl, List.getElem?_map, hx]; rfl
      have hj := (List.getElem?_eq_some_iff.1 hx).1
      rwa [List.getElem?_take, if_pos hj] at h3
    rw [add_at, Nat.zero_add]
    show w.cell? ⟨g, j, none⟩ = _
    rw [h1, h2]; rfl
  go_enter Tryd.func110, Tryd.ntmps110
  go_wp2
  go_region
  all_goals (go_wp2; go_ret; exact ⟨rfl, rfl⟩)
theorem keeps_freeze (w : World) (b n : Nat) : Keeps (fun k => k = b) w (w.freeze ⟨b, 0, none⟩ n) := by
  refine ⟨?_, ?_, ?_, ?_, fun k hk hn => ?_⟩
  · unfold World.freeze; split <;> rfl
  · unfold World.freeze; split <;> rfl
  · unfold World.freeze; split <;> rfl
  · unfold World.freeze; split <;> simp
  · unfold World.freeze
    split
    · rfl
    · simp only [Array.getElem?_modify]
      rw [if_neg (Ne.symm hn)]
/-- A call that hands back a plain value, and lets go of all that it was given. -/
theorem Tri.gone {P : Program} {n : Nat} {args : List SV} {hp : List (Nat × SObj)} {m : Nat} {fx : List Fact} {v : Value} (hen : ∀ xs w, (callFunc n xs).run P w = .ok (.enter n xs) w)
    (h : ∀ ρ F w, HpOk ρ F hp m fx w → Calls P n (denL ρ args).toArray w fun e w' => e = .returned v ∧ Keeps (Own hp F) w w') : Tri P n args hp m fx (Ret m (.v v) [] m []) :=
  ⟨trivial, fun ρ F w hh hrob => .inl ⟨hen _ _, (h ρ F w hh).mono fun e w' ⟨he, hk⟩ => ⟨.v v, [], m, [], ρ, F, Ret.none (by simp) (fun _ => rfl) (fun _ h => h), he, fun _ _ => rfl,
    ⟨fun _ _ r o hm => (by cases hm), fun r o hm => (by cases hm), fun r o r' o' hm => (by cases hm), fun r o hm => (by cases hm), fun f hf => (by cases hf)⟩, Ag.refl _ _, Nat.le_refl _, hk, fun k ⟨r, o, hm, _⟩ => (by cases hm), fun f hf => (by cases hf)⟩⟩⟩
/-- The builder's text: its buffer is let go. -/
theorem tString (bs : List UInt8) (hb : bs.length ≤ 140737488355328) : Tri Tryd.prog 110 [.p 0 0] [(0, .abs (bldA bs))] 1 [] (Ret 1 (.v (.string ⟨bs.toArray⟩)) [] 1 []) := by
  refine Tri.gone (fun xs w => by simp [callFunc, Tryd.func110, Tryd.f110]) fun ρ F w hh => ?_
  rcases hh.obj ρ (Ag.refl _ _) 0 _ (List.mem_singleton.2 rfl) with ⟨rfl, h2, h3⟩ | ⟨g, xs, h1, h2, h3, h4, h5, h6, h7⟩
  · exact (cStringNil (ρ 0) _ w h3).mono fun e w' ⟨he, hw⟩ => ⟨he, by subst hw; exact keeps_drew _ w⟩
  · refine (cString (ρ 0) g _ bs xs w h3 h4 h5 h6 h7 hb).mono fun e w' ⟨he, hw⟩ => ⟨he, ?_⟩
    subst hw
    refine (keeps_drew _ w).trans (keeps_freeze w.drew g bs.length) fun j hj => .inl ⟨0, _, List.mem_singleton.2 rfl, ?_⟩
    exact (h2 j).2 (.inr hj)
end Go.Proofs.YtekgjjanikicnaaDoor.Sx
