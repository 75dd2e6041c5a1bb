/- A symbolic executor for the model's code: regions pinned to a place; a contract re-aimed at a pointer that is known by its place. -/
import Derived.Test.YtekgjjanikicnaaSxP
namespace Go.Proofs.Ytekgjjanikicnaa.Sx
open Go
set_option linter.unusedVariables false
set_option linter.unusedSimpArgs false

/-- A region that stands at the block D. -/
def pinA (D : Nat) (A : AR) : AR where
  A w b F := b = D ∧ A.A w b F
  loc := fun h e => ⟨h.1, A.loc h.2 e⟩
/-- The place of a block. -/
def ptrV (D : Nat) : Value := .pointer (some ⟨D, 0, none⟩)
theorem told_pin (A : AR) : Told A (fun (D : Nat) r m => [(r, .abs (pinA D A))]) 0 := by
  refine ⟨fun ρ r m w F hr hA hF => ⟨ρ r, ρ, fun _ => F, Ag.refl _ _, fun ρ3 ha j o hm => ?_, fun j o hm => ?_, fun j o j' o' hm hm' hne => ?_, fun k ⟨j, o, hm, hk⟩ => hk⟩⟩
  · obtain ⟨rfl, rfl⟩ := Prod.mk.inj (List.mem_singleton.1 hm)
    have e : ρ3 j = ρ j := ha j (by omega)
    exact ⟨e, by rw [e]; exact hA⟩
  · obtain ⟨rfl, rfl⟩ := Prod.mk.inj (List.mem_singleton.1 hm)
    exact .inl rfl
  · obtain ⟨rfl, rfl⟩ := Prod.mk.inj (List.mem_singleton.1 hm)
    obtain ⟨rfl, rfl⟩ := Prod.mk.inj (List.mem_singleton.1 hm')
    exact absurd rfl hne
theorem hp_pin {ρ : Nat → Nat} {F : Nat → Nat → Prop} {A : AR} {D m : Nat} {fx : List Fact} {w : World} {rest : List (Nat × SObj)} (hm : 0 < m) (hn : noKey 0 rest = true) : HpOk ρ F ((0, .abs (pinA D A)) :: rest) m fx w ↔ HpOk ρ F ((0, .abs A) :: rest) m fx w ∧ ρ 0 = D := by
  have own : ∀ k, Own ((0, SObj.abs (pinA D A)) :: rest) F k ↔ Own ((0, SObj.abs A) :: rest) F k := fun k => by
    constructor
    · rintro ⟨r, o, hr, hk⟩
      rcases List.mem_cons.1 hr with e | hr
      · obtain ⟨rfl, rfl⟩ := Prod.mk.inj e; exact ⟨0, _, List.mem_cons_self .., hk⟩
      · exact ⟨r, o, List.mem_cons_of_mem _ hr, hk⟩
    · rintro ⟨r, o, hr, hk⟩
      rcases List.mem_cons.1 hr with e | hr
      · obtain ⟨rfl, rfl⟩ := Prod.mk.inj e; exact ⟨0, _, List.mem_cons_self .., hk⟩
      · exact ⟨r, o, List.mem_cons_of_mem _ hr, hk⟩
  have fwd : ∀ {A B : AR}, (∀ k, Own ((0, SObj.abs B) :: rest) F k ↔ Own ((0, SObj.abs A) :: rest) F k) → (∀ ρ', Ag m ρ ρ' → A.A w (ρ' 0) (F 0) → B.A w (ρ' 0) (F 0)) → HpOk ρ F ((0, .abs A) :: rest) m fx w → HpOk ρ F ((0, .abs B) :: rest) m fx w := by
    intro A B hown hAB h
    have back : ∀ r o, (r, o) ∈ ((0, SObj.abs B) :: rest) → ∃ o', (r, o') ∈ ((0, SObj.abs A) :: rest) := fun r o hr => by
      rcases List.mem_cons.1 hr with e | hr
      · obtain ⟨rfl, rfl⟩ := Prod.mk.inj e; exact ⟨_, List.mem_cons_self ..⟩
      · exact ⟨o, List.mem_cons_of_mem _ hr⟩
    refine ⟨fun ρ' ha r o hr => ?_, fun r o hr => ?_, fun r o r' o' hr hr' hne => ?_, fun r o hr => ?_, fun f hf => ?_⟩
    · rcases List.mem_cons.1 hr with e | hr
      · obtain ⟨rfl, rfl⟩ := Prod.mk.inj e
        exact hAB ρ' ha (h.obj ρ' ha 0 _ (List.mem_cons_self ..))
      · exact h.obj ρ' ha r o (List.mem_cons_of_mem _ hr)
    · obtain ⟨x, hx⟩ := back r o hr; exact h.shape.lt r x hx
    · obtain ⟨x, hx⟩ := back r o hr
      obtain ⟨x', hx'⟩ := back r' o' hr'
      exact h.shape.dis r x r' x' hx hx' hne
    · obtain ⟨x, hx⟩ := back r o hr; exact h.shape.bnd r x hx
    · have := h.shape.fact f hf
      exact ⟨this.1, fun k hk => ⟨fun hu => (this.2 k hk).1 ((hown k).1 hu), (this.2 k hk).2⟩⟩
  constructor
  · intro h
    have h0 := h.obj ρ (Ag.refl _ _) 0 _ (List.mem_cons_self ..)
    exact ⟨fwd (A := pinA D A) (B := A) (fun k => (own k).symm) (fun ρ' ha hA => hA.2) h, h0.1⟩
  · rintro ⟨h, hD⟩
    exact fwd (A := A) (B := pinA D A) own (fun ρ' ha hA => ⟨by rw [ha 0 hm]; exact hD, hA⟩) h
/-- A contract about a region, where it is pinned; its arguments may name the place. -/
theorem Tri.pin {P : Program} {n : Nat} {args args' : List SV} {A : AR} {rest : List (Nat × SObj)} {m : Nat} {fx : List Fact} {α : Type} {pr : α → Prop} {v : α → SV} {B : α → AR} {rest' : α → List (Nat × SObj)} {m1 : Nat} {f1 : α → List Fact}
    (T : Tri P n args ((0, .abs A) :: rest) m fx (RetE m pr v (fun a => (0, .abs (B a)) :: rest' a) m1 f1)) (D : Nat) (hm : 0 < m) (hm1 : 0 < m1) (hn : noKey 0 rest = true) (hn' : ∀ a, noKey 0 (rest' a) = true)
    (ha : ∀ ρ, ρ 0 = D → denL ρ args = denL ρ args') :
    Tri P n args' ((0, .abs (pinA D A)) :: rest) m fx (fun y h m' f => ∃ a, pr a ∧ y = v a ∧ h = (0, .abs (pinA D (B a))) :: rest' a ∧ m' = m1 ∧ f = f1 a) := by
  refine ⟨trivial, fun ρ F w hh hrob => ?_⟩
  obtain ⟨hh0, hD⟩ := (hp_pin hm hn).1 hh
  have own : ∀ (A B : AR) (l : List (Nat × SObj)) (G : Nat → Nat → Prop) k, Own ((0, SObj.abs A) :: l) G k → Own ((0, SObj.abs B) :: l) G k := fun A B l G k => by
    rintro ⟨r, o, hr, hk⟩
    rcases List.mem_cons.1 hr with e | hr
    · obtain ⟨rfl, rfl⟩ := Prod.mk.inj e; exact ⟨0, _, List.mem_cons_self .., hk⟩
    · exact ⟨r, o, List.mem_cons_of_mem _ hr, hk⟩
  have h1 := T.conv.run ρ F w hh0 (fun ρ' hr => by
    rw [ha ρ hD, ha ρ' (by rw [hr 0 hm]; exact hD)]; exact hrob ρ' hr)
  rw [ha ρ hD] at h1
  refine h1.mono fun e w' ⟨y, h', m', fx', ρ', F', ⟨a, hpr, e1, e2, e3, e4⟩, he, hy, hh1, hag, hmm, hk, ho, hf⟩ => ?_
  subst e1 e2 e3 e4
  have hD' : ρ' 0 = D := by rw [hag 0 hm]; exact hD
  refine ⟨_, _, _, _, ρ', F', ⟨a, hpr, rfl, rfl, rfl, rfl⟩, he, hy, (hp_pin hm1 (hn' a)).2 ⟨hh1, hD'⟩, hag, hmm, hk.mono (fun k => own _ _ _ _ k), fun k hk' => (ho k (own _ _ _ _ k hk')).imp (own _ _ _ _ k) id, fun f hf' => (hf f hf').imp id fun h k hk' => (h k hk').imp (own _ _ _ _ k) id⟩
/-- The same, in the form in which contracts are used. -/
theorem Tri.pinE {P : Program} {n : Nat} {args args' : List SV} {A : AR} {rest : List (Nat × SObj)} {m : Nat} {fx : List Fact} {α : Type} {pr : α → Prop} {v : α → SV} {B : α → AR} {rest' : α → List (Nat × SObj)} {m1 : Nat} {f1 : α → List Fact}
    (T : Tri P n args ((0, .abs A) :: rest) m fx (RetE m pr v (fun a => (0, .abs (B a)) :: rest' a) m1 f1)) (D : Nat) (hm : 0 < m) (hm1 : Nat.ble m m1 = true) (hn : noKey 0 rest = true) (hn' : ∀ a, noKey 0 (rest' a) = true)
    (ha : ∀ ρ, ρ 0 = D → denL ρ args = denL ρ args')
    (σ : List Nat) (hσ : ∀ a, namesOk m m1 m1 σ (((0, SObj.abs (B a)) :: rest' a).map (·.1)) = true) (hv : ∀ a, SEq m1 σ (v a) (v a)) (hr : ∀ a, heapSub m1 σ ((0, .abs (pinA D (B a))) :: rest' a) ((0, .abs (pinA D (B a))) :: rest' a)) :
    Tri P n args' ((0, .abs (pinA D A)) :: rest) m fx (RetE m pr v (fun a => (0, .abs (pinA D (B a))) :: rest' a) m1 f1) := by
  refine (Tri.pin T D hm (Nat.lt_of_lt_of_le hm (Nat.le_of_ble_eq_true hm1)) hn hn' ha).mono fun y h m' f ⟨a, hpr, e1, e2, e3, e4⟩ => ?_
  subst e1 e2 e3 e4
  exact ⟨a, hpr, Ret.mk σ _ (Fold.refl _) (hσ a) (hv a) (hr a) (fun _ h => h)⟩
/-- The only region is the pinned one. -/
theorem Tri.pin1 {P : Program} {n : Nat} {args args' : List SV} {A : AR} {fx : List Fact} {α : Type} {pr : α → Prop} {v : α → SV} {B : α → AR} {f1 : α → List Fact}
    (T : Tri P n args [(0, .abs A)] 1 fx (RetE 1 pr v (fun a => [(0, .abs (B a))]) 1 f1)) (D : Nat)
    (ha : ∀ ρ, ρ 0 = D → denL ρ args = denL ρ args') (hv : ∀ a, idsB 1 (v a) = true) :
    Tri P n args' [(0, .abs (pinA D A))] 1 fx (RetE 1 pr v (fun a => [(0, .abs (pinA D (B a)))]) 1 f1) :=
  Tri.pinE T D (by decide) rfl rfl (fun _ => rfl) ha [0] (fun _ => rfl) (fun a ρ ρ'' h => den_ids (n := 1) (fun i hi => by
    obtain rfl : i = 0 := by omega
    exact h 0 (by decide)) (v a) (hv a)) (fun a => ⟨OSub.ren rfl rfl, trivial⟩)
/-- The arguments may name the place, or the region. -/
theorem Tri.pinArgs {P : Program} {n : Nat} {args args' : List SV} {A : AR} {rest : List (Nat × SObj)} {m : Nat} {fx : List Fact} {post : SV → List (Nat × SObj) → Nat → List Fact → Prop} {D : Nat}
    (T : Tri P n args ((0, .abs (pinA D A)) :: rest) m fx post) (hm : 0 < m) (ha : ∀ ρ, ρ 0 = D → denL ρ args = denL ρ args') : Tri P n args' ((0, .abs (pinA D A)) :: rest) m fx post := by
  refine ⟨trivial, fun ρ F w hh hrob => ?_⟩
  have hD : ρ 0 = D := (hh.obj ρ (Ag.refl _ _) 0 _ (List.mem_cons_self ..)).1
  have h1 := T.run ρ F w hh (fun ρ' hr => by rw [ha ρ hD, ha ρ' (by rw [hr 0 hm]; exact hD)]; exact hrob ρ' hr)
  rw [ha ρ hD] at h1
  exact h1
/-- An own row is told by a fact from here on; its names in the others, and in the arguments, become its place. -/
theorem Tri.shareT {P : Program} {n : Nat} {args : List SV} {H : List (Nat × SObj)} {nx : Nat} {FX : List Fact} {post : SV → List (Nat × SObj) → Nat → List Fact → Prop} {r : Nat} {ob : SObj} {xs : List Value} {T : TypeId} (hr : (r, ob) ∈ H)
    (hrow : ∀ ρ w b F, ObjOk ρ ob w b F → (∀ k, F k ↔ k = b) ∧ CellsAt w b xs T)
    (h : ∀ b, ∃ H', (∀ j o', (j, o') ∈ H' → j ≠ r ∧ ∃ o, (j, o) ∈ H ∧ o' = subO r b o) ∧ Tri P n (subL r b args) H' nx (rowFact b xs T :: FX) post) : Tri P n args H nx FX post := by
  refine ⟨trivial, fun ρ F w hh hrob => ?_⟩
  have hlt := hh.shape.lt r _ hr
  have hrw := hrow ρ w _ _ (hh.obj ρ (Ag.refl _ _) r _ hr)
  obtain ⟨H', hhp, hT⟩ := h (ρ r)
  have own : ∀ k, Own H' F k → Own H F k := by
    rintro k ⟨j, o', hm, hk⟩
    obtain ⟨_, o, h1, _⟩ := hhp j o' hm
    exact ⟨j, o, h1, hk⟩
  have notown : ∀ k, Own H' F k → k ≠ ρ r := by
    rintro k ⟨j, o', hm, hk⟩ e
    obtain ⟨h1, o, h2, _⟩ := hhp j o' hm
    exact hh.shape.dis j o r _ h2 hr h1 k hk (by rw [e]; exact (hrw.1 _).2 rfl)
  have hown : Own H F (ρ r) := ⟨r, _, hr, (hrw.1 _).2 rfl⟩
  have hh' : HpOk ρ F H' nx (rowFact (ρ r) xs T :: FX) w := by
    refine ⟨fun ρ' ha j o' hm => ?_, fun j o' hm => ?_, fun j o j' o' hm hm' hne => ?_, fun j o' hm => ?_, fun f hf => ?_⟩
    · obtain ⟨_, o, h1, rfl⟩ := hhp j o' hm
      exact objOk_sub (ha r hlt) o (hh.obj ρ' ha j o h1)
    · obtain ⟨_, o, h1, rfl⟩ := hhp j o' hm
      exact hh.shape.lt j o h1
    · obtain ⟨_, o1, h1, _⟩ := hhp j o hm
      obtain ⟨_, o2, h2, _⟩ := hhp j' o' hm'
      exact hh.shape.dis j o1 j' o2 h1 h2 hne
    · obtain ⟨_, o, h1, _⟩ := hhp j o' hm
      exact hh.shape.bnd j o h1
    · rcases List.mem_cons.1 hf with rfl | hf
      · exact ⟨hrw.2, fun k hk => ⟨fun ho => notown k ho hk, hh.shape.bnd r _ hr k ((hrw.1 k).2 hk)⟩⟩
      · have := hh.shape.fact f hf
        exact ⟨this.1, fun k hk => ⟨fun ho => (this.2 k hk).1 (own k ho), (this.2 k hk).2⟩⟩
  have h1 := hT.run ρ F w hh' (fun ρ' ha => by rw [denL_sub rfl, denL_sub (ha r hlt)]; exact hrob ρ' ha)
  rw [denL_sub rfl] at h1
  refine h1.mono fun e w' ⟨y, hp', m', fx', ρ', F', hp, he, hy, hh1, hag, hm, hk, ho, hf⟩ => ?_
  refine ⟨y, hp', m', fx', ρ', F', hp, he, hy, hh1, hag, hm, hk.mono own, fun k hk' => (ho k hk').imp (own k) id, fun f hf' => ?_⟩
  rcases hf f hf' with h2 | h2
  · rcases List.mem_cons.1 h2 with rfl | h2
    · exact .inr fun k hk => .inl (by have : k = ρ r := hk; rw [this]; exact hown)
    · exact .inl h2
  · exact .inr fun k hk => (h2 k hk).imp (own k) id
def shareTK (P : Program) (n r : Nat) (args : List SV) (H : List (Nat × SObj)) (nx : Nat) (FX : List Fact) (post : SV → List (Nat × SObj) → Nat → List Fact → Prop) : Prop :=
  objK r H fun ob => rowOfK ob fun xs T => ∀ b : Nat, subLK r b args fun args => subHK r b H fun H => Tri P n args H nx (rowFact b xs T :: FX) post
theorem Tri.shareK {P : Program} {n : Nat} {args : List SV} {H : List (Nat × SObj)} {nx : Nat} {FX : List Fact} {post : SV → List (Nat × SObj) → Nat → List Fact → Prop} (r : Nat) (h : shareTK P n r args H nx FX post) : Tri P n args H nx FX post := by
  obtain ⟨ob, h1, h2⟩ := objK_elim h
  obtain ⟨xs, T, h3, h4⟩ := rowOfK_elim h2
  refine Tri.shareT h1 h4 fun b => ?_
  obtain ⟨H', h5, h6⟩ := subHK_elim (subLK_elim (h3 b))
  exact ⟨H', h6, h5⟩
end Go.Proofs.Ytekgjjanikicnaa.Sx
