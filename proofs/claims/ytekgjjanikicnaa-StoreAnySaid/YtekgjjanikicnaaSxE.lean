/- A symbolic executor for the model's code, part 14: regions lent as facts, shared, told in parts and folded again. -/
import Derived.Test.YtekgjjanikicnaaSxD
import Derived.LoopN
namespace Go.Proofs.Ytekgjjanikicnaa.Sx
open Go Go.Proofs.YtekgjjanikicnaaW.PrintLast
set_option linter.unusedVariables false
set_option linter.unusedSimpArgs false

/-! ### Lending -/
/-- No region goes by that name. -/
def noKey (r : Nat) : List (Nat × SObj) → Bool
  | [] => true
  | (r', _) :: l => !(Nat.beq r r') && noKey r l
theorem noKey_mem {r : Nat} : ∀ {l : List (Nat × SObj)}, noKey r l = true → ∀ o, (r, o) ∉ l
  | [], _, o, h => by cases h
  | (r', x) :: l, hk, o, h => by
    simp only [noKey, Bool.and_eq_true, Bool.not_eq_true'] at hk
    rcases List.mem_cons.1 h with e | h
    · cases e; simp at hk
    · exact noKey_mem hk.2 o h
theorem rowFact_FC {b : Nat} {xs : List Value} {T : TypeId} {fx : List Fact} (h : rowFact b xs T ∈ fx) {j : Nat} {y : Value} (hj : xs[j]? = some y) : FC fx ⟨b, j, none⟩ y :=
  ⟨_, h, fun w hw => by rw [CellsAt.cell hw, hj]⟩
theorem remH_mem {r : Nat} : ∀ {l : List (Nat × SObj)} {r' : Nat} {o : SObj}, (r', o) ∈ restH [r] l → r' ≠ r ∧ (r', o) ∈ l := by
  intro l r' o h
  have := restH_mem h
  exact ⟨fun e => this.2 (by simp [e]), this.1⟩
/-- It is a row of cells that hang on no names. -/
def rowOf (o : SObj) (xs : List Value) (T : TypeId) : Prop := ∀ ρ w b F, ObjOk ρ o w b F → (∀ k, F k ↔ k = b) ∧ CellsAt w b xs T
theorem rowOf.row {xs : List Value} {T : TypeId} : rowOf (.row xs T) xs T := fun _ _ _ _ h => h
theorem rowOf.cells {cs : List SV} {xs : List Value} {T : TypeId} (h : ∀ ρ, denL ρ cs = xs) : rowOf (.cells cs T) xs T := fun ρ w b F ho => ⟨ho.1, by rw [← h ρ]; exact ho.2⟩
/-- A region of the caller's is read by the call alone. -/
theorem Tri.lend {P : Program} {n : Nat} {args' : List SV} {H : List (Nat × SObj)} {nx : Nat} {FX : List Fact} {post' : SV → List (Nat × SObj) → Nat → List Fact → Prop}
    (r : Nat) {xs : List Value} {T : TypeId} (args : Nat → List SV) {o0 : SObj} (hr : (r, o0) ∈ H) (hro : rowOf o0 xs T) (hargs : ∀ ρ, denL ρ (args (ρ r)) = denL ρ args')
    (h : ∀ b, Tri P n (args b) (restH [r] H) nx (rowFact b xs T :: FX) (fun y h m fx' => noKey r h = true ∧ post' y ((r, .row xs T) :: h) m FX)) : Tri P n args' H nx FX post' := by
  refine ⟨(h 0).enter, fun ρ F w hh hrob => ?_⟩
  have hrow := hro _ _ _ _ (hh.obj ρ (Ag.refl _ _) r _ hr)
  have hlt := hh.shape.lt r _ hr
  have sub : ∀ e, e ∈ restH [r] H → e ∈ H := fun e he => (restH_mem he).1
  have notown : ∀ k, Own (restH [r] H) F k → k ≠ ρ r := by
    rintro k ⟨j, o, hm, hk⟩ e
    obtain ⟨h1, h2⟩ := remH_mem hm
    exact hh.shape.dis j o r _ h2 hr h1 k hk (by rw [e]; exact (hrow.1 _).2 rfl)
  have hh' : HpOk ρ F (restH [r] H) nx (rowFact (ρ r) xs T :: FX) w := by
    refine ⟨fun ρ' ha j o hm => hh.obj ρ' ha j o (sub _ hm), fun j o hm => hh.shape.lt j o (sub _ hm), fun j o j' o' hm hm' => hh.shape.dis j o j' o' (sub _ hm) (sub _ hm'), fun j o hm => hh.shape.bnd j o (sub _ hm), fun f hf => ?_⟩
    rcases List.mem_cons.1 hf with rfl | hf
    · refine ⟨hrow.2, fun k hk => ⟨fun ho => notown k ho hk, ?_⟩⟩
      exact hh.shape.bnd r _ hr k ((hrow.1 k).2 hk)
    · have := hh.shape.fact f hf
      exact ⟨this.1, fun k hk => ⟨fun ho => (this.2 k hk).1 (ho.mono sub), (this.2 k hk).2⟩⟩
  have hc := (h (ρ r)).run ρ F w hh' (fun ρ' ha => by
    have e1 := hargs ρ'
    rw [ha r hlt] at e1
    rw [e1, hargs ρ]
    exact hrob ρ' ha)
  rw [hargs ρ] at hc
  refine hc.mono fun e w' ⟨y, h', m', fx', ρ', F', ⟨hno, hp⟩, he, hy, hh1, hag, hm, hk, ho, hf⟩ => ?_
  have hb' : ρ' r = ρ r := hag r hlt
  have hne : ∀ j o, (j, o) ∈ h' → j ≠ r := fun j o hm e => by subst e; exact noKey_mem hno o hm
  have hb : ρ r < w.heap.size := hh.shape.bnd r _ hr _ ((hrow.1 _).2 rfl)
  have own1 : ∀ k, Own h' F' k → k ≠ ρ r := fun k hk' e => by
    rcases ho k hk' with h1 | h1
    · exact notown k h1 e
    · omega
  have ex : ∀ k, Own ((r, SObj.row xs T) :: h') (updR F' r (fun k => k = ρ r)) k → Own h' F' k ∨ k = ρ r := by
    rintro k ⟨j, o, hm, hk'⟩
    rcases List.mem_cons.1 hm with e | hm
    · cases e; rw [updR_same] at hk'; exact .inr hk'
    · rw [updR_ne _ _ (hne j o hm)] at hk'; exact .inl ⟨j, o, hm, hk'⟩
  refine ⟨y, _, m', FX, ρ', updR F' r (fun k => k = ρ r), hp, he, hy, ⟨fun ρ'' ha j o hm => ?_, fun j o hm => ?_, fun j o j' o' hm hm' hd k hk1 hk2 => ?_, fun j o hm k hk1 => ?_, fun f hf => ?_⟩, hag, hm, hk.mono fun k hk => hk.mono sub, fun k hk' => ?_, fun f hf => .inl hf⟩
  · rcases List.mem_cons.1 hm with e | hm
    · cases e
      rw [updR_same, ha r (by omega), hb']
      exact ⟨fun k => Iff.rfl, hrow.2.loc (hk.block _ hb fun hu => notown _ hu rfl)⟩
    · rw [updR_ne _ _ (hne j o hm)]
      exact hh1.obj ρ'' ha j o hm
  · rcases List.mem_cons.1 hm with e | hm
    · cases e; omega
    · exact hh1.shape.lt j o hm
  · rcases List.mem_cons.1 hm with e | hm <;> rcases List.mem_cons.1 hm' with e' | hm'
    · cases e; cases e'; exact absurd rfl hd
    · cases e; rw [updR_same] at hk1; rw [updR_ne _ _ (hne j' o' hm')] at hk2
      exact own1 k ⟨j', o', hm', hk2⟩ hk1
    · cases e'; rw [updR_same] at hk2; rw [updR_ne _ _ (hne j o hm)] at hk1
      exact own1 k ⟨j, o, hm, hk1⟩ hk2
    · rw [updR_ne _ _ (hne j o hm)] at hk1; rw [updR_ne _ _ (hne j' o' hm')] at hk2
      exact hh1.shape.dis j o j' o' hm hm' hd k hk1 hk2
  · have := hk.size
    rcases List.mem_cons.1 hm with e | hm
    · cases e; rw [updR_same] at hk1; omega
    · rw [updR_ne _ _ (hne j o hm)] at hk1; exact hh1.shape.bnd j o hm k hk1
  · have h1 := hh.shape.fact f hf
    have h2 := f.mono h1 (hk.mono fun k hk => hk.mono sub) (fun k hk' => by
      show Own H F k ∨ w.heap.size ≤ k
      rcases ex k hk' with h3 | h3
      · exact (ho k h3).imp (fun h4 => h4.mono sub) id
      · exact .inl ⟨r, _, hr, by rw [h3]; exact (hrow.1 _).2 rfl⟩)
    exact h2
  · rcases ex k hk' with h3 | h3
    · exact (ho k h3).imp (fun h4 => h4.mono sub) id
    · exact .inl ⟨r, _, hr, by rw [h3]; exact (hrow.1 _).2 rfl⟩

/-! ### Sharing -/
/-- A region that a call hands back is never written again: it is told by a fact. -/
theorem Tri.share2 {P : Program} {n : Nat} {args : List SV} {hp : List (Nat × SObj)} {m : Nat} {fx : List Fact} {post post' : SV → List (Nat × SObj) → Nat → List Fact → Prop} (T : Tri P n args hp m fx post)
    (hpost : ∀ y h m' f1, post y h m' f1 → post' y h m' f1 ∨ ∃ r xs T, (r, .row xs T) ∈ h ∧ ∀ b, ∃ y', (∀ ρ, ρ r = b → den ρ y' = den ρ y) ∧ post' y' (restH [r] h) m' (rowFact b xs T :: f1)) : Tri P n args hp m fx post' := by
  refine ⟨T.enter, fun ρ F w hh hrob => (T.run ρ F w hh hrob).mono fun e w' ⟨y, h', m', fx', ρ', F', hp, he, hy, hh1, hag, hm, hk, ho, hf⟩ => ?_⟩
  rcases hpost _ _ _ _ hp with h0 | ⟨r, xs, T, hr, h2⟩
  · exact ⟨y, h', m', fx', ρ', F', h0, he, hy, hh1, hag, hm, hk, ho, hf⟩
  obtain ⟨y', h3, h4⟩ := h2 (ρ' r)
  have hrow := hh1.obj ρ' (Ag.refl _ _) r _ hr
  have hlt := hh1.shape.lt r _ hr
  have sub : ∀ e, e ∈ restH [r] h' → e ∈ h' := fun e he => (restH_mem he).1
  have notown : ∀ k, Own (restH [r] h') F' k → k ≠ ρ' r := by
    rintro k ⟨j, o, hm, hk⟩ e
    obtain ⟨h1, h2⟩ := remH_mem hm
    exact hh1.shape.dis j o r _ h2 hr h1 k hk (by rw [e]; exact (hrow.1 _).2 rfl)
  refine ⟨y', _, m', _, ρ', F', h4, by rw [h3 ρ' rfl]; exact he, fun ρ'' ha => by rw [h3 ρ'' (ha r hlt), h3 ρ' rfl]; exact hy ρ'' ha,
    ⟨fun ρ'' ha j o hm => hh1.obj ρ'' ha j o (sub _ hm), fun j o hm => hh1.shape.lt j o (sub _ hm), fun j o j' o' hm hm' => hh1.shape.dis j o j' o' (sub _ hm) (sub _ hm'), fun j o hm => hh1.shape.bnd j o (sub _ hm), fun f hf => ?_⟩,
    hag, hm, hk, fun k hk' => ho k (hk'.mono sub), fun f hf' => ?_⟩
  · rcases List.mem_cons.1 hf with rfl | hf
    · exact ⟨hrow.2, fun k hk => ⟨fun ho => notown k ho hk, hh1.shape.bnd r _ hr k ((hrow.1 k).2 hk)⟩⟩
    · have := hh1.shape.fact f hf
      exact ⟨this.1, fun k hk => ⟨fun ho => (this.2 k hk).1 (ho.mono sub), (this.2 k hk).2⟩⟩
  · rcases List.mem_cons.1 hf' with rfl | hf'
    · exact .inr fun k hk => ho k ⟨r, _, hr, (hrow.1 k).2 hk⟩
    · exact hf f hf'
theorem Tri.share {P : Program} {n : Nat} {args : List SV} {hp : List (Nat × SObj)} {m : Nat} {fx : List Fact} {post post' : SV → List (Nat × SObj) → Nat → List Fact → Prop} (T : Tri P n args hp m fx post)
    (hpost : ∀ y h m' f1, post y h m' f1 → ∃ r xs T, (r, .row xs T) ∈ h ∧ ∀ b, ∃ y', (∀ ρ, ρ r = b → den ρ y' = den ρ y) ∧ post' y' (restH [r] h) m' (rowFact b xs T :: f1)) : Tri P n args hp m fx post' :=
  T.share2 fun y h m' f1 hp => .inr (hpost y h m' f1 hp)

/-! ### Regions told in parts -/
/-- The regions h are as good as the regions h2. -/
def Fold (h h2 : List (Nat × SObj)) : Prop := ∀ ρ F m fx w, HpOk ρ F h m fx w → ∃ F2, HpOk ρ F2 h2 m fx w ∧ ∀ k, Own h2 F2 k → Own h F k
theorem Fold.refl (h : List (Nat × SObj)) : Fold h h := fun ρ F m fx w hh => ⟨F, hh, fun _ hk => hk⟩
theorem Fold.trans {a b c : List (Nat × SObj)} (h : Fold a b) (k : Fold b c) : Fold a c := fun ρ F m fx w hh => by
  obtain ⟨F1, h1, h2⟩ := h ρ F m fx w hh
  obtain ⟨F2, h3, h4⟩ := k ρ F1 m fx w h1
  exact ⟨F2, h3, fun k hk => h2 k (h4 k hk)⟩
/-- Regions that nobody needs any more. -/
theorem Fold.drop {h h2 : List (Nat × SObj)} (hs : ∀ e, e ∈ h2 → e ∈ h) : Fold h h2 := fun ρ F m fx w hh => ⟨F, ⟨fun ρ' ha j o hm => hh.obj ρ' ha j o (hs _ hm), fun j o hm => hh.shape.lt j o (hs _ hm),
    fun j o j' o' hm hm' => hh.shape.dis j o j' o' (hs _ hm) (hs _ hm'), fun j o hm => hh.shape.bnd j o (hs _ hm), fun f hf => ⟨(hh.shape.fact f hf).1, fun k hk => ⟨fun ho => ((hh.shape.fact f hf).2 k hk).1 (ho.mono hs), ((hh.shape.fact f hf).2 k hk).2⟩⟩⟩, fun k hk => hk.mono hs⟩
/-- Some regions (those of L; the first is r) are told as one. -/
theorem Fold.abs {A : AR} {r : Nat} {L h : List (Nat × SObj)} (hL : ∀ e, e ∈ L → e ∈ h) (hr : r ∈ L.map (·.1))
    (hc : ∀ ρ F m w, HpOk ρ F L m [] w → A.A w (ρ r) (fun k => Own L F k)) : Fold h ((r, .abs A) :: restH (L.map (·.1)) h) := fun ρ F m fx w hh => by
  have hsub : ∀ e, e ∈ restH (L.map (·.1)) h → e ∈ h := fun e he => (restH_mem he).1
  have hne : ∀ j o, (j, o) ∈ restH (L.map (·.1)) h → j ≠ r := fun j o hm e => (restH_mem hm).2 (by subst e; exact hr)
  have ownL : ∀ k, Own L F k → Own h F k := fun k hk => hk.mono hL
  have disL : ∀ j o, (j, o) ∈ restH (L.map (·.1)) h → ∀ k, F j k → ¬ Own L F k := by
    rintro j o hm k hk ⟨i, x, hi, hx⟩
    obtain ⟨h1, h2⟩ := restH_mem hm
    exact hh.shape.dis j o i x h1 (hL _ hi) (fun e => h2 (by subst e; exact List.mem_map.2 ⟨_, hi, rfl⟩)) k hk hx
  obtain ⟨⟨i0, o0⟩, hi0, e0⟩ := List.mem_map.1 hr
  simp only at e0; subst e0
  have own2 : ∀ k, Own ((i0, SObj.abs A) :: restH (L.map (·.1)) h) (updR F i0 fun k => Own L F k) k → Own h F k := by
    rintro k ⟨j, o, hm, hk⟩
    rcases List.mem_cons.1 hm with e | hm
    · cases e; rw [updR_same] at hk; exact ownL k hk
    · rw [updR_ne _ _ (hne j o hm)] at hk; exact ⟨j, o, hsub _ hm, hk⟩
  refine ⟨updR F i0 (fun k => Own L F k), ⟨fun ρ' ha j o hm => ?_, fun j o hm => ?_, fun j o j' o' hm hm' hd k hk1 hk2 => ?_, fun j o hm k hk1 => ?_, fun f hf => ?_⟩, own2⟩
  · rcases List.mem_cons.1 hm with e | hm
    · cases e
      rw [updR_same]
      have hhL : HpOk ρ' F L m [] w := ⟨fun ρ'' ha' j o hm => hh.obj ρ'' (ha.trans ha' (Nat.le_refl _)) j o (hL _ hm), fun j o hm => hh.shape.lt j o (hL _ hm),
        fun j o j' o' hm hm' => hh.shape.dis j o j' o' (hL _ hm) (hL _ hm'), fun j o hm => hh.shape.bnd j o (hL _ hm), fun f hf => by cases hf⟩
      exact hc ρ' F m w hhL
    · rw [updR_ne _ _ (hne j o hm)]; exact hh.obj ρ' ha j o (hsub _ hm)
  · rcases List.mem_cons.1 hm with e | hm
    · cases e; exact hh.shape.lt _ _ (hL _ hi0)
    · exact hh.shape.lt j o (hsub _ hm)
  · rcases List.mem_cons.1 hm with e | hm <;> rcases List.mem_cons.1 hm' with e' | hm'
    · cases e; cases e'; exact absurd rfl hd
    · cases e; rw [updR_same] at hk1; rw [updR_ne _ _ (hne j' o' hm')] at hk2
      exact disL j' o' hm' k hk2 hk1
    · cases e'; rw [updR_same] at hk2; rw [updR_ne _ _ (hne j o hm)] at hk1
      exact disL j o hm k hk1 hk2
    · rw [updR_ne _ _ (hne j o hm)] at hk1; rw [updR_ne _ _ (hne j' o' hm')] at hk2
      exact hh.shape.dis j o j' o' (hsub _ hm) (hsub _ hm') hd k hk1 hk2
  · rcases List.mem_cons.1 hm with e | hm
    · cases e; rw [updR_same] at hk1
      obtain ⟨i, x, hi, hx⟩ := hk1
      exact hh.shape.bnd i x (hL _ hi) k hx
    · rw [updR_ne _ _ (hne j o hm)] at hk1; exact hh.shape.bnd j o (hsub _ hm) k hk1
  · have := hh.shape.fact f hf
    exact ⟨this.1, fun k hk => ⟨fun ho => (this.2 k hk).1 (own2 k ho), (this.2 k hk).2⟩⟩
/-- What a call leaves, folded. -/
theorem Tri.close {P : Program} {n : Nat} {args : List SV} {hp : List (Nat × SObj)} {m : Nat} {fx : List Fact} {post post' : SV → List (Nat × SObj) → Nat → List Fact → Prop} (T : Tri P n args hp m fx post)
    (hpost : ∀ y h m' f1, post y h m' f1 → ∃ h2, Fold h h2 ∧ post' y h2 m' f1) : Tri P n args hp m fx post' :=
  ⟨T.enter, fun ρ F w hh hrob => (T.run ρ F w hh hrob).mono fun e w' ⟨y, h', m', fx', ρ', F', hp, he, hy, hh1, hag, hm, hk, ho, hf⟩ => by
    obtain ⟨h2, h3, h4⟩ := hpost _ _ _ _ hp
    obtain ⟨F2, h5, h6⟩ := h3 _ _ _ _ _ hh1
    exact ⟨y, h2, m', fx', ρ', F2, h4, he, hy, h5, hag, hm, hk, fun k hk' => ho k (h6 k hk'), hf⟩⟩
/-- What a call finds, folded. -/
theorem Tri.pre {P : Program} {n : Nat} {args : List SV} {hp h2 : List (Nat × SObj)} {m : Nat} {fx : List Fact} {post : SV → List (Nat × SObj) → Nat → List Fact → Prop} (T : Tri P n args h2 m fx post) (hf : Fold hp h2) : Tri P n args hp m fx post :=
  ⟨T.enter, fun ρ F w hh hrob => by
    obtain ⟨F2, h5, h6⟩ := hf _ _ _ _ _ hh
    refine (T.run ρ F2 w h5 hrob).mono fun e w' ⟨y, h', m', fx', ρ', F', hp, he, hy, hh1, hag, hm, hk, ho, hf⟩ => ?_
    exact ⟨y, h', m', fx', ρ', F', hp, he, hy, hh1, hag, hm, hk.mono h6, fun k hk' => (ho k hk').imp (h6 k) id, fun f hf' => (hf f hf').imp id fun h1 k hk' => (h1 k hk').imp (h6 k) id⟩⟩
/-- One region, told in parts: whatever the parts are, the call does it. -/
structure Told (A : AR) {ι : Type} (L : ι → Nat → Nat → List (Nat × SObj)) (p : Nat) : Prop where
  out : ∀ ρ (r m : Nat) (w : World) (F : Nat → Prop), r < m → A.A w (ρ r) F → (∀ k, F k → k < w.heap.size) → ∃ (i : ι) (ρ2 : Nat → Nat) (F2 : Nat → Nat → Prop), Ag m ρ ρ2 ∧
    (∀ ρ3, Ag (m + p) ρ2 ρ3 → ∀ j o, (j, o) ∈ L i r m → ObjOk ρ3 o w (ρ3 j) (F2 j)) ∧ (∀ j o, (j, o) ∈ L i r m → j = r ∨ (m ≤ j ∧ j < m + p)) ∧
    (∀ j o j' o', (j, o) ∈ L i r m → (j', o') ∈ L i r m → j ≠ j' → ∀ k, F2 j k → ¬ F2 j' k) ∧ ∀ k, Own (L i r m) F2 k → F k
theorem Tri.toldE {P : Program} {n : Nat} {args : List SV} {hp : List (Nat × SObj)} {m : Nat} {fx : List Fact} {post : SV → List (Nat × SObj) → Nat → List Fact → Prop} {A : AR} {ι : Type} {L : ι → Nat → Nat → List (Nat × SObj)} {p : Nat} (hA : Told A L p) (hen : True)
    (r : Nat) (hr : (r, .abs A) ∈ hp) (h : ∀ i, Tri P n args (L i r m ++ restH [r] hp) (m + p) fx (fun y h m1 f => post y h m1 f)) : Tri P n args hp m fx post := by
  refine ⟨hen, fun ρ F w hh hrob => ?_⟩
  have hobj := hh.obj ρ (Ag.refl _ _) r _ hr
  have hlt := hh.shape.lt r _ hr
  obtain ⟨i, ρ2, F2, ag, ho, hk, hd, hF⟩ := hA.out ρ r m w (F r) hlt hobj (fun k hk => hh.shape.bnd r _ hr k hk)
  have rest : ∀ j o, (j, o) ∈ restH [r] hp → j ≠ r ∧ (j, o) ∈ hp := fun j o hm => remH_mem hm
  let F3 : Nat → Nat → Prop := fun j => if j = r ∨ m ≤ j then F2 j else F j
  have f3L : ∀ j o, (j, o) ∈ L i r m → F3 j = F2 j := fun j o hm => if_pos ((hk j o hm).imp id fun h => h.1)
  have f3R : ∀ j o, (j, o) ∈ restH [r] hp → F3 j = F j := fun j o hm => if_neg fun e => by
    have h1 := rest j o hm
    have := hh.shape.lt j o h1.2
    rcases e with e | e
    · exact h1.1 e
    · omega
  have disR : ∀ j o j' o', (j, o) ∈ L i r m → (j', o') ∈ restH [r] hp → ∀ k, F2 j k → ¬ F j' k := by
    intro j o j' o' hm hm' k h1 h2
    obtain ⟨h3, h4⟩ := rest j' o' hm'
    exact hh.shape.dis r _ j' o' hr h4 (Ne.symm h3) k (hF k ⟨j, o, hm, h1⟩) h2
  have own3 : ∀ k, Own (L i r m ++ restH [r] hp) F3 k → Own hp F k := by
    rintro k ⟨j, o, hm, hk'⟩
    rcases List.mem_append.1 hm with hm | hm
    · rw [f3L j o hm] at hk'
      exact ⟨r, _, hr, hF k ⟨j, o, hm, hk'⟩⟩
    · rw [f3R j o hm] at hk'
      exact ⟨j, o, (rest j o hm).2, hk'⟩
  have hh3 : HpOk ρ2 F3 (L i r m ++ restH [r] hp) (m + p) fx w := by
    refine ⟨fun ρ3 ha j o hm => ?_, fun j o hm => ?_, fun j o j' o' hm hm' hne k hk1 hk2 => ?_, fun j o hm k hk1 => ?_, fun f hf => ?_⟩
    · rcases List.mem_append.1 hm with hm | hm
      · rw [f3L j o hm]; exact ho ρ3 ha j o hm
      · rw [f3R j o hm]; exact hh.obj ρ3 (ag.trans (ha.mono (Nat.le_add_right _ _)) (Nat.le_refl _)) j o (rest j o hm).2
    · rcases List.mem_append.1 hm with hm | hm
      · rcases hk j o hm with e | e
        · omega
        · exact e.2
      · have := hh.shape.lt j o (rest j o hm).2; omega
    · rcases List.mem_append.1 hm with hm | hm <;> rcases List.mem_append.1 hm' with hm' | hm'
      · rw [f3L j o hm] at hk1; rw [f3L j' o' hm'] at hk2; exact hd j o j' o' hm hm' hne k hk1 hk2
      · rw [f3L j o hm] at hk1; rw [f3R j' o' hm'] at hk2; exact disR j o j' o' hm hm' k hk1 hk2
      · rw [f3R j o hm] at hk1; rw [f3L j' o' hm'] at hk2; exact disR j' o' j o hm' hm k hk2 hk1
      · rw [f3R j o hm] at hk1; rw [f3R j' o' hm'] at hk2
        exact hh.shape.dis j o j' o' (rest j o hm).2 (rest j' o' hm').2 hne k hk1 hk2
    · rcases List.mem_append.1 hm with hm | hm
      · rw [f3L j o hm] at hk1; exact hh.shape.bnd r _ hr k (hF k ⟨j, o, hm, hk1⟩)
      · rw [f3R j o hm] at hk1; exact hh.shape.bnd j o (rest j o hm).2 k hk1
    · have := hh.shape.fact f hf
      exact ⟨this.1, fun k hk => ⟨fun ho => (this.2 k hk).1 (own3 k ho), (this.2 k hk).2⟩⟩
  have hc := (h i).run ρ2 F3 w hh3 (fun ρ' ha => by
    rw [hrob ρ' (ag.trans (ha.mono (Nat.le_add_right _ _)) (Nat.le_refl _)), hrob ρ2 ag])
  rw [hrob ρ2 ag] at hc
  refine hc.mono fun e w' ⟨y, h', m', fx', ρ', F', hp, he, hy, hh1, hag, hm, hk, ho, hf⟩ => ?_
  exact ⟨y, h', m', fx', ρ', F', hp, he, hy, hh1, ag.trans (hag.mono (Nat.le_add_right _ _)) (Nat.le_refl _), by omega, hk.mono own3, fun k hk' => (ho k hk').imp (own3 k) id, fun f hf' => (hf f hf').imp id fun h1 k hk' => (h1 k hk').imp (own3 k) id⟩
theorem Tri.told {P : Program} {n : Nat} {args : List SV} {hp : List (Nat × SObj)} {m : Nat} {fx : List Fact} {post : SV → List (Nat × SObj) → Nat → List Fact → Prop} {A : AR} {ι : Type} {L : ι → Nat → Nat → List (Nat × SObj)} {p : Nat} (hA : Told A L p) (i0 : ι)
    (r : Nat) (hr : (r, .abs A) ∈ hp) (h : ∀ i, Tri P n args (L i r m ++ restH [r] hp) (m + p) fx (fun y h m1 f => post y h m1 f)) : Tri P n args hp m fx post :=
  Tri.toldE hA (h i0).enter r hr h

/-! ### Loops whose invariant is reached by folding -/
theorem Fold.ok {h h2 : List (Nat × SObj)} (hf : Fold h h2) {B : Bs} {ρ F} {sl : List (Nat × SV)} {nx : Nat} {fx : List Fact} {sz a w} (ho : OkAt B ρ F ⟨sl, h, nx, fx⟩ sz a w) : ∃ F2, OkAt B ρ F2 ⟨sl, h2, nx, fx⟩ sz a w := by
  obtain ⟨F2, h1, h2⟩ := hf _ _ _ _ _ ho.heap
  exact ⟨F2, ho.slot, h1, ho.size, ho.base, ho.n0, ho.keeps, fun k hk => ho.own k (h2 k hk), ho.facts, ho.defers⟩
def FSub (n0 : Nat) (σ : List Nat) (h2 : List (Nat × SObj)) (st st' : SS) : Prop := Fold st.hp h2 ∧ Sub n0 σ ⟨st.sl, h2, st.nx, st.fx⟩ st'
theorem FSub.ok {n0 : Nat} {σ : List Nat} {h2 : List (Nat × SObj)} {st st' : SS} (h : FSub n0 σ h2 st st') {B : Bs} {ρ F sz a w} (hn : B.n0 = n0) (ho : OkAt B ρ F st sz a w) : ∃ ρ' F', OkAt B ρ' F' st' sz a w := by
  obtain ⟨F2, h1⟩ := Fold.ok h.1 (sl := st.sl) (nx := st.nx) (fx := st.fx) ho
  exact h.2.ok hn h1
/-- A loop that ends within n rounds: each walked as it stands. -/
structure RoundVC (P : Program) (sz n0 n : Nat) (body : Code) (st : SS) (K : Exit → SS → Prop) : Prop where
  out : ∀ (B : Bs) ρ F a w, B.n0 = n0 → OkAt B ρ F st sz a w → Code.rounds P body (Lift B sz K) n a w
theorem loop_rounds {P : Program} {sz n0 : Nat} {body : Code} {st : SS} {K : Exit → SS → Prop} (n : Nat) (h : RoundVC P sz n0 n body st K) : LoopVC P sz n0 body st K :=
  ⟨fun B ρ F a w hn ho => wp_loop_rounds n (h.out B ρ F a w hn ho)⟩
theorem round_next {P : Program} {tt : List (Option TI)} (ht : TOk P tt) {sz n0 n : Nat} {body : Code} {st : SS} {K : Exit → SS → Prop} (h : codeK P tt sz n0 body st fun e st => match e with | .normal => RoundVC P sz n0 n body st K | e => K e st) : RoundVC P sz n0 (n + 1) body st K := by
  refine ⟨fun B ρ F a w hn ho => ?_⟩
  rw [rounds_succ]
  refine wp_mono (codeK_sound ht h hn ho) fun e a' w' hq => ?_
  obtain ⟨st', ρ', F', h1, h2⟩ := hq
  cases e with
  | normal => exact h1.out B ρ' F' a' w' hn h2
  | exit id => exact ⟨st', ρ', F', h1, h2⟩
  | goto l => exact ⟨st', ρ', F', h1, h2⟩
  | ret => exact ⟨st', ρ', F', h1, h2⟩
  | panic c => exact ⟨st', ρ', F', h1, h2⟩
  | outgrown => exact ⟨st', ρ', F', h1, h2⟩
/-- A loop by an invariant with a side condition, reached as it stands. -/
theorem loop_by {P : Program} {tt : List (Option TI)} (ht : TOk P tt) {sz n0 : Nat} {body : Code} {st : SS} {K : Exit → SS → Prop} {α : Type} (Inv : α → SS) (Pr : α → Prop) (μ : α → Nat) (x0 : α) (σ : List Nat) (hp0 : Pr x0) (h0 : Sub n0 σ st (Inv x0))
    (hb : ∀ x, Pr x → codeK P tt sz n0 body (Inv x) fun e st => match e with | .normal => ∃ x' σ, (Pr x' ∧ μ x' < μ x) ∧ Sub n0 σ st (Inv x') | e => K e st) : LoopVC P sz n0 body st K := by
  refine ⟨fun B ρ F a w hn ho => ?_⟩
  obtain ⟨ρ1, F1, ho1⟩ := h0.ok hn ho
  refine wp_loop_ghost (fun n a w => ∃ x ρ F, Pr x ∧ μ x = n ∧ OkAt B ρ F (Inv x) sz a w) (μ x0) ⟨x0, ρ1, F1, hp0, rfl, ho1⟩ ?_
  rintro n a w ⟨x, ρ, F, hx, rfl, ho⟩
  refine wp_mono (codeK_sound ht (hb x hx) hn ho) fun e a' w' hq => ?_
  obtain ⟨st', ρ', F', h1, h2⟩ := hq
  cases e with
  | normal =>
    obtain ⟨x', σ', ⟨hx', h3⟩, h4⟩ := h1
    obtain ⟨ρ2, F2, h5⟩ := h4.ok hn h2
    exact ⟨μ x', h3, x', ρ2, F2, hx', rfl, h5⟩
  | exit id => exact ⟨st', ρ', F', h1, h2⟩
  | goto l => exact ⟨st', ρ', F', h1, h2⟩
  | ret => exact ⟨st', ρ', F', h1, h2⟩
  | panic c => exact ⟨st', ρ', F', h1, h2⟩
  | outgrown => exact ⟨st', ρ', F', h1, h2⟩
/-- A loop by an invariant with a side condition, reached by folding. -/
theorem loop_fold {P : Program} {tt : List (Option TI)} (ht : TOk P tt) {sz n0 : Nat} {body : Code} {st : SS} {K : Exit → SS → Prop} {α : Type} (Inv : α → SS) (Pr : α → Prop) (μ : α → Nat) (x0 : α) (σ : List Nat) (h2 : List (Nat × SObj)) (hp0 : Pr x0) (h0 : FSub n0 σ h2 st (Inv x0))
    (hb : ∀ x, Pr x → codeK P tt sz n0 body (Inv x) fun e st => match e with | .normal => ∃ x' σ h2, (Pr x' ∧ μ x' < μ x) ∧ FSub n0 σ h2 st (Inv x') | e => K e st) : LoopVC P sz n0 body st K := by
  refine ⟨fun B ρ F a w hn ho => ?_⟩
  obtain ⟨ρ1, F1, ho1⟩ := h0.ok hn ho
  refine wp_loop_ghost (fun n a w => ∃ x ρ F, Pr x ∧ μ x = n ∧ OkAt B ρ F (Inv x) sz a w) (μ x0) ⟨x0, ρ1, F1, hp0, rfl, ho1⟩ ?_
  rintro n a w ⟨x, ρ, F, hx, rfl, ho⟩
  refine wp_mono (codeK_sound ht (hb x hx) hn ho) fun e a' w' hq => ?_
  obtain ⟨st', ρ', F', h1, h2⟩ := hq
  cases e with
  | normal =>
    obtain ⟨x', σ', h2', ⟨hx', h3⟩, h4⟩ := h1
    obtain ⟨ρ2, F2, h5⟩ := h4.ok hn h2
    exact ⟨μ x', h3, x', ρ2, F2, hx', rfl, h5⟩
  | exit id => exact ⟨st', ρ', F', h1, h2⟩
  | goto l => exact ⟨st', ρ', F', h1, h2⟩
  | ret => exact ⟨st', ρ', F', h1, h2⟩
  | panic c => exact ⟨st', ρ', F', h1, h2⟩
  | outgrown => exact ⟨st', ρ', F', h1, h2⟩
/-- A slice of bytes, told by facts. -/
def BytesAt (fx : List Fact) (A : Option Addr) (bs : List UInt8) : Prop := (A = none → bs = []) ∧ ∀ ad, A = some ad → ∀ j y, bs[j]? = some y → FC fx (ad.add j) (bv y)
theorem BytesAt.row {fx : List Fact} {b o : Nat} {xs : List Value} {T : TypeId} {bs : List UInt8} (h : rowFact b xs T ∈ fx) (hx : (xs.drop o).take bs.length = bs.map bv) : BytesAt fx (some ⟨b, o, none⟩) bs := by
  refine ⟨fun h => (by cases h), fun ad e j y hj => ?_⟩
  obtain rfl := Option.some.inj e
  rw [add_at]
  refine rowFact_FC h ?_
  have hl := (List.getElem?_eq_some_iff.1 hj).1
  have h1 : ((xs.drop o).take bs.length)[j]? = some (bv y) := by rw [hx, List.getElem?_map, hj]; rfl
  rwa [List.getElem?_take, if_pos hl, List.getElem?_drop] at h1
theorem BytesAt.rowAt {fx : List Fact} {A : Option Addr} {bs : List UInt8} (h : BytesAt fx A bs) : RowAt fx A (bs.map bv) :=
  ⟨fun e => by rw [h.1 e]; rfl, fun ad e j y hj => by
    rw [List.getElem?_map] at hj
    cases hb : bs[j]? with
    | none => rw [hb] at hj; cases hj
    | some c => rw [hb] at hj; cases hj; exact h.2 ad e j c hb⟩
theorem BytesAt.mono {fx fx' : List Fact} {A : Option Addr} {bs : List UInt8} (h : BytesAt fx A bs) (hf : ∀ f, f ∈ fx → f ∈ fx') : BytesAt fx' A bs :=
  ⟨h.1, fun ad e j y hj => by obtain ⟨f, h1, h2⟩ := h.2 ad e j y hj; exact ⟨f, hf f h1, h2⟩⟩
theorem BytesAt.take {fx : List Fact} {A : Option Addr} {bs : List UInt8} (h : BytesAt fx A bs) (n : Nat) : BytesAt fx A (bs.take n) :=
  ⟨fun e => by rw [h.1 e]; simp, fun ad e j y hj => h.2 ad e j y (by
    rw [List.getElem?_take] at hj
    split at hj
    · exact hj
    · cases hj)⟩
end Go.Proofs.Ytekgjjanikicnaa.Sx
