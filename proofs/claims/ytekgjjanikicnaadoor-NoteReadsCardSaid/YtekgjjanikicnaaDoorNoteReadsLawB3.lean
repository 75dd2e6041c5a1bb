/- Lemmas of this proof, part 3: 14 texts joined. -/
import Derived.Test.YtekgjjanikicnaaDoorNoteReadsLawB2
import Derived.LoopN
import Derived.ChangeSame
import Derived.ReadAgain
import Derived.OpenShut
import Derived.WalkKit
import Derived.ProofKit
import Derived.KernelRfl
import Derived.Test.YtekgjjanikicnaaDoorProg
import Derived.Shelf.Strconv.Itoa1
import Derived.Shelf.Strconv.Itoa2
import Derived.Shelf.Pu.ParseUintPublic10
import Derived.Lib.ParseIntBCases
import Derived.Lib.UnsafeStr
import Derived.Lib.Builder
import Derived.NoCompiler
import Derived.BigRegion
import Derived.Laws.Externs
namespace Go.Proofs.YtekgjjanikicnaaDoor.Sx
open Go Go.Proofs.YtekgjjanikicnaaDoorW.PrintLast
set_option linter.unusedVariables false
set_option linter.unusedSimpArgs false

/-! ### Lending -/
/-- No region goes by that name. -/
def noKey (r : Nat) : List (Nat × SObj) → Bool
  | [] => true
  | (r', _) :: l => !(Nat.beq r r') && noKey r l
theorem noKey_mem {r : Nat} : ∀ {l : List (Nat × SObj)}, noKey r l = true → ∀ o, (r, o) ∉ l
  | [], _, o, h => by cases h
  | (r', x) :: l, hk, o, h => by
    simp only [noKey, Bool.and_eq_true, Bool.not_eq_true'] at hk
    rcases List.mem_cons.1 h with e | h
    · cases e; simp at hk
    · exact noKey_mem hk.2 o h
theorem rowFact_FC {b : Nat} {xs : List Value} {T : TypeId} {fx : List Fact} (h : rowFact b xs T ∈ fx) {j : Nat} {y : Value} (hj : xs[j]? = some y) : FC fx ⟨b, j, none⟩ y :=
  ⟨_, h, fun w hw => by rw [CellsAt.cell hw, hj]⟩
theorem remH_mem {r : Nat} : ∀ {l : List (Nat × SObj)} {r' : Nat} {o : SObj}, (r', o) ∈ restH [r] l → r' ≠ r ∧ (r', o) ∈ l := by
  intro l r' o h
  have := restH_mem h
  exact ⟨fun e => this.2 (by simp [e]), this.1⟩
/-- It is a row of cells that hang on no names. -/
def rowOf (o : SObj) (xs : List Value) (T : TypeId) : Prop := ∀ ρ w b F, ObjOk ρ o w b F → (∀ k, F k ↔ k = b) ∧ CellsAt w b xs T
theorem rowOf.row {xs : List Value} {T : TypeId} : rowOf (.row xs T) xs T := fun _ _ _ _ h => h
theorem rowOf.cells {cs : List SV} {xs : List Value} {T : TypeId} (h : ∀ ρ, denL ρ cs = xs) : rowOf (.cells cs T) xs T := fun ρ w b F ho => ⟨ho.1, by rw [← h ρ]; exact ho.2⟩
/-- A region of the caller's is read by the call alone. -/
theorem Tri.lend {P : Program} {n : Nat} {args' : List SV} {H : List (Nat × SObj)} {nx : Nat} {FX : List Fact} {post' : SV → List (Nat × SObj) → Nat → List Fact → Prop}
    (r : Nat) {xs : List Value} {T : TypeId} (args : Nat → List SV) {o0 : SObj} (hr : (r, o0) ∈ H) (hro : rowOf o0 xs T) (hargs : ∀ ρ, denL ρ (args (ρ r)) = denL ρ args')
    (h : ∀ b, Tri P n (args b) (restH [r] H) nx (rowFact b xs T :: FX) (fun y h m fx' => noKey r h = true ∧ post' y ((r, .row xs T) :: h) m FX)) : Tri P n args' H nx FX post' := by
  refine ⟨(h 0).enter, fun ρ F w hh hrob => ?_⟩
  have hrow := hro _ _ _ _ (hh.obj ρ (Ag.refl _ _) r _ hr)
  have hlt := hh.shape.lt r _ hr
  have sub : ∀ e, e ∈ restH [r] H → e ∈ H := fun e he => (restH_mem he).1
  have notown : ∀ k, Own (restH [r] H) F k → k ≠ ρ r := by
    rintro k ⟨j, o, hm, hk⟩ e
    obtain ⟨h1, h2⟩ := remH_mem hm
    exact hh.shape.dis j o r _ h2 hr h1 k hk (by rw [e]; exact (hrow.1 _).2 rfl)
  have hh' : HpOk ρ F (restH [r] H) nx (rowFact (ρ r) xs T :: FX) w := by
    refine ⟨fun ρ' ha j o hm => hh.obj ρ' ha j o (sub _ hm), fun j o hm => hh.shape.lt j o (sub _ hm), fun j o j' o' hm hm' => hh.shape.dis j o j' o' (sub _ hm) (sub _ hm'), fun j o hm => hh.shape.bnd j o (sub _ hm), fun f hf => ?_⟩
    rcases List.mem_cons.1 hf with rfl | hf
    · refine ⟨hrow.2, fun k hk => ⟨fun ho => notown k ho hk, ?_⟩⟩
      exact hh.shape.bnd r _ hr k ((hrow.1 k).2 hk)
    · have := hh.shape.fact f hf
      exact ⟨this.1, fun k hk => ⟨fun ho => (this.2 k hk).1 (ho.mono sub), (this.2 k hk).2⟩⟩
  have hc := (h (ρ r)).run ρ F w hh' (fun ρ' ha => by
    have e1 := hargs ρ'
    rw [ha r hlt] at e1
    rw [e1, hargs ρ]
    exact hrob ρ' ha)
  rw [hargs ρ] at hc
  refine hc.mono fun e w' ⟨y, h', m', fx', ρ', F', ⟨hno, hp⟩, he, hy, hh1, hag, hm, hk, ho, hf⟩ => ?_
  have hb' : ρ' r = ρ r := hag r hlt
  have hne : ∀ j o, (j, o) ∈ h' → j ≠ r := fun j o hm e => by subst e; exact noKey_mem hno o hm
  have hb : ρ r < w.heap.size := hh.shape.bnd r _ hr _ ((hrow.1 _).2 rfl)
  have own1 : ∀ k, Own h' F' k → k ≠ ρ r := fun k hk' e => by
    rcases ho k hk' with h1 | h1
    · exact notown k h1 e
    · omega
  have ex : ∀ k, Own ((r, SObj.row xs T) :: h') (updR F' r (fun k => k = ρ r)) k → Own h' F' k ∨ k = ρ r := by
    rintro k ⟨j, o, hm, hk'⟩
    rcases List.mem_cons.1 hm with e | hm
    · cases e; rw [updR_same] at hk'; exact .inr hk'
    · rw [updR_ne _ _ (hne j o hm)] at hk'; exact .inl ⟨j, o, hm, hk'⟩
  refine ⟨y, _, m', FX, ρ', updR F' r (fun k => k = ρ r), hp, he, hy, ⟨fun ρ'' ha j o hm => ?_, fun j o hm => ?_, fun j o j' o' hm hm' hd k hk1 hk2 => ?_, fun j o hm k hk1 => ?_, fun f hf => ?_⟩, hag, hm, hk.mono fun k hk => hk.mono sub, fun k hk' => ?_, fun f hf => .inl hf⟩
  · rcases List.mem_cons.1 hm with e | hm
    · cases e
      rw [updR_same, ha r (by omega), hb']
      exact ⟨fun k => Iff.rfl, hrow.2.loc (hk.block _ hb fun hu => notown _ hu rfl)⟩
    · rw [updR_ne _ _ (hne j o hm)]
      exact hh1.obj ρ'' ha j o hm
  · rcases List.mem_cons.1 hm with e | hm
    · cases e; omega
    · exact hh1.shape.lt j o hm
  · rcases List.mem_cons.1 hm with e | hm <;> rcases List.mem_cons.1 hm' with e' | hm'
    · cases e; cases e'; exact absurd rfl hd
    · cases e; rw [updR_same] at hk1; rw [updR_ne _ _ (hne j' o' hm')] at hk2
      exact own1 k ⟨j', o', hm', hk2⟩ hk1
    · cases e'; rw [updR_same] at hk2; rw [updR_ne _ _ (hne j o hm)] at hk1
      exact own1 k ⟨j, o, hm, hk1⟩ hk2
    · rw [updR_ne _ _ (hne j o hm)] at hk1; rw [updR_ne _ _ (hne j' o' hm')] at hk2
      exact hh1.shape.dis j o j' o' hm hm' hd k hk1 hk2
  · have := hk.size
    rcases List.mem_cons.1 hm with e | hm
    · cases e; rw [updR_same] at hk1; omega
    · rw [updR_ne _ _ (hne j o hm)] at hk1; exact hh1.shape.bnd j o hm k hk1
  · have h1 := hh.shape.fact f hf
    have h2 := f.mono h1 (hk.mono fun k hk => hk.mono sub) (fun k hk' => by
      show Own H F k ∨ w.heap.size ≤ k
      rcases ex k hk' with h3 | h3
      · exact (ho k h3).imp (fun h4 => h4.mono sub) id
      · exact .inl ⟨r, _, hr, by rw [h3]; exact (hrow.1 _).2 rfl⟩)
    exact h2
  · rcases ex k hk' with h3 | h3
    · exact (ho k h3).imp (fun h4 => h4.mono sub) id
    · exact .inl ⟨r, _, hr, by rw [h3]; exact (hrow.1 _).2 rfl⟩

/-! ### Sharing -/
/-- A region that a call hands back is never written again: it is told by a fact. -/
theorem Tri.share2 {P : Program} {n : Nat} {args : List SV} {hp : List (Nat × SObj)} {m : Nat} {fx : List Fact} {post post' : SV → List (Nat × SObj) → Nat → List Fact → Prop} (T : Tri P n args hp m fx post)
    (hpost : ∀ y h m' f1, post y h m' f1 → post' y h m' f1 ∨ ∃ r xs T, (r, .row xs T) ∈ h ∧ ∀ b, ∃ y', (∀ ρ, ρ r = b → den ρ y' = den ρ y) ∧ post' y' (restH [r] h) m' (rowFact b xs T :: f1)) : Tri P n args hp m fx post' := by
  refine ⟨T.enter, fun ρ F w hh hrob => (T.run ρ F w hh hrob).mono fun e w' ⟨y, h', m', fx', ρ', F', hp, he, hy, hh1, hag, hm, hk, ho, hf⟩ => ?_⟩
  rcases hpost _ _ _ _ hp with h0 | ⟨r, xs, T, hr, h2⟩
  · exact ⟨y, h', m', fx', ρ', F', h0, he, hy, hh1, hag, hm, hk, ho, hf⟩
  obtain ⟨y', h3, h4⟩ := h2 (ρ' r)
  have hrow := hh1.obj ρ' (Ag.refl _ _) r _ hr
  have hlt := hh1.shape.lt r _ hr
  have sub : ∀ e, e ∈ restH [r] h' → e ∈ h' := fun e he => (restH_mem he).1
  have notown : ∀ k, Own (restH [r] h') F' k → k ≠ ρ' r := by
    rintro k ⟨j, o, hm, hk⟩ e
    obtain ⟨h1, h2⟩ := remH_mem hm
    exact hh1.shape.dis j o r _ h2 hr h1 k hk (by rw [e]; exact (hrow.1 _).2 rfl)
  refine ⟨y', _, m', _, ρ', F', h4, by rw [h3 ρ' rfl]; exact he, fun ρ'' ha => by rw [h3 ρ'' (ha r hlt), h3 ρ' rfl]; exact hy ρ'' ha,
    ⟨fun ρ'' ha j o hm => hh1.obj ρ'' ha j o (sub _ hm), fun j o hm => hh1.shape.lt j o (sub _ hm), fun j o j' o' hm hm' => hh1.shape.dis j o j' o' (sub _ hm) (sub _ hm'), fun j o hm => hh1.shape.bnd j o (sub _ hm), fun f hf => ?_⟩,
    hag, hm, hk, fun k hk' => ho k (hk'.mono sub), fun f hf' => ?_⟩
  · rcases List.mem_cons.1 hf with rfl | hf
    · exact ⟨hrow.2, fun k hk => ⟨fun ho => notown k ho hk, hh1.shape.bnd r _ hr k ((hrow.1 k).2 hk)⟩⟩
    · have := hh1.shape.fact f hf
      exact ⟨this.1, fun k hk => ⟨fun ho => (this.2 k hk).1 (ho.mono sub), (this.2 k hk).2⟩⟩
  · rcases List.mem_cons.1 hf' with rfl | hf'
    · exact .inr fun k hk => ho k ⟨r, _, hr, (hrow.1 k).2 hk⟩
    · exact hf f hf'
theorem Tri.share {P : Program} {n : Nat} {args : List SV} {hp : List (Nat × SObj)} {m : Nat} {fx : List Fact} {post post' : SV → List (Nat × SObj) → Nat → List Fact → Prop} (T : Tri P n args hp m fx post)
    (hpost : ∀ y h m' f1, post y h m' f1 → ∃ r xs T, (r, .row xs T) ∈ h ∧ ∀ b, ∃ y', (∀ ρ, ρ r = b → den ρ y' = den ρ y) ∧ post' y' (restH [r] h) m' (rowFact b xs T :: f1)) : Tri P n args hp m fx post' :=
  T.share2 fun y h m' f1 hp => .inr (hpost y h m' f1 hp)

/-! ### Regions told in parts -/
/-- The regions h are as good as the regions h2. -/
def Fold (h h2 : List (Nat × SObj)) : Prop := ∀ ρ F m fx w, HpOk ρ F h m fx w → ∃ F2, HpOk ρ F2 h2 m fx w ∧ ∀ k, Own h2 F2 k → Own h F k
theorem Fold.refl (h : List (Nat × SObj)) : Fold h h := fun ρ F m fx w hh => ⟨F, hh, fun _ hk => hk⟩
theorem Fold.trans {a b c : List (Nat × SObj)} (h : Fold a b) (k : Fold b c) : Fold a c := fun ρ F m fx w hh => by
  obtain ⟨F1, h1, h2⟩ := h ρ F m fx w hh
  obtain ⟨F2, h3, h4⟩ := k ρ F1 m fx w h1
  exact ⟨F2, h3, fun k hk => h2 k (h4 k hk)⟩
/-- Regions that nobody needs any more. -/
theorem Fold.drop {h h2 : List (Nat × SObj)} (hs : ∀ e, e ∈ h2 → e ∈ h) : Fold h h2 := fun ρ F m fx w hh => ⟨F, ⟨fun ρ' ha j o hm => hh.obj ρ' ha j o (hs _ hm), fun j o hm => hh.shape.lt j o (hs _ hm),
    fun j o j' o' hm hm' => hh.shape.dis j o j' o' (hs _ hm) (hs _ hm'), fun j o hm => hh.shape.bnd j o (hs _ hm), fun f hf => ⟨(hh.shape.fact f hf).1, fun k hk => ⟨fun ho => ((hh.shape.fact f hf).2 k hk).1 (ho.mono hs), ((hh.shape.fact f hf).2 k hk).2⟩⟩⟩, fun k hk => hk.mono hs⟩
/-- Some regions (those of L; the first is r) are told as one. -/
theorem Fold.abs {A : AR} {r : Nat} {L h : List (Nat × SObj)} (hL : ∀ e, e ∈ L → e ∈ h) (hr : r ∈ L.map (·.1))
    (hc : ∀ ρ F m w, HpOk ρ F L m [] w → A.A w (ρ r) (fun k => Own L F k)) : Fold h ((r, .abs A) :: restH (L.map (·.1)) h) := fun ρ F m fx w hh => by
  have hsub : ∀ e, e ∈ restH (L.map (·.1)) h → e ∈ h := fun e he => (restH_mem he).1
  have hne : ∀ j o, (j, o) ∈ restH (L.map (·.1)) h → j ≠ r := fun j o hm e => (restH_mem hm).2 (by subst e; exact hr)
  have ownL : ∀ k, Own L F k → Own h F k := fun k hk => hk.mono hL
  have disL : ∀ j o, (j, o) ∈ restH (L.map (·.1)) h → ∀ k, F j k → ¬ Own L F k := by
    rintro j o hm k hk ⟨i, x, hi, hx⟩
    obtain ⟨h1, h2⟩ := restH_mem hm
    exact hh.shape.dis j o i x h1 (hL _ hi) (fun e => h2 (by subst e; exact List.mem_map.2 ⟨_, hi, rfl⟩)) k hk hx
  obtain ⟨⟨i0, o0⟩, hi0, e0⟩ := List.mem_map.1 hr
  simp only at e0; subst e0
  have own2 : ∀ k, Own ((i0, SObj.abs A) :: restH (L.map (·.1)) h) (updR F i0 fun k => Own L F k) k → Own h F k := by
    rintro k ⟨j, o, hm, hk⟩
    rcases List.mem_cons.1 hm with e | hm
    · cases e; rw [updR_same] at hk; exact ownL k hk
    · rw [updR_ne _ _ (hne j o hm)] at hk; exact ⟨j, o, hsub _ hm, hk⟩
  refine ⟨updR F i0 (fun k => Own L F k), ⟨fun ρ' ha j o hm => ?_, fun j o hm => ?_, fun j o j' o' hm hm' hd k hk1 hk2 => ?_, fun j o hm k hk1 => ?_, fun f hf => ?_⟩, own2⟩
  · rcases List.mem_cons.1 hm with e | hm
    · cases e
      rw [updR_same]
      have hhL : HpOk ρ' F L m [] w := ⟨fun ρ'' ha' j o hm => hh.obj ρ'' (ha.trans ha' (Nat.le_refl _)) j o (hL _ hm), fun j o hm => hh.shape.lt j o (hL _ hm),
        fun j o j' o' hm hm' => hh.shape.dis j o j' o' (hL _ hm) (hL _ hm'), fun j o hm => hh.shape.bnd j o (hL _ hm), fun f hf => by cases hf⟩
      exact hc ρ' F m w hhL
    · rw [updR_ne _ _ (hne j o hm)]; exact hh.obj ρ' ha j o (hsub _ hm)
  · rcases List.mem_cons.1 hm with e | hm
    · cases e; exact hh.shape.lt _ _ (hL _ hi0)
    · exact hh.shape.lt j o (hsub _ hm)
  · rcases List.mem_cons.1 hm with e | hm <;> rcases List.mem_cons.1 hm' with e' | hm'
    · cases e; cases e'; exact absurd rfl hd
    · cases e; rw [updR_same] at hk1; rw [updR_ne _ _ (hne j' o' hm')] at hk2
      exact disL j' o' hm' k hk2 hk1
    · cases e'; rw [updR_same] at hk2; rw [updR_ne _ _ (hne j o hm)] at hk1
      exact disL j o hm k hk1 hk2
    · rw [updR_ne _ _ (hne j o hm)] at hk1; rw [updR_ne _ _ (hne j' o' hm')] at hk2
      exact hh.shape.dis j o j' o' (hsub _ hm) (hsub _ hm') hd k hk1 hk2
  · rcases List.mem_cons.1 hm with e | hm
    · cases e; rw [updR_same] at hk1
      obtain ⟨i, x, hi, hx⟩ := hk1
      exact hh.shape.bnd i x (hL _ hi) k hx
    · rw [updR_ne _ _ (hne j o hm)] at hk1; exact hh.shape.bnd j o (hsub _ hm) k hk1
  · have := hh.shape.fact f hf
    exact ⟨this.1, fun k hk => ⟨fun ho => (this.2 k hk).1 (own2 k ho), (this.2 k hk).2⟩⟩
/-- What a call leaves, folded. -/
theorem Tri.close {P : Program} {n : Nat} {args : List SV} {hp : List (Nat × SObj)} {m : Nat} {fx : List Fact} {post post' : SV → List (Nat × SObj) → Nat → List Fact → Prop} (T : Tri P n args hp m fx post)
    (hpost : ∀ y h m' f1, post y h m' f1 → ∃ h2, Fold h h2 ∧ post' y h2 m' f1) : Tri P n args hp m fx post' :=
  ⟨T.enter, fun ρ F w hh hrob => (T.run ρ F w hh hrob).mono fun e w' ⟨y, h', m', fx', ρ', F', hp, he, hy, hh1, hag, hm, hk, ho, hf⟩ => by
    obtain ⟨h2, h3, h4⟩ := hpost _ _ _ _ hp
    obtain ⟨F2, h5, h6⟩ := h3 _ _ _ _ _ hh1
    exact ⟨y, h2, m', fx', ρ', F2, h4, he, hy, h5, hag, hm, hk, fun k hk' => ho k (h6 k hk'), hf⟩⟩
/-- What a call finds, folded. -/
theorem Tri.pre {P : Program} {n : Nat} {args : List SV} {hp h2 : List (Nat × SObj)} {m : Nat} {fx : List Fact} {post : SV → List (Nat × SObj) → Nat → List Fact → Prop} (T : Tri P n args h2 m fx post) (hf : Fold hp h2) : Tri P n args hp m fx post :=
  ⟨T.enter, fun ρ F w hh hrob => by
    obtain ⟨F2, h5, h6⟩ := hf _ _ _ _ _ hh
    refine (T.run ρ F2 w h5 hrob).mono fun e w' ⟨y, h', m', fx', ρ', F', hp, he, hy, hh1, hag, hm, hk, ho, hf⟩ => ?_
    exact ⟨y, h', m', fx', ρ', F', hp, he, hy, hh1, hag, hm, hk.mono h6, fun k hk' => (ho k hk').imp (h6 k) id, fun f hf' => (hf f hf').imp id fun h1 k hk' => (h1 k hk').imp (h6 k) id⟩⟩
/-- One region, told in parts: whatever the parts are, the call does it. -/
structure Told (A : AR) {ι : Type} (L : ι → Nat → Nat → List (Nat × SObj)) (p : Nat) : Prop where
  out : ∀ ρ (r m : Nat) (w : World) (F : Nat → Prop), r < m → A.A w (ρ r) F → (∀ k, F k → k < w.heap.size) → ∃ (i : ι) (ρ2 : Nat → Nat) (F2 : Nat → Nat → Prop), Ag m ρ ρ2 ∧
    (∀ ρ3, Ag (m + p) ρ2 ρ3 → ∀ j o, (j, o) ∈ L i r m → ObjOk ρ3 o w (ρ3 j) (F2 j)) ∧ (∀ j o, (j, o) ∈ L i r m → j = r ∨ (m ≤ j ∧ j < m + p)) ∧
    (∀ j o j' o', (j, o) ∈ L i r m → (j', o') ∈ L i r m → j ≠ j' → ∀ k, F2 j k → ¬ F2 j' k) ∧ ∀ k, Own (L i r m) F2 k → F k
theorem Tri.toldE {P : Program} {n : Nat} {args : List SV} {hp : List (Nat × SObj)} {m : Nat} {fx : List Fact} {post : SV → List (Nat × SObj) → Nat → List Fact → Prop} {A : AR} {ι : Type} {L : ι → Nat → Nat → List (Nat × SObj)} {p : Nat} (hA : Told A L p) (hen : True)
    (r : Nat) (hr : (r, .abs A) ∈ hp) (h : ∀ i, Tri P n args (L i r m ++ restH [r] hp) (m + p) fx (fun y h m1 f => post y h m1 f)) : Tri P n args hp m fx post := by
  refine ⟨hen, fun ρ F w hh hrob => ?_⟩
  have hobj := hh.obj ρ (Ag.refl _ _) r _ hr
  have hlt := hh.shape.lt r _ hr
  obtain ⟨i, ρ2, F2, ag, ho, hk, hd, hF⟩ := hA.out ρ r m w (F r) hlt hobj (fun k hk => hh.shape.bnd r _ hr k hk)
  have rest : ∀ j o, (j, o) ∈ restH [r] hp → j ≠ r ∧ (j, o) ∈ hp := fun j o hm => remH_mem hm
  let F3 : Nat → Nat → Prop := fun j => if j = r ∨ m ≤ j then F2 j else F j
  have f3L : ∀ j o, (j, o) ∈ L i r m → F3 j = F2 j := fun j o hm => if_pos ((hk j o hm).imp id fun h => h.1)
  have f3R : ∀ j o, (j, o) ∈ restH [r] hp → F3 j = F j := fun j o hm => if_neg fun e => by
    have h1 := rest j o hm
    have := hh.shape.lt j o h1.2
    rcases e with e | e
    · exact h1.1 e
    · omega
  have disR : ∀ j o j' o', (j, o) ∈ L i r m → (j', o') ∈ restH [r] hp → ∀ k, F2 j k → ¬ F j' k := by
    intro j o j' o' hm hm' k h1 h2
    obtain ⟨h3, h4⟩ := rest j' o' hm'
    exact hh.shape.dis r _ j' o' hr h4 (Ne.symm h3) k (hF k ⟨j, o, hm, h1⟩) h2
  have own3 : ∀ k, Own (L i r m ++ restH [r] hp) F3 k → Own hp F k := by
    rintro k ⟨j, o, hm, hk'⟩
    rcases List.mem_append.1 hm with hm | hm
    · rw [f3L j o hm] at hk'
      exact ⟨r, _, hr, hF k ⟨j, o, hm, hk'⟩⟩
    · rw [f3R j o hm] at hk'
      exact ⟨j, o, (rest j o hm).2, hk'⟩
  have hh3 : HpOk ρ2 F3 (L i r m ++ restH [r] hp) (m + p) fx w := by
    refine ⟨fun ρ3 ha j o hm => ?_, fun j o hm => ?_, fun j o j' o' hm hm' hne k hk1 hk2 => ?_, fun j o hm k hk1 => ?_, fun f hf => ?_⟩
    · rcases List.mem_append.1 hm with hm | hm
      · rw [f3L j o hm]; exact ho ρ3 ha j o hm
      · rw [f3R j o hm]; exact hh.obj ρ3 (ag.trans (ha.mono (Nat.le_add_right _ _)) (Nat.le_refl _)) j o (rest j o hm).2
    · rcases List.mem_append.1 hm with hm | hm
      · rcases hk j o hm with e | e
        · omega
        · exact e.2
      · have := hh.shape.lt j o (rest j o hm).2; omega
    · rcases List.mem_append.1 hm with hm | hm <;> rcases List.mem_append.1 hm' with hm' | hm'
      · rw [f3L j o hm] at hk1; rw [f3L j' o' hm'] at hk2; exact hd j o j' o' hm hm' hne k hk1 hk2
      · rw [f3L j o hm] at hk1; rw [f3R j' o' hm'] at hk2; exact disR j o j' o' hm hm' k hk1 hk2
      · rw [f3R j o hm] at hk1; rw [f3L j' o' hm'] at hk2; exact disR j' o' j o hm' hm k hk2 hk1
      · rw [f3R j o hm] at hk1; rw [f3R j' o' hm'] at hk2
        exact hh.shape.dis j o j' o' (rest j o hm).2 (rest j' o' hm').2 hne k hk1 hk2
    · rcases List.mem_append.1 hm with hm | hm
      · rw [f3L j o hm] at hk1; exact hh.shape.bnd r _ hr k (hF k ⟨j, o, hm, hk1⟩)
      · rw [f3R j o hm] at hk1; exact hh.shape.bnd j o (rest j o hm).2 k hk1
    · have := hh.shape.fact f hf
      exact ⟨this.1, fun k hk => ⟨fun ho => (this.2 k hk).1 (own3 k ho), (this.2 k hk).2⟩⟩
  have hc := (h i).run ρ2 F3 w hh3 (fun ρ' ha => by
    rw [hrob ρ' (ag.trans (ha.mono (Nat.le_add_right _ _)) (Nat.le_refl _)), hrob ρ2 ag])
  rw [hrob ρ2 ag] at hc
  refine hc.mono fun e w' ⟨y, h', m', fx', ρ', F', hp, he, hy, hh1, hag, hm, hk, ho, hf⟩ => ?_
  exact ⟨y, h', m', fx', ρ', F', hp, he, hy, hh1, ag.trans (hag.mono (Nat.le_add_right _ _)) (Nat.le_refl _), by omega, hk.mono own3, fun k hk' => (ho k hk').imp (own3 k) id, fun f hf' => (hf f hf').imp id fun h1 k hk' => (h1 k hk').imp (own3 k) id⟩
theorem Tri.told {P : Program} {n : Nat} {args : List SV} {hp : List (Nat × SObj)} {m : Nat} {fx : List Fact} {post : SV → List (Nat × SObj) → Nat → List Fact → Prop} {A : AR} {ι : Type} {L : ι → Nat → Nat → List (Nat × SObj)} {p : Nat} (hA : Told A L p) (i0 : ι)
    (r : Nat) (hr : (r, .abs A) ∈ hp) (h : ∀ i, Tri P n args (L i r m ++ restH [r] hp) (m + p) fx (fun y h m1 f => post y h m1 f)) : Tri P n args hp m fx post :=
  Tri.toldE hA (h i0).enter r hr h

/-! ### Loops whose invariant is reached by folding -/
theorem Fold.ok {h h2 : List (Nat × SObj)} (hf : Fold h h2) {B : Bs} {ρ F} {sl : List (Nat × SV)} {nx : Nat} {fx : List Fact} {sz a w} (ho : OkAt B ρ F ⟨sl, h, nx, fx⟩ sz a w) : ∃ F2, OkAt B ρ F2 ⟨sl, h2, nx, fx⟩ sz a w := by
  obtain ⟨F2, h1, h2⟩ := hf _ _ _ _ _ ho.heap
  exact ⟨F2, ho.slot, h1, ho.size, ho.base, ho.n0, ho.keeps, fun k hk => ho.own k (h2 k hk), ho.facts, ho.defers⟩
def FSub (n0 : Nat) (σ : List Nat) (h2 : List (Nat × SObj)) (st st' : SS) : Prop := Fold st.hp h2 ∧ Sub n0 σ ⟨st.sl, h2, st.nx, st.fx⟩ st'
theorem FSub.ok {n0 : Nat} {σ : List Nat} {h2 : List (Nat × SObj)} {st st' : SS} (h : FSub n0 σ h2 st st') {B : Bs} {ρ F sz a w} (hn : B.n0 = n0) (ho : OkAt B ρ F st sz a w) : ∃ ρ' F', OkAt B ρ' F' st' sz a w := by
  obtain ⟨F2, h1⟩ := Fold.ok h.1 (sl := st.sl) (nx := st.nx) (fx := st.fx) ho
  exact h.2.ok hn h1
/-- A loop that ends within n rounds: each walked as it stands. -/
structure RoundVC (P : Program) (sz n0 n : Nat) (body : Code) (st : SS) (K : Exit → SS → Prop) : Prop where
  out : ∀ (B : Bs) ρ F a w, B.n0 = n0 → OkAt B ρ F st sz a w → Code.rounds P body (Lift B sz K) n a w
theorem loop_rounds {P : Program} {sz n0 : Nat} {body : Code} {st : SS} {K : Exit → SS → Prop} (n : Nat) (h : RoundVC P sz n0 n body st K) : LoopVC P sz n0 body st K :=
  ⟨fun B ρ F a w hn ho => wp_loop_rounds n (h.out B ρ F a w hn ho)⟩
theorem round_next {P : Program} {tt : List (Option TI)} (ht : TOk P tt) {sz n0 n : Nat} {body : Code} {st : SS} {K : Exit → SS → Prop} (h : codeK P tt sz n0 body st fun e st => match e with | .normal => RoundVC P sz n0 n body st K | e => K e st) : RoundVC P sz n0 (n + 1) body st K := by
  refine ⟨fun B ρ F a w hn ho => ?_⟩
  rw [rounds_succ]
  refine wp_mono (codeK_sound ht h hn ho) fun e a' w' hq => ?_
  obtain ⟨st', ρ', F', h1, h2⟩ := hq
  cases e with
  | normal => exact h1.out B ρ' F' a' w' hn h2
  | exit id => exact ⟨st', ρ', F', h1, h2⟩
  | goto l => exact ⟨st', ρ', F', h1, h2⟩
  | ret => exact ⟨st', ρ', F', h1, h2⟩
  | panic c => exact ⟨st', ρ', F', h1, h2⟩
  | outgrown => exact ⟨st', ρ', F', h1, h2⟩
/-- A loop by an invariant with a side condition, reached as it stands. -/
theorem loop_by {P : Program} {tt : List (Option TI)} (ht : TOk P tt) {sz n0 : Nat} {body : Code} {st : SS} {K : Exit → SS → Prop} {α : Type} (Inv : α → SS) (Pr : α → Prop) (μ : α → Nat) (x0 : α) (σ : List Nat) (hp0 : Pr x0) (h0 : Sub n0 σ st (Inv x0))
    (hb : ∀ x, Pr x → codeK P tt sz n0 body (Inv x) fun e st => match e with | .normal => ∃ x' σ, (Pr x' ∧ μ x' < μ x) ∧ Sub n0 σ st (Inv x') | e => K e st) : LoopVC P sz n0 body st K := by
  refine ⟨fun B ρ F a w hn ho => ?_⟩
  obtain ⟨ρ1, F1, ho1⟩ := h0.ok hn ho
  refine wp_loop_ghost (fun n a w => ∃ x ρ F, Pr x ∧ μ x = n ∧ OkAt B ρ F (Inv x) sz a w) (μ x0) ⟨x0, ρ1, F1, hp0, rfl, ho1⟩ ?_
  rintro n a w ⟨x, ρ, F, hx, rfl, ho⟩
  refine wp_mono (codeK_sound ht (hb x hx) hn ho) fun e a' w' hq => ?_
  obtain ⟨st', ρ', F', h1, h2⟩ := hq
  cases e with
  | normal =>
    obtain ⟨x', σ', ⟨hx', h3⟩, h4⟩ := h1
    obtain ⟨ρ2, F2, h5⟩ := h4.ok hn h2
    exact ⟨μ x', h3, x', ρ2, F2, hx', rfl, h5⟩
  | exit id => exact ⟨st', ρ', F', h1, h2⟩
  | goto l => exact ⟨st', ρ', F', h1, h2⟩
  | ret => exact ⟨st', ρ', F', h1, h2⟩
  | panic c => exact ⟨st', ρ', F', h1, h2⟩
  | outgrown => exact ⟨st', ρ', F', h1, h2⟩
/-- A loop by an invariant with a side condition, reached by folding. -/
theorem loop_fold {P : Program} {tt : List (Option TI)} (ht : TOk P tt) {sz n0 : Nat} {body : Code} {st : SS} {K : Exit → SS → Prop} {α : Type} (Inv : α → SS) (Pr : α → Prop) (μ : α → Nat) (x0 : α) (σ : List Nat) (h2 : List (Nat × SObj)) (hp0 : Pr x0) (h0 : FSub n0 σ h2 st (Inv x0))
    (hb : ∀ x, Pr x → codeK P tt sz n0 body (Inv x) fun e st => match e with | .normal => ∃ x' σ h2, (Pr x' ∧ μ x' < μ x) ∧ FSub n0 σ h2 st (Inv x') | e => K e st) : LoopVC P sz n0 body st K := by
  refine ⟨fun B ρ F a w hn ho => ?_⟩
  obtain ⟨ρ1, F1, ho1⟩ := h0.ok hn ho
  refine wp_loop_ghost (fun n a w => ∃ x ρ F, Pr x ∧ μ x = n ∧ OkAt B ρ F (Inv x) sz a w) (μ x0) ⟨x0, ρ1, F1, hp0, rfl, ho1⟩ ?_
  rintro n a w ⟨x, ρ, F, hx, rfl, ho⟩
  refine wp_mono (codeK_sound ht (hb x hx) hn ho) fun e a' w' hq => ?_
  obtain ⟨st', ρ', F', h1, h2⟩ := hq
  cases e with
  | normal =>
    obtain ⟨x', σ', h2', ⟨hx', h3⟩, h4⟩ := h1
    obtain ⟨ρ2, F2, h5⟩ := h4.ok hn h2
    exact ⟨μ x', h3, x', ρ2, F2, hx', rfl, h5⟩
  | exit id => exact ⟨st', ρ', F', h1, h2⟩
  | goto l => exact ⟨st', ρ', F', h1, h2⟩
  | ret => exact ⟨st', ρ', F', h1, h2⟩
  | panic c => exact ⟨st', ρ', F', h1, h2⟩
  | outgrown => exact ⟨st', ρ', F', h1, h2⟩
/-- A slice of bytes, told by facts. -/
def BytesAt (fx : List Fact) (A : Option Addr) (bs : List UInt8) : Prop := (A = none → bs = []) ∧ ∀ ad, A = some ad → ∀ j y, bs[j]? = some y → FC fx (ad.add j) (bv y)
theorem BytesAt.row {fx : List Fact} {b o : Nat} {xs : List Value} {T : TypeId} {bs : List UInt8} (h : rowFact b xs T ∈ fx) (hx : (xs.drop o).take bs.length = bs.map bv) : BytesAt fx (some ⟨b, o, none⟩) bs := by
  refine ⟨fun h => (by cases h), fun ad e j y hj => ?_⟩
  obtain rfl := Option.some.inj e
  rw [add_at]
  refine rowFact_FC h ?_
  have hl := (List.getElem?_eq_some_iff.1 hj).1
  have h1 : ((xs.drop o).take bs.length)[j]? = some (bv y) := by rw [hx, List.getElem?_map, hj]; rfl
  rwa [List.getElem?_take, if_pos hl, List.getElem?_drop] at h1
theorem BytesAt.rowAt {fx : List Fact} {A : Option Addr} {bs : List UInt8} (h : BytesAt fx A bs) : RowAt fx A (bs.map bv) :=
  ⟨fun e => by rw [h.1 e]; rfl, fun ad e j y hj => by
    rw [List.getElem?_map] at hj
    cases hb : bs[j]? with
    | none => rw [hb] at hj; cases hj
    | some c => rw [hb] at hj; cases hj; exact h.2 ad e j c hb⟩
theorem BytesAt.mono {fx fx' : List Fact} {A : Option Addr} {bs : List UInt8} (h : BytesAt fx A bs) (hf : ∀ f, f ∈ fx → f ∈ fx') : BytesAt fx' A bs :=
  ⟨h.1, fun ad e j y hj => by obtain ⟨f, h1, h2⟩ := h.2 ad e j y hj; exact ⟨f, hf f h1, h2⟩⟩
theorem BytesAt.take {fx : List Fact} {A : Option Addr} {bs : List UInt8} (h : BytesAt fx A bs) (n : Nat) : BytesAt fx A (bs.take n) :=
  ⟨fun e => by rw [h.1 e]; simp, fun ad e j y hj => h.2 ad e j y (by
    rw [List.getElem?_take] at hj
    split at hj
    · exact hj
    · cases hj)⟩
end Go.Proofs.YtekgjjanikicnaaDoor.Sx

namespace Go.Proofs.YtekgjjanikicnaaDoor.Sx
open Go Go.Proofs.YtekgjjanikicnaaDoorW.PrintLast
set_option linter.unusedVariables false
set_option linter.unusedSimpArgs false

inductive NStep where
  | any (i : Nat)
  | load (i : Nat)
  | one (i : Nat)
  | last (i : Nat)
  | new (i : Nat)
def news : List NStep → List Nat
  | [] => []
  | .new i :: r => i :: news r
  | .any _ :: r => news r
  | .load _ :: r => news r
  | .one _ :: r => news r
  | .last _ :: r => news r
def mark (l : Array Bool) : List Nat → Array Bool
  | [] => l
  | j :: E => mark (l.setIfInBounds j true) E
theorem mark_get (k : Nat) : ∀ (E : List Nat) (l : Array Bool), (mark l E)[k]? = if k ∈ E ∧ k < l.size then some true else l[k]?
  | [], l => by simp [mark]
  | j :: E, l => by
    rw [mark, mark_get k E]
    simp only [Array.size_setIfInBounds, List.mem_cons, Array.getElem?_setIfInBounds]
    by_cases h1 : k < l.size <;> by_cases h2 : k ∈ E <;> by_cases h3 : j = k
    all_goals first
      | (subst h3; simp [h1, h2]; done)
      | (simp [h1, h2, h3, Ne.symm h3]; done)
theorem mark_size : ∀ (E : List Nat) (l : Array Bool), (mark l E).size = l.size
  | [], l => rfl
  | j :: E, l => by rw [mark, mark_size E]; simp
theorem mark_eq {l : Array Bool} {E E' : List Nat} (h : ∀ k, k ∈ E ↔ k ∈ E') : mark l E = mark l E' := by
  apply Array.ext_getElem?
  intro k
  rw [mark_get, mark_get]
  simp [h k]
theorem mark_set (l : Array Bool) (i : Nat) (E : List Nat) : (mark l E).setIfInBounds i true = mark l (i :: E) := by
  apply Array.ext_getElem?
  intro k
  rw [Array.getElem?_setIfInBounds, mark_get, mark_get, mark_size]
  by_cases h : i = k
  · subst h
    by_cases h1 : i < l.size
    · simp [h1]
    · simp [h1, Array.getElem?_eq_none (Nat.le_of_not_lt h1)]
  · rw [if_neg h]; simp [Ne.symm h]
def subs : List Nat → List (List Nat)
  | [] => [[]]
  | x :: r => subs r ++ (subs r).map (x :: ·)
theorem filter_subs (e : Nat → Bool) : ∀ l : List Nat, l.filter e ∈ subs l
  | [] => by simp [subs]
  | x :: r => by
    simp only [subs, List.mem_append, List.mem_map, List.filter_cons]
    split
    · exact .inr ⟨_, filter_subs e r, rfl⟩
    · exact .inl (filter_subs e r)
/-- What may come up here is this one, or a variable that is still to be made. -/
def oneB (ops : Array Oper) (N E : List Nat) (l : Array Bool) (i : Nat) : Bool := (Region.ready .any ops l).contains i && (Region.ready .any ops l).all fun j => j == i || (N.contains j && !E.contains j)
def newB (ops : Array Oper) (N E : List Nat) (l : Array Bool) : Bool := !(Region.ready .any ops l).isEmpty && (Region.ready .any ops l).all fun j => N.contains j && !E.contains j
def dstNe (ops : Array Oper) (N : List Nat) (i : Nat) : Bool := N.all fun j => match ops[j]?, ops[i]? with
  | some oj, some oi => oj.dst != oi.dst
  | _, _ => false
def newOk (ops : Array Oper) (j : Nat) : Bool := match ops[j]? with
  | some o => (match o.op with | .alloc _ => true | _ => false) && o.dst.isSome && o.guard.isNone
  | none => false
def planOkN (ops : Array Oper) (ds : List Nat) : List NStep → Array Bool → Bool
  | [], l => Region.ready .any ops l == []
  | .any i :: r, l => (subs (news r)).all (fun E => anyB .any ops (mark l E) ((mark l E).setIfInBounds i true) i) && dstNe ops (news r) i && planOkN ops ds r (l.setIfInBounds i true)
  | .load i :: r, l => (subs (news r)).all (fun E => takeB .any ops ds (mark l E) ((mark l E).setIfInBounds i true) i) && ds.all (fun d => !l.getD d false) && dstNe ops (news r) i && planOkN ops ds r (l.setIfInBounds i true)
  | .one i :: r, l => (subs (news r)).all (fun E => oneB ops (news r) E (mark l E) i) && !ds.contains i && ds.all (fun d => !l.getD d false) && dstNe ops (news r) i && planOkN ops ds r (l.setIfInBounds i true)
  | .last i :: r, l => (subs (news r)).all (fun E => oneB ops (news r) E (mark l E) i) && ds.contains i && dstNe ops (news r) i && planOkN ops ds r (l.setIfInBounds i true)
  | .new i :: r, l => (subs (i :: news r)).all (fun E => E.contains i || newB ops (i :: news r) E (mark l E)) && newOk ops i && !(news r).contains i && !ds.contains i && dstNe ops (news r) i && planOkN ops ds r (l.setIfInBounds i true)
def tyB : List (Option TI) → Nat → Bool
  | [], _ => false
  | x :: _, 0 => x.isSome
  | _ :: r, n + 1 => tyB r n
theorem tyB_elim : ∀ {tt : List (Option TI)} {T : Nat}, tyB tt T = true → ∃ ti, tt[T]? = some (some ti)
  | [], _, h => by simp [tyB] at h
  | x :: _, 0, h => by
    cases x with
    | none => simp [tyB] at h
    | some ti => exact ⟨ti, rfl⟩
  | _ :: r, n + 1, h => by
    obtain ⟨ti, h1⟩ := tyB_elim (tt := r) (T := n) h
    exact ⟨ti, by simpa using h1⟩
/-- The slots that are to be filled are not looked at. -/
def freeSl (tt : List (Option TI)) (sz : Nat) (ops : List Oper) (N : List Nat) (st : SS) : Bool := N.all fun j => match ops[j]? with
  | some o => (match o.op, o.dst with
    | .alloc T, some t => tyB tt T && Nat.blt t sz && st.sl.all fun e => !Nat.beq e.1 t
    | _, _ => false)
  | none => false
theorem freeSl_elim {tt : List (Option TI)} {sz : Nat} {ops : List Oper} {N : List Nat} {st : SS} (h : freeSl tt sz ops N st = true) {j : Nat} (hj : j ∈ N) :
    ∃ o T t ti, ops[j]? = some o ∧ o.op = .alloc T ∧ o.dst = some t ∧ tt[T]? = some (some ti) ∧ t < sz ∧ ∀ x, (t, x) ∉ st.sl := by
  have h1 := List.all_eq_true.1 h j hj
  split at h1
  · rename_i o ho
    split at h1
    · rename_i T t h2 h3
      simp only [Bool.and_eq_true, Nat.blt_eq] at h1
      obtain ⟨⟨h4, h5⟩, h6⟩ := h1
      obtain ⟨ti, h7⟩ := tyB_elim h4
      refine ⟨o, T, t, ti, ho, h2, h3, h7, h5, fun x hx => ?_⟩
      have := List.all_eq_true.1 h6 _ hx
      simp at this
    · cases h1
  · cases h1
def checkK (b : Bool) (p : Prop) : Prop := match b with
  | true => p
  | false => False
theorem checkK_elim {b : Bool} {p : Prop} (h : checkK b p) : b = true ∧ p := by
  cases b
  · exact h.elim
  · exact ⟨rfl, h⟩
def dropK (sz : Nat) (ops : List Oper) : List Nat → SS → (SS → Prop) → Prop
  | [], st, k => k st
  | j :: N, st, k => nthK ops j fun o => delK sz o.dst st fun st => dropK sz ops N st k
def planKN (P : Program) (tt : List (Option TI)) (sz : Nat) (ops : List Oper) (hpS : List (Nat × SObj)) (fxS : List Fact) : List NStep → SS → (SS → Prop) → Prop
  | [], st, k => k st
  | .any i :: r, st, k => checkK (freeSl tt sz ops (news r) st) <| nthK ops i fun o => guardK sz ops o st (fun st => match st with
      | ⟨sl, hp, nx, fx⟩ => pureK tt ⟨sl, [], nx, []⟩ o.op fun y => putK sz o.dst y ⟨sl, hp, nx, fx⟩ fun st => planKN P tt sz ops hpS fxS r st k)
      (fun st => putK sz o.dst (.tup []) st fun st => planKN P tt sz ops hpS fxS r st k)
  | .load i :: r, st, k => checkK (freeSl tt sz ops (news r) st) <| nthK ops i fun o => guardK sz ops o st (fun st => match st with
      | ⟨sl, hp, nx, fx⟩ => pureK tt ⟨sl, hpS, nx, fxS⟩ o.op fun y => putK sz o.dst y ⟨sl, hp, nx, fx⟩ fun st => planKN P tt sz ops hpS fxS r st k)
      (fun st => putK sz o.dst (.tup []) st fun st => planKN P tt sz ops hpS fxS r st k)
  | .one i :: r, st, k => checkK (freeSl tt sz ops (news r) st) <| nthK ops i fun o => guardK sz ops o st (fun st => opK P tt sz st o fun st => keepsH st.hp hpS ∧ (∀ f, f ∈ fxS → f ∈ st.fx) ∧ planKN P tt sz ops hpS fxS r st k)
      (fun st => putK sz o.dst (.tup []) st fun st => planKN P tt sz ops hpS fxS r st k)
  | .last i :: r, st, k => checkK (freeSl tt sz ops (news r) st) <| nthK ops i fun o => guardK sz ops o st (fun st => opK P tt sz st o fun st => planKN P tt sz ops hpS fxS r st k)
      (fun st => putK sz o.dst (.tup []) st fun st => planKN P tt sz ops hpS fxS r st k)
  | .new i :: r, st, k => checkK (freeSl tt sz ops (i :: news r) st) <| nthK ops i fun o => (match o.op with
      | .alloc T => tyK tt T fun ti => newK (.cells ti.zero T) st fun r' st => putK sz o.dst (.p r' 0) st fun st => planKN P tt sz ops hpS fxS r st k
      | _ => False)

theorem Oper.wp_slots {P : Program} {o : Oper} {a : Act} {w : World} {K : Act → World → Prop} {Q : Exit → Act → World → Prop} (hh : o.wp P a w K Q) : o.wp P a w (fun a' w' => K a' w' ∧ ∀ t, o.dst ≠ some t → a'.tmps[t]? = a.tmps[t]?) Q := by
  have put : ∀ (b : Act) (v : Value), b.tmps = a.tmps → ∀ t, o.dst ≠ some t → (b.put o.dst v).tmps[t]? = a.tmps[t]? := by
    intro b v hb t ht
    cases hd : o.dst with
    | none => simp [Act.put, hb]
    | some d =>
      have : d ≠ t := fun e => ht (by rw [hd, e])
      simp [Act.put, hb, Array.getElem?_setIfInBounds, this]
  unfold Oper.wp at *
  generalize (execOp a.eval o).run P w = r at *
  cases r with
  | ok n w' =>
    cases n <;> simp only [Oper.upon] at hh ⊢ <;>
      first
        | exact ⟨hh, put _ _ rfl⟩
        | exact Calls.mono hh (fun e w'' he => by cases e <;> first | exact ⟨he, put _ _ rfl⟩ | exact he)
        | exact Rows.mono hh (fun _ _ he => ⟨he, put _ _ rfl⟩)
  | halt x w' => cases x <;> simp only [Oper.upon] at hh ⊢ <;> exact hh
/-- Variables that are made already, of those that a plan makes later. -/
structure Gh (tt : List (Option TI)) (ops : List Oper) (G : List Nat) (β : Nat → Nat) (B : Bs) (F : Nat → Nat → Prop) (st : SS) (a : Act) (w : World) : Prop where
  at_ : ∀ j ∈ G, ∃ o T t ti, ops[j]? = some o ∧ o.op = .alloc T ∧ o.dst = some t ∧ tt[T]? = some (some ti) ∧ a.tmps[t]? = some (.pointer (some ⟨β j, 0, none⟩)) ∧ ∀ ρ, CellsAt w (β j) (denL ρ ti.zero) T
  lt : ∀ j ∈ G, β j < w.heap.size
  own : ∀ j ∈ G, ¬ Own st.hp F (β j)
  fx : ∀ j ∈ G, ∀ f ∈ st.fx, ¬ f.G (β j)
  inj : ∀ i ∈ G, ∀ j ∈ G, β i = β j → i = j
  new : ∀ j ∈ G, B.w0.heap.size ≤ β j
theorem Gh.step {tt : List (Option TI)} {ops : List Oper} {G G' : List Nat} {β : Nat → Nat} {B : Bs} {F F' : Nat → Nat → Prop} {st st' : SS} {a a' : Act} {w w' : World} {ρ ρ' : Nat → Nat} {sz : Nat} (h : Gh tt ops G β B F st a w)
    (ho : OkAt ⟨st.nx, ρ, w, Own st.hp F, st.fx⟩ ρ' F' st' sz a' w') (hG : ∀ j, j ∈ G' → j ∈ G) (ha : ∀ j ∈ G', ∀ o, ops[j]? = some o → ∀ t, o.dst = some t → a'.tmps[t]? = a.tmps[t]?) : Gh tt ops G' β B F' st' a' w' := by
  have blk : ∀ j ∈ G', w'.heap[β j]? = w.heap[β j]? := fun j hj => ho.keeps.block _ (h.lt j (hG j hj)) (h.own j (hG j hj))
  refine ⟨fun j hj => ?_, fun j hj => Nat.lt_of_lt_of_le (h.lt j (hG j hj)) ho.keeps.size, fun j hj hu => ?_, fun j hj f hf hg => ?_, fun i hi j hj e => h.inj i (hG i hi) j (hG j hj) e, fun j hj => h.new j (hG j hj)⟩
  · obtain ⟨o, T, t, ti, h1, h2, h3, h4, h5, h6⟩ := h.at_ j (hG j hj)
    exact ⟨o, T, t, ti, h1, h2, h3, h4, by rw [ha j hj o h1 t h3]; exact h5, fun ρ => (h6 ρ).loc (blk j hj)⟩
  · rcases ho.own _ hu with h1 | h1
    · exact h.own j (hG j hj) h1
    · have := h.lt j (hG j hj); simp at h1; omega
  · rcases ho.facts f hf with h1 | h1
    · exact h.fx j (hG j hj) f h1 hg
    · rcases h1 _ hg with h2 | h2
      · exact h.own j (hG j hj) h2
      · have := h.lt j (hG j hj); simp at h2; omega
/-- What a load may lean on, where variables are made, too. -/
def SHB (ρ : Nat → Nat) (hpS : List (Nat × SObj)) (fx : List Fact) (w : World) : Prop := SH ρ hpS fx w ∧ (∀ r o, (r, o) ∈ hpS → ρ r < w.heap.size) ∧ ∀ f, f ∈ fx → ∀ k, f.G k → k < w.heap.size
theorem SHB.of_ok {B : Bs} {ρ ρ0 : Nat → Nat} {F : Nat → Nat → Prop} {st : SS} {sz : Nat} {a : Act} {w : World} (h : OkAt B ρ F st sz a w) {hpS : List (Nat × SObj)} {n : Nat} {fxS : List Fact} (hag : Ag n ρ0 ρ) (hsc : idsH n hpS = true)
    (hm : ∀ r o, (r, o) ∈ hpS → (r, o) ∈ st.hp) (hf : ∀ f, f ∈ fxS → f ∈ st.fx) : SHB ρ0 hpS fxS w := by
  have h1 := SH.of_ok h hag hsc hm hf
  refine ⟨h1, fun r o ho => ?_, fun f hf' k hk => ((h.heap.shape.fact f (hf f hf')).2 k hk).2⟩
  have h3 := h.heap.obj ρ (Ag.refl _ _) r o (hm r o ho)
  have h2 := (idsH_mem hsc ho)
  rw [← hag r h2.1]
  refine h.heap.shape.bnd r o (hm r o ho) _ ?_
  cases o with
  | abs A => simp [idsO] at h2
  | cells cs T => exact (h3.1 _).2 rfl
  | row cs T => exact (h3.1 _).2 rfl
  | map es clk => exact (h3.1 _).2 rfl
  | iter mr since seen stepped => exact (h3.1 _).2 rfl
theorem SHB.alloc {ρ : Nat → Nat} {hpS : List (Nat × SObj)} {fx : List Fact} {w : World} (h : SHB ρ hpS fx w) (ob : Obj) : SHB ρ hpS fx (w.alloc ob) := by
  refine ⟨⟨fun r o ho => (h.1.1 r o ho).loc fun k hk => ?_, fun f hf => f.loc (h.1.2 f hf) fun k hk => heap_alloc_old w ob k (h.2.2 f hf k hk)⟩, fun r o ho => ?_, fun f hf k hk => ?_⟩
  · have hk : k = ρ r := hk
    subst hk
    exact heap_alloc_old w ob _ (h.2.1 r o ho)
  · have := h.2.1 r o ho; simp; omega
  · have := h.2.2 f hf k hk; simp; omega
end Go.Proofs.YtekgjjanikicnaaDoor.Sx

namespace Go.Proofs.YtekgjjanikicnaaDoor.Sx
open Go Go.Proofs.YtekgjjanikicnaaDoorW.PrintLast
set_option linter.unusedVariables false
set_option linter.unusedSimpArgs false

theorem OkAt.allocE {B : Bs} {ρ : Nat → Nat} {F : Nat → Nat → Prop} {st : SS} {sz : Nat} {a : Act} {w : World} (h : OkAt B ρ F st sz a w) (ob : Obj) {t : Nat} (v : Value) (ht : ∀ x, (t, x) ∉ st.sl) : OkAt B ρ F st sz (a.put (some t) v) (w.alloc ob) := by
  refine ⟨fun ρ' hr t' x hm => ?_, ⟨fun ρ' hr r o hm => (h.heap.obj ρ' hr r o hm).loc fun k hk => heap_alloc_old w ob k (h.heap.shape.bnd r o hm k hk), ⟨h.heap.shape.lt, h.heap.shape.dis, fun r o hm k hk => ?_, fun f hf => ?_⟩⟩,
    by simp [Act.put, h.size], h.base, h.n0, h.keeps.trans (keeps_alloc (fun _ => False) w ob) (fun _ hu => hu.elim), h.own, h.facts, by simpa [Act.put] using h.defers⟩
  · have hne : t ≠ t' := fun e => ht x (e ▸ hm)
    have := h.slot ρ' hr t' x hm
    simp [Act.put, Array.getElem?_setIfInBounds, hne, this]
  · have := h.heap.shape.bnd r o hm k hk
    simp; omega
  · exact f.mono (h.heap.shape.fact f hf) ((keeps_alloc (fun _ => False) w ob).mono (fun _ hu => hu.elim)) (fun k hk => .inl hk)
theorem filter_more {e : Nat → Bool} {j : Nat} (he : e j = false) : ∀ {N : List Nat}, N.Nodup → j ∈ N →
    (N.filter fun k => k == j || e k).length = (N.filter e).length + 1 ∧ (N.filter fun k => !(k == j || e k)).length + 1 = (N.filter fun k => !e k).length
  | [], _, h => by cases h
  | x :: N, hn, h => by
    obtain ⟨h1, h2⟩ := List.nodup_cons.1 hn
    have other : j ∉ N → (N.filter fun k => k == j || e k) = N.filter e ∧ (N.filter fun k => !(k == j || e k)) = N.filter fun k => !e k := by
      intro hj
      constructor <;> refine List.filter_congr fun k hk => ?_ <;> (have : k ≠ j := fun e => hj (e ▸ hk)) <;> simp [this]
    rcases List.mem_cons.1 h with rfl | h
    · obtain ⟨h3, h4⟩ := other h1
      simp only [List.filter_cons, h3, h4, he, beq_self_eq_true, Bool.true_or, if_true, Bool.not_true, Bool.false_eq_true, if_false, Bool.not_false, List.length_cons]
      exact ⟨trivial, trivial⟩
    · have hx : x ≠ j := fun e => h1 (e ▸ h)
      obtain ⟨h3, h4⟩ := filter_more he h2 h
      have hb : (x == j) = false := by simp [hx]
      simp only [List.filter_cons, hb, Bool.false_or]
      constructor
      · split <;> simp only [List.length_cons, h3]
      · split <;> simp only [List.length_cons, ← h4]
theorem getD_mark {l : Array Bool} {E : List Nat} {d : Nat} (hd : d ∉ E) (v : Bool) : (mark l E).getD d v = l.getD d v := by
  rw [Array.getD_eq_getD_getElem?, Array.getD_eq_getD_getElem?, mark_get, if_neg (fun h => hd h.1)]
section
variable {P : Program} {tt : List (Option TI)} (ht : TOk P tt) {sz : Nat} {ops : List Oper} {hpS : List (Nat × SObj)} {fxS : List Fact} {ds : List Nat} {n : Nat} {ρ0 : Nat → Nat}
include ht
/-- A variable that is to be made later may be made here. -/
theorem early {B : Bs} {Q : Exit → Act → World → Prop} {fuel : Nat} {N : List Nat} (hN : N.Nodup) {e : Nat → Bool} {β : Nat → Nat} {l : Array Bool} {st : SS} {ρ F a w} (hfree : freeSl tt sz ops N st = true) (hnew : ∀ j ∈ N, j ∉ ds ∧ newOk ops.toArray j = true)
    (hds : ∀ i ∈ N, ∀ j ∈ N, i ≠ j → ∀ oi oj, ops[i]? = some oi → ops[j]? = some oj → oi.dst ≠ oj.dst)
    (ho : OkAt B ρ F st sz a w) (hg : Gh tt ops (N.filter e) β B F st a w) {j : Nat} (hj : j ∈ N) (he : e j = false)
    (next : ∀ (β : Nat → Nat) a w', (SHB ρ0 hpS fxS w → SHB ρ0 hpS fxS w') → OkAt B ρ F st sz a w' → Gh tt ops (N.filter fun k => k == j || e k) β B F st a w' → wpAnyLast P .any ops.toArray Q (SHB ρ0 hpS fxS) ds fuel (mark l (N.filter fun k => k == j || e k)) a w') :
    wpOp P ops.toArray Q j (fun a' w' => (j ∉ ds → SHB ρ0 hpS fxS w → SHB ρ0 hpS fxS w') ∧ wpAnyLast P .any ops.toArray Q (SHB ρ0 hpS fxS) ds fuel ((mark l (N.filter e)).setIfInBounds j true) a' w') a w := by
  obtain ⟨o, T, t, ti, h1, h2, h3, h4, h5, h6⟩ := freeSl_elim hfree hj
  have hgd : o.guard = none := by
    have := (hnew j hj).2
    simp only [newOk, List.getElem?_toArray, h1, Bool.and_eq_true, Option.isNone_iff_eq_none] at this
    exact this.2
  refine wpOp_step (o := o) (by simpa using h1) fun K' hK' => ?_
  rw [if_pos (by simp [Region.wanted, hgd])]
  obtain ⟨z, hz1, hz2⟩ := zero_den (tyFacts (ht T ti h4)) w
  have hrun : (execOp a.eval o).run P w = .ok (.value (.pointer (some ⟨w.heap.size, 0, none⟩))) (w.alloc (.cells z.cells T)) := by
    simp only [execOp, h2, Instr.alloc, Sem.run_bind, hz1, Result.andThen_ok, newVar, newRow, run_newObj, Sem.run_pure, World.alloc_eq]
  simp only [Oper.wp, hrun, Oper.upon, h3]
  refine hK' _ _ ⟨fun _ hs => hs.alloc _, ?_⟩
  have hE : (mark l (N.filter e)).setIfInBounds j true = mark l (N.filter fun k => k == j || e k) := by
    rw [mark_set]
    refine mark_eq fun k => ?_
    simp only [List.mem_cons, List.mem_filter, Bool.or_eq_true, beq_iff_eq]
    constructor
    · rintro (rfl | ⟨a1, a2⟩)
      · exact ⟨hj, .inl rfl⟩
      · exact ⟨a1, .inr a2⟩
    · rintro ⟨a1, rfl | a2⟩
      · exact .inl rfl
      · exact .inr ⟨a1, a2⟩
  rw [hE]
  have inv : ∀ k, k ∈ (N.filter fun k => k == j || e k) → k = j ∨ (k ≠ j ∧ k ∈ N.filter e) := fun k hk => by
    simp only [List.mem_filter, Bool.or_eq_true, beq_iff_eq] at hk ⊢
    by_cases e1 : k = j
    · exact .inl e1
    · exact .inr ⟨e1, hk.1, hk.2.resolve_left e1⟩
  refine next (updR β j w.heap.size) _ _ (fun hs => hs.alloc _) (ho.allocE _ _ h6) ⟨fun k hk => ?_, fun k hk => ?_, fun k hk hu => ?_, fun k hk f hf hgk => ?_, fun i hi k hk he' => ?_, fun k hk => ?_⟩
  · rcases inv k hk with rfl | ⟨hne, hk⟩
    · refine ⟨o, T, t, ti, h1, h2, h3, h4, ?_, fun ρ => ?_⟩
      · rw [updR_same]
        simp [Act.put, ho.size, h5]
      · rw [updR_same]
        have := cellsAt_alloc w (denL ρ ti.zero) T
        rw [← hz2 ρ, Array.toArray_toList] at this
        rw [← hz2 ρ]
        exact this
    · obtain ⟨o', T', t', ti', g1, g2, g3, g4, g5, g6⟩ := hg.at_ k hk
      refine ⟨o', T', t', ti', g1, g2, g3, g4, ?_, fun ρ => ?_⟩
      · have hne' : t ≠ t' := fun e1 => hds j hj k (List.mem_filter.1 hk).1 (Ne.symm hne) o o' h1 g1 (by rw [h3, g3, e1])
        rw [updR_ne _ _ hne]
        simp [Act.put, Array.getElem?_setIfInBounds, hne', g5]
      · rw [updR_ne _ _ hne]
        exact (g6 ρ).loc (heap_alloc_old w _ _ (hg.lt k hk))
  · rcases inv k hk with rfl | ⟨hne, hk⟩
    · rw [updR_same]; simp
    · rw [updR_ne _ _ hne]
      have := hg.lt k hk
      simp; omega
  · rcases inv k hk with rfl | ⟨hne, hk⟩
    · rw [updR_same] at hu
      obtain ⟨r, x, hm, hF⟩ := hu
      have := ho.heap.shape.bnd r x hm _ hF
      omega
    · rw [updR_ne _ _ hne] at hu
      exact hg.own k hk hu
  · rcases inv k hk with rfl | ⟨hne, hk⟩
    · rw [updR_same] at hgk
      have := ((ho.heap.shape.fact f hf).2 _ hgk).2
      omega
    · rw [updR_ne _ _ hne] at hgk
      exact hg.fx k hk f hf hgk
  · rcases inv i hi with rfl | ⟨hne, hi'⟩ <;> rcases inv k hk with rfl | ⟨hne', hk'⟩
    · rfl
    · rw [updR_same, updR_ne _ _ hne'] at he'
      have := hg.lt k hk'; omega
    · rw [updR_same, updR_ne _ _ hne] at he'
      have := hg.lt i hi'; omega
    · rw [updR_ne _ _ hne, updR_ne _ _ hne'] at he'
      exact hg.inj i hi' k hk' he'
  · rcases inv k hk with rfl | ⟨hne, hk⟩
    · rw [updR_same]; exact ho.keeps.size
    · rw [updR_ne _ _ hne]; exact hg.new k hk
omit ht in
/-- One operation of the code that may come up; or a variable that is made later. -/
theorem ready_one {Q : Exit → Act → World → Prop} {S : World → Prop} {ops : Array Oper} {fuel : Nat} {N E : List Nat} {l : Array Bool} {i : Nat} {a : Act} {w : World} (h : oneB ops N E l i = true)
    (hi : wpOp P ops Q i (fun a' w' => (i ∉ ds → S w → S w') ∧ wpAnyLast P .any ops Q S ds fuel (l.setIfInBounds i true) a' w') a w)
    (hj : ∀ j, j ∈ N → j ∉ E → wpOp P ops Q j (fun a' w' => (j ∉ ds → S w → S w') ∧ wpAnyLast P .any ops Q S ds fuel (l.setIfInBounds j true) a' w') a w) : wpAnyLast P .any ops Q S ds (fuel + 1) l a w := by
  simp only [oneB, Bool.and_eq_true, List.all_eq_true, Bool.or_eq_true, beq_iff_eq, Bool.not_eq_true', List.contains_iff_mem] at h
  refine ⟨fun h0 => ?_, fun j hr => ?_⟩
  · have := h.1; rw [h0] at this; cases this
  · rcases h.2 j hr with rfl | h2
    · exact hi
    · exact hj j h2.1 (by simpa using h2.2)
omit ht in
theorem ready_new {Q : Exit → Act → World → Prop} {S : World → Prop} {ops : Array Oper} {fuel : Nat} {N E : List Nat} {l : Array Bool} {a : Act} {w : World} (h : newB ops N E l = true)
    (hj : ∀ j, j ∈ N → j ∉ E → wpOp P ops Q j (fun a' w' => (j ∉ ds → S w → S w') ∧ wpAnyLast P .any ops Q S ds fuel (l.setIfInBounds j true) a' w') a w) : wpAnyLast P .any ops Q S ds (fuel + 1) l a w := by
  simp only [newB, Bool.and_eq_true, List.all_eq_true, Bool.not_eq_true', List.contains_iff_mem] at h
  refine ⟨fun h0 => ?_, fun j hr => ?_⟩
  · have := h.1; rw [h0] at this; simp at this
  · have h2 := h.2 j hr
    exact hj j h2.1 (by simpa using h2.2)
omit ht in
theorem OkAt.adopt {B : Bs} {ρ : Nat → Nat} {F : Nat → Nat → Prop} {st : SS} {sz : Nat} {a : Act} {w : World} (h : OkAt B ρ F st sz a w) {b : Nat} {T : TypeId} {cs : List SV} (hc : ∀ ρ, CellsAt w b (denL ρ cs) T) (hlt : b < w.heap.size) (hown : ¬ Own st.hp F b)
    (hfx : ∀ f ∈ st.fx, ¬ f.G b) (hnew : B.w0.heap.size ≤ b) : OkAt B (updR ρ st.nx b) (updR F st.nx (fun k => k = b)) ⟨st.sl, (st.nx, .cells cs T) :: st.hp, st.nx + 1, st.fx⟩ sz a w := by
  have lt1 : ∀ r x, (r, x) ∈ st.hp → r < st.nx := h.heap.shape.lt
  have hag : ∀ ρ', Ag (st.nx + 1) (updR ρ st.nx b) ρ' → Ag st.nx ρ ρ' := fun ρ' hr i hi => by rw [hr i (Nat.lt_succ_of_lt hi), updR_ne _ _ (Nat.ne_of_lt hi)]
  refine ⟨fun ρ' hr t x hm => h.slot ρ' (hag ρ' hr) t x hm, ⟨fun ρ' hr r o hm => ?_, ⟨fun r o hm => ?_, fun r o r' o' hm hm' hne k => ?_, fun r o hm k => ?_, fun f hf => ⟨(h.heap.shape.fact f hf).1, fun k hk => ⟨fun hu => ?_, ((h.heap.shape.fact f hf).2 k hk).2⟩⟩⟩⟩,
    h.size, fun r hr => by rw [updR_ne _ _ (by have := h.n0; omega)]; exact h.base r hr, Nat.le_trans h.n0 (Nat.le_succ _), h.keeps, fun k hk => ?_, h.facts, h.defers⟩
  · rcases List.mem_cons.1 hm with e | hm
    · cases e
      rw [hr st.nx (Nat.lt_succ_self _), updR_same, updR_same]
      exact ⟨fun _ => Iff.rfl, hc ρ'⟩
    · rw [updR_ne _ _ (by have := lt1 r o hm; omega)]
      exact h.heap.obj ρ' (hag ρ' hr) r o hm
  · rcases List.mem_cons.1 hm with e | hm
    · cases e; simp
    · have := lt1 r o hm; simp; omega
  · rcases List.mem_cons.1 hm with e | hm <;> rcases List.mem_cons.1 hm' with e' | hm'
    · cases e; cases e'; exact absurd rfl hne
    · cases e
      have hl := lt1 r' o' hm'
      rw [updR_same, updR_ne _ _ (by omega)]
      rintro rfl hf
      exact hown ⟨r', o', hm', hf⟩
    · cases e'
      have hl := lt1 r o hm
      rw [updR_same, updR_ne _ _ (by omega)]
      rintro hf rfl
      exact hown ⟨r, o, hm, hf⟩
    · have hl := lt1 r o hm
      have hl' := lt1 r' o' hm'
      rw [updR_ne _ _ (by omega), updR_ne _ _ (by omega)]
      exact h.heap.shape.dis r o r' o' hm hm' hne k
  · rcases List.mem_cons.1 hm with e | hm
    · cases e; rw [updR_same]; rintro rfl; exact hlt
    · have hl := lt1 r o hm
      rw [updR_ne _ _ (by omega)]
      exact h.heap.shape.bnd r o hm k
  · rcases own_new lt1 hu with rfl | h1
    · exact hfx f hf hk
    · exact ((h.heap.shape.fact f hf).2 k hk).1 h1
  · rcases own_new lt1 hk with rfl | h1
    · exact .inr hnew
    · exact h.own k h1
omit ht in
theorem news_length : ∀ pl : List NStep, (news pl).length ≤ pl.length
  | [] => Nat.le_refl _
  | s :: r => by
    have := news_length r
    cases s <;> simp only [news, List.length_cons] <;> omega
omit ht in
theorem dstNe_spec {N : List Nat} {i : Nat} (h : dstNe ops.toArray N i = true) {oi : Oper} (hi : ops[i]? = some oi) {j : Nat} (hj : j ∈ N) {oj : Oper} (ho : ops[j]? = some oj) : oj.dst ≠ oi.dst := by
  have := List.all_eq_true.1 h j hj
  simp only [List.getElem?_toArray, hi, ho, bne_iff_ne] at this
  exact this
omit ht in
theorem put_keeps {a : Act} {d : Option Tmp} {v : Value} {t : Tmp} (h : d ≠ some t) : (a.put d v).tmps[t]? = a.tmps[t]? := by
  cases d with
  | none => rfl
  | some d =>
    have : d ≠ t := fun e => h (by rw [e])
    simp [Act.put, Array.getElem?_setIfInBounds, this]
set_option maxHeartbeats 1000000 in
theorem planN_sound (hsc : idsH n hpS = true) {B : Bs} {K : Exit → SS → Prop} : ∀ (pl : List NStep), (news pl).Nodup → (∀ j ∈ news pl, j ∉ ds ∧ newOk ops.toArray j = true) →
    (∀ i ∈ news pl, ∀ j ∈ news pl, i ≠ j → ∀ oi oj, ops[i]? = some oi → ops[j]? = some oj → oi.dst ≠ oj.dst) → ∀ (l : Array Bool), planOkN ops.toArray ds pl l = true →
    ∀ (m : Nat) (e : Nat → Bool), ((news pl).filter fun k => !e k).length = m → ∀ {st : SS} {ρ F β a w}, planKN P tt sz ops hpS fxS pl st (K .normal) → OkAt B ρ F st sz a w → Gh tt ops ((news pl).filter e) β B F st a w → Ag n ρ0 ρ → n ≤ st.nx →
    ((∀ d ∈ ds, l.getD d false = false) → SHB ρ0 hpS fxS w) → wpAnyLast P .any ops.toArray (NoPanic (Lift B sz K)) (SHB ρ0 hpS fxS) ds (pl.length - ((news pl).filter e).length) (mark l ((news pl).filter e)) a w
  | [], _, _, _, l, hp, m, e, _, st, ρ, F, β, a, w, h, ho, hg, hag, hn, hS => done_ hp ⟨st, ρ, F, h, ho⟩
  | s :: r, hnd, hnw, hdd, l, hp, m, e, hm, st, ρ, F, β, a, w, h, ho, hg, hag, hn, hS => by
    induction m using Nat.strongRecOn generalizing e β a w with
    | _ m ihm =>
    have setD : ∀ (i d : Nat), (l.setIfInBounds i true).getD d false = false → l.getD d false = false := fun i d hd => by
      by_cases e : d = i
      · subst e
        by_cases hb : d < l.size
        · rw [Array.getD_eq_getD_getElem?, Array.getElem?_setIfInBounds_self_of_lt hb] at hd; simp at hd
        · rw [Array.getD_eq_getD_getElem?, Array.getElem?_eq_none (Nat.le_of_not_lt hb)]; rfl
      · rw [← getD_set_ne false (Ne.symm e)]; exact hd
    have hr0 := ho.rebase
    have hlen := news_length r
    have hEl : ((news r).filter e).length ≤ r.length := Nat.le_trans (List.length_filter_le _ _) hlen
    -- a variable that is made later, made here
    have earlyN : freeSl tt sz ops (news (s :: r)) st = true → ∀ j, j ∈ news (s :: r) → j ∉ (news (s :: r)).filter e →
        wpOp P ops.toArray (NoPanic (Lift B sz K)) j (fun a' w' => (j ∉ ds → SHB ρ0 hpS fxS w → SHB ρ0 hpS fxS w') ∧ wpAnyLast P .any ops.toArray (NoPanic (Lift B sz K)) (SHB ρ0 hpS fxS) ds ((s :: r).length - ((news (s :: r)).filter e).length - 1) ((mark l ((news (s :: r)).filter e)).setIfInBounds j true) a' w') a w := by
      intro hfree j hj hje
      have he : e j = false := by
        cases h0 : e j with
        | false => rfl
        | true => exact absurd (List.mem_filter.2 ⟨hj, h0⟩) hje
      obtain ⟨h1, h2⟩ := filter_more he hnd hj
      refine early ht hnd hfree hnw hdd ho hg hj he fun β' a' w' hs ho' hg' => ?_
      have := ihm ((news (s :: r)).filter fun k => !(k == j || e k)).length (by omega) (fun k => k == j || e k) rfl β' a' w' ho' hg' (fun hd => hs (hS hd))
      rw [h1] at this
      rw [Nat.sub_sub]
      exact this
    cases s with
    | any i =>
      simp only [planOkN, Bool.and_eq_true, List.all_eq_true] at hp
      obtain ⟨⟨hp1, hp2⟩, hp3⟩ := hp
      obtain ⟨hfree, h⟩ := checkK_elim h
      obtain ⟨oi, h1, h2⟩ := nthK_elim h
      have hi : ops.toArray[i]? = some oi := by simpa using h1
      have hany := hp1 _ (filter_subs e (news r))
      have hfu : (NStep.any i :: r).length - ((news (NStep.any i :: r)).filter e).length = (r.length - ((news r).filter e).length) + 1 := by
        simp only [news, List.length_cons]; omega
      rw [hfu]
      have go : ∀ (v : Value) (st' : SS), Yields P ops.toArray oi v a → planKN P tt sz ops hpS fxS r st' (K .normal) → OkAt ⟨st.nx, ρ, w, Own st.hp F, st.fx⟩ ρ F st' sz (a.put oi.dst v) w → wpAnyLast P .any ops.toArray (NoPanic (Lift B sz K)) (SHB ρ0 hpS fxS) ds (r.length - ((news r).filter e).length + 1) (mark l ((news r).filter e)) a w :=
        fun v st' hy h3 h4 => pure_ _ hi rfl hany (fun _ _ _ hq => hq) hy rfl (by
          rw [mark_set]
          exact planN_sound hsc r hnd hnw hdd _ hp3 _ e rfl h3 (ho.compose h4) (hg.step h4 (fun _ hj => hj) fun j hj o h5 t h6 => put_keeps fun h7 => dstNe_spec hp2 h1 (List.mem_filter.1 hj).1 h5 (h6.trans h7.symm)) hag (Nat.le_trans hn h4.n0) (fun hd => hS fun d hm => setD i d (hd d hm)))
      rcases guardK_sound (P := P) h2 hr0 with ⟨hw, st', h3, h4⟩ | ⟨hw, st', h3, h4⟩
      · obtain ⟨sl, hp', nx, fx⟩ := st'
        obtain ⟨y, h5, h6⟩ := pureK_elim (P := P) ht h3 rfl
        have hrun : ∀ w, (execOp a.eval oi).run P w = .ok (.value (den ρ y)) w := fun w =>
          h6 ρ (fun _ _ => False) a w ⟨h4.slot ρ (Ag.refl _ _), fun r o hm => by cases hm⟩ (fun f hf => by cases hf)
        have hrob : ∀ ρ', Ag nx ρ ρ' → den ρ' y = den ρ y := by
          intro ρ' hr
          have e1 := h6 ρ' (fun _ _ => False) a w ⟨h4.slot ρ' hr, fun r o hm => by cases hm⟩ (fun f hf => by cases hf)
          rw [hrun w] at e1
          simpa using e1.symm
        obtain ⟨st'', h7, h8⟩ := putK_elim h5 h4 hrob
        exact go _ st'' (.inl ⟨hw, hrun⟩) h7 h8
      · obtain ⟨st'', h7, h8⟩ := putK_elim h3 h4 (fun _ _ => rfl)
        exact go _ st'' (.inr ⟨hw, rfl⟩) h7 h8
    | load i =>
      simp only [planOkN, Bool.and_eq_true, List.all_eq_true, Bool.not_eq_true'] at hp
      obtain ⟨⟨⟨hp1, hpd⟩, hp2⟩, hp3⟩ := hp
      have hS0 := hS hpd
      obtain ⟨hfree, h⟩ := checkK_elim h
      obtain ⟨oi, h1, h2⟩ := nthK_elim h
      have hi : ops.toArray[i]? = some oi := by simpa using h1
      have hany := hp1 _ (filter_subs e (news r))
      have hfu : (NStep.load i :: r).length - ((news (NStep.load i :: r)).filter e).length = (r.length - ((news r).filter e).length) + 1 := by
        simp only [news, List.length_cons]; omega
      rw [hfu]
      have go : ∀ (v : Value) (st' : SS), YieldsIf P ops.toArray (SHB ρ0 hpS fxS) oi v a → planKN P tt sz ops hpS fxS r st' (K .normal) → OkAt ⟨st.nx, ρ, w, Own st.hp F, st.fx⟩ ρ F st' sz (a.put oi.dst v) w → wpAnyLast P .any ops.toArray (NoPanic (Lift B sz K)) (SHB ρ0 hpS fxS) ds (r.length - ((news r).filter e).length + 1) (mark l ((news r).filter e)) a w :=
        fun v st' hy h3 h4 => take_ _ hi rfl hany (fun _ _ _ hq => hq) hy hS0 rfl (by
          rw [mark_set]
          exact planN_sound hsc r hnd hnw hdd _ hp3 _ e rfl h3 (ho.compose h4) (hg.step h4 (fun _ hj => hj) fun j hj o h5 t h6 => put_keeps fun h7 => dstNe_spec hp2 h1 (List.mem_filter.1 hj).1 h5 (h6.trans h7.symm)) hag (Nat.le_trans hn h4.n0) (fun _ => hS0))
      rcases guardK_sound (P := P) h2 hr0 with ⟨hw, st', h3, h4⟩ | ⟨hw, st', h3, h4⟩
      · obtain ⟨sl, hp', nx, fx⟩ := st'
        obtain ⟨y, h5, h6⟩ := pureK_elim (P := P) ht h3 rfl
        have hle : n ≤ nx := Nat.le_trans hn h4.n0
        have hrun : ∀ ρ', Ag nx ρ ρ' → ∀ w', SHB ρ0 hpS fxS w' → (execOp a.eval oi).run P w' = .ok (.value (den ρ' y)) w' := fun ρ' hr w' hs =>
          h6 ρ' _ a w' (hs.1.base (hag.trans hr hle) hsc (h4.slot ρ' hr)) hs.1.2
        have hrob : ∀ ρ', Ag nx ρ ρ' → den ρ' y = den ρ y := by
          intro ρ' hr
          have e1 := hrun ρ' hr w hS0
          rw [hrun ρ (Ag.refl _ _) w hS0] at e1
          simpa using e1.symm
        obtain ⟨st'', h7, h8⟩ := putK_elim h5 h4 hrob
        exact go _ st'' (.inl ⟨hw, fun w' hs => hrun ρ (Ag.refl _ _) w' hs⟩) h7 h8
      · obtain ⟨st'', h7, h8⟩ := putK_elim h3 h4 (fun _ _ => rfl)
        exact go _ st'' (.inr ⟨hw, rfl⟩) h7 h8
    | one i =>
      simp only [planOkN, Bool.and_eq_true, List.all_eq_true, Bool.not_eq_true'] at hp
      obtain ⟨⟨⟨⟨hp1, hpn⟩, hpd⟩, hp2⟩, hp3⟩ := hp
      have hS0 := hS hpd
      obtain ⟨hfree, h⟩ := checkK_elim h
      obtain ⟨oi, h1, h2⟩ := nthK_elim h
      have hi : ops.toArray[i]? = some oi := by simpa using h1
      have hfu : (NStep.one i :: r).length - ((news (NStep.one i :: r)).filter e).length = (r.length - ((news r).filter e).length) + 1 := by
        simp only [news, List.length_cons]; omega
      have hea := earlyN hfree
      rw [hfu] at hea ⊢
      simp only [Nat.add_sub_cancel] at hea
      refine ready_one (hp1 _ (filter_subs e (news r))) (wpOp_step hi fun K' hK' => ?_) hea
      rcases guardK_sound (P := P) h2 hr0 with ⟨hw, st', h3, h4⟩ | ⟨hw, st', h3, h4⟩
      · rw [if_pos hw]
        refine Oper.wp_mono (fun a' w' hx => ?_) (Oper.wp_slots (opK_sound ht h3 h4))
        obtain ⟨⟨st2, ρ', F', ⟨k1, k2, k3⟩, h5⟩, hsl⟩ := hx
        have hag' : Ag n ρ0 ρ' := hag.trans h5.base hn
        have hs : SHB ρ0 hpS fxS w' := SHB.of_ok h5 hag' hsc (keepsH_mem k1) k2
        refine hK' _ _ ⟨fun _ _ => hs, ?_⟩
        rw [mark_set]
        exact planN_sound hsc r hnd hnw hdd _ hp3 _ e rfl k3 (ho.compose h5) (hg.step h5 (fun _ hj => hj) fun j hj o h6 t h7 => hsl t fun h8 => dstNe_spec hp2 h1 (List.mem_filter.1 hj).1 h6 (h7.trans h8.symm)) hag' (Nat.le_trans hn h5.n0) (fun _ => hs)
      · rw [if_neg (by rw [hw]; simp)]
        obtain ⟨st'', h7, h8⟩ := putK_elim h3 h4 (fun _ _ => rfl)
        refine hK' _ _ ⟨fun _ hs => hs, ?_⟩
        rw [mark_set]
        exact planN_sound hsc r hnd hnw hdd _ hp3 _ e rfl h7 (ho.compose h8) (hg.step h8 (fun _ hj => hj) fun j hj o h6 t h9 => put_keeps fun h10 => dstNe_spec hp2 h1 (List.mem_filter.1 hj).1 h6 (h9.trans h10.symm)) hag (Nat.le_trans hn h8.n0) (fun _ => hS0)
    | last i =>
      simp only [planOkN, Bool.and_eq_true, List.all_eq_true, List.contains_iff_mem] at hp
      obtain ⟨⟨⟨hp1, hds⟩, hp2⟩, hp3⟩ := hp
      obtain ⟨hfree, h⟩ := checkK_elim h
      obtain ⟨oi, h1, h2⟩ := nthK_elim h
      have hi : ops.toArray[i]? = some oi := by simpa using h1
      have hfu : (NStep.last i :: r).length - ((news (NStep.last i :: r)).filter e).length = (r.length - ((news r).filter e).length) + 1 := by
        simp only [news, List.length_cons]; omega
      have hea := earlyN hfree
      rw [hfu] at hea ⊢
      simp only [Nat.add_sub_cancel] at hea
      have hone := hp1 _ (filter_subs e (news r))
      have hlt : i < l.size := by
        simp only [oneB, Bool.and_eq_true, List.contains_iff_mem] at hone
        have h5 := (mem_ready.1 hone.1).1
        refine Nat.lt_of_not_le fun hle => ?_
        rw [Array.getD_eq_getD_getElem?, Array.getElem?_eq_none (by rw [mark_size]; exact hle)] at h5
        simp at h5
      have hno : ∀ w', (∀ d ∈ ds, (l.setIfInBounds i true).getD d false = false) → SHB ρ0 hpS fxS w' := fun w' hd => by
        have := hd i hds
        rw [Array.getD_eq_getD_getElem?, Array.getElem?_setIfInBounds_self_of_lt hlt] at this
        simp at this
      refine ready_one hone (wpOp_step hi fun K' hK' => ?_) hea
      rcases guardK_sound (P := P) h2 hr0 with ⟨hw, st', h3, h4⟩ | ⟨hw, st', h3, h4⟩
      · rw [if_pos hw]
        refine Oper.wp_mono (fun a' w' hx => ?_) (Oper.wp_slots (opK_sound ht h3 h4))
        obtain ⟨⟨st2, ρ', F', k3, h5⟩, hsl⟩ := hx
        refine hK' _ _ ⟨fun hn => absurd hds hn, ?_⟩
        rw [mark_set]
        exact planN_sound hsc r hnd hnw hdd _ hp3 _ e rfl k3 (ho.compose h5) (hg.step h5 (fun _ hj => hj) fun j hj o h6 t h7 => hsl t fun h8 => dstNe_spec hp2 h1 (List.mem_filter.1 hj).1 h6 (h7.trans h8.symm)) (hag.trans h5.base hn) (Nat.le_trans hn h5.n0) (hno w')
      · rw [if_neg (by rw [hw]; simp)]
        obtain ⟨st'', h7, h8⟩ := putK_elim h3 h4 (fun _ _ => rfl)
        refine hK' _ _ ⟨fun hn => absurd hds hn, ?_⟩
        rw [mark_set]
        exact planN_sound hsc r hnd hnw hdd _ hp3 _ e rfl h7 (ho.compose h8) (hg.step h8 (fun _ hj => hj) fun j hj o h6 t h9 => put_keeps fun h10 => dstNe_spec hp2 h1 (List.mem_filter.1 hj).1 h6 (h9.trans h10.symm)) hag (Nat.le_trans hn h8.n0) (hno w)
    | new i =>
      simp only [planOkN, Bool.and_eq_true, List.all_eq_true, Bool.not_eq_true', Bool.or_eq_true] at hp
      obtain ⟨⟨⟨⟨⟨hp1, hpo⟩, hpc⟩, hpd⟩, hp2⟩, hp3⟩ := hp
      obtain ⟨hfree, h⟩ := checkK_elim h
      cases hei : e i with
      | false =>
        have hea := earlyN hfree
        have hEi : (news (NStep.new i :: r)).filter e = (news r).filter e := by simp [news, hei]
        have hfu : (NStep.new i :: r).length - ((news (NStep.new i :: r)).filter e).length = (r.length - ((news r).filter e).length) + 1 := by
          rw [hEi]; simp only [List.length_cons]; omega
        rw [hfu] at hea ⊢
        simp only [Nat.add_sub_cancel] at hea
        refine ready_new ((hp1 _ (filter_subs e (i :: news r))).resolve_left fun h0 => ?_) hea
        have h0 : i ∈ (i :: news r).filter e := by simpa using h0
        have := (List.mem_filter.1 h0).2
        rw [hei] at this; cases this
      | true =>
        obtain ⟨oi, h1, h2⟩ := nthK_elim h
        split at h2
        · rename_i T hop
          obtain ⟨ti, hti, h3⟩ := tyK_elim h2
          have h4 := newK_elim h3
          have hiE : i ∈ (news (NStep.new i :: r)).filter e := List.mem_filter.2 ⟨by simp [news], hei⟩
          obtain ⟨o', T', t, ti', g1, g2, g3, g4, g5, g6⟩ := hg.at_ i hiE
          obtain rfl : o' = oi := Option.some.inj (g1.symm.trans h1)
          obtain rfl : T' = T := by rw [g2] at hop; cases hop; rfl
          obtain rfl : ti' = ti := by rw [g4] at hti; cases hti; rfl
          have had := ho.adopt g6 (hg.lt i hiE) (hg.own i hiE) (hg.fx i hiE) (hg.new i hiE)
          rw [g3] at h4
          obtain ⟨st', h7, h8⟩ := putK_elim h4 had.rebase (fun ρ' hr => by simp only [den]; rw [hr st.nx (Nat.lt_succ_self _)])
          rw [show den (updR ρ st.nx (β i)) (SV.p st.nx 0) = .pointer (some ⟨β i, 0, none⟩) by simp only [den, updR_same]] at h8
          rw [Act.put_same g5] at h8
          have hEi : (news (NStep.new i :: r)).filter e = i :: (news r).filter e := by simp [news, hei]
          have hfu : (NStep.new i :: r).length - ((news (NStep.new i :: r)).filter e).length = r.length - ((news r).filter e).length := by
            rw [hEi]; simp only [List.length_cons]; omega
          rw [hfu, hEi]
          have hnd' := List.nodup_cons.1 (show (i :: news r).Nodup from hnd)
          have mem' : ∀ j, j ∈ (news r).filter e → j ∈ (news (NStep.new i :: r)).filter e := fun j hj => by rw [hEi]; exact List.mem_cons_of_mem _ hj
          have hcomp : Gh tt ops ((news r).filter e) β B (updR F st.nx fun k => k = β i) ⟨st.sl, (st.nx, .cells ti'.zero T') :: st.hp, st.nx + 1, st.fx⟩ a w := by
            refine ⟨fun j hj => hg.at_ j (mem' j hj), fun j hj => hg.lt j (mem' j hj), fun j hj hu => ?_, fun j hj => hg.fx j (mem' j hj), fun x hx y hy => hg.inj x (mem' x hx) y (mem' y hy), fun j hj => hg.new j (mem' j hj)⟩
            rcases own_new ho.heap.shape.lt hu with h9 | h9
            · have := hg.inj j (mem' j hj) i hiE h9
              subst this
              exact hnd'.1 (List.mem_filter.1 hj).1
            · exact hg.own j (mem' j hj) h9
          have hgs : Gh tt ops ((news r).filter e) β B (updR F st.nx fun k => k = β i) st' a w := hcomp.step h8 (fun _ hj => hj) fun _ _ _ _ _ _ => rfl
          exact planN_sound hsc r hnd'.2 (fun j hj => hnw j (List.mem_cons_of_mem _ hj)) (fun x hx y hy => hdd x (List.mem_cons_of_mem _ hx) y (List.mem_cons_of_mem _ hy)) _ hp3 _ e rfl h7 (had.compose h8) hgs
            (hag.trans (Ag.updR ρ _) hn) (Nat.le_trans hn (Nat.le_trans (Nat.le_succ _) h8.n0)) (fun hd => hS fun d hm => setD i d (hd d hm))
        · exact h2.elim
omit ht in
theorem dropK_elim {k : SS → Prop} {B : Bs} {ρ : Nat → Nat} {F : Nat → Nat → Prop} {a : Act} {w : World} : ∀ {N : List Nat} {st : SS}, dropK sz ops N st k → OkAt B ρ F st sz a w → ∃ st', k st' ∧ OkAt B ρ F st' sz a w ∧ st'.hp = st.hp ∧ st'.nx = st.nx ∧ st'.fx = st.fx
  | [], st, h, ho => ⟨st, h, ho, rfl, rfl, rfl⟩
  | j :: N, st, h, ho => by
    obtain ⟨o, h1, h2⟩ := nthK_elim h
    cases hd : o.dst with
    | none => rw [hd] at h2; exact dropK_elim h2 ho
    | some t =>
      rw [hd] at h2
      unfold delK at h2
      simp only at h2
      split at h2
      · obtain ⟨sl, hp, nx, fx⟩ := st
        obtain ⟨sl', h3, h4⟩ := delK'_elim h2
        obtain ⟨st', g1, g2, g3, g4, g5⟩ := dropK_elim h3 (st := ⟨sl', hp, nx, fx⟩) ⟨fun ρ' hr t' x hm => ho.slot ρ' hr t' x (h4 _ _ hm).2, ho.heap, ho.size, ho.base, ho.n0, ho.keeps, ho.own, ho.facts, ho.defers⟩
        exact ⟨st', g1, g2, g3, g4, g5⟩
      · exact h2.elim
def dstsB (ops : List Oper) : List Nat → Bool
  | [] => true
  | i :: r => dstNe ops.toArray r i && dstsB ops r
omit ht in
theorem dstsB_spec : ∀ {N : List Nat}, dstsB ops N = true → ∀ i ∈ N, ∀ j ∈ N, i ≠ j → ∀ oi oj, ops[i]? = some oi → ops[j]? = some oj → oi.dst ≠ oj.dst
  | [], _, i, hi, _, _, _, _, _, _, _ => by cases hi
  | x :: N, h, i, hi, j, hj, hne, oi, oj, h1, h2 => by
    simp only [dstsB, Bool.and_eq_true] at h
    rcases List.mem_cons.1 hi with rfl | hi' <;> rcases List.mem_cons.1 hj with rfl | hj'
    · exact absurd rfl hne
    · exact fun e => dstNe_spec h.1 h1 hj' h2 e.symm
    · exact fun e => dstNe_spec h.1 h2 hi' h1 e
    · exact dstsB_spec h.2 i hi' j hj' hne oi oj h1 h2
def nodupB : List Nat → Bool
  | [] => true
  | x :: r => !r.contains x && nodupB r
omit ht in
theorem nodupB_spec : ∀ {l : List Nat}, nodupB l = true → l.Nodup
  | [], _ => List.nodup_nil
  | x :: r, h => by
    simp only [nodupB, Bool.and_eq_true, Bool.not_eq_true'] at h
    exact List.nodup_cons.2 ⟨by simpa using h.1, nodupB_spec h.2⟩
def allOkN (ops : List Oper) (ds : List Nat) (pl : List NStep) : Bool := nodupB (news pl) && dstsB ops (news pl) && (news pl).all (fun j => !ds.contains j && newOk ops.toArray j) && planOkN ops.toArray ds pl (Array.replicate ops.length false)
theorem draw_new (hm : P.follows .mixedOrders = true) {n0 id : Nat} {st : SS} {K : Exit → SS → Prop} (pl : List NStep) (ds : List Nat) (hpS : List (Nat × SObj))
    (hok : allOkN ops ds pl = true) (hlen : pl.length = ops.length) (hsc : idsH st.nx hpS = true) (hk : keepsH st.hp hpS) (h : dropK sz ops (news pl) st fun st' => planKN P tt sz ops hpS st.fx pl st' (K .normal)) : DrawVC P sz n0 id ops st K := by
  refine ⟨fun B ρ F a w hn ho => wp_region_noPanic ?_⟩
  simp only [allOkN, Bool.and_eq_true, List.all_eq_true, Bool.not_eq_true'] at hok
  obtain ⟨⟨⟨k1, k2⟩, k3⟩, k4⟩ := hok
  have hd := ho.drew
  obtain ⟨st', h1, h2, h3, h4, h5⟩ := dropK_elim h hd
  have hS : SHB ρ hpS st.fx w.drew := SHB.of_ok hd (Ag.refl _ _) hsc (keepsH_mem hk) (fun f hf => hf)
  refine start_ (ds := ds) (Array.replicate ops.length false) hm (by simp) rfl hS fun _ => ?_
  have := planN_sound ht hsc pl (nodupB_spec k1) (fun j hj => ⟨by have := (k3 j hj).1; simpa using this, (k3 j hj).2⟩) (dstsB_spec k2) _ k4 _ (fun _ => false) rfl h1 h2 (β := fun _ => 0)
    ⟨fun j hj => by simp at hj, fun j hj => by simp at hj, fun j hj => by simp at hj, fun j hj => by simp at hj, fun j hj => by simp at hj, fun j hj => by simp at hj⟩ (Ag.refl _ _) (by rw [h4]; exact Nat.le_refl _) (fun _ => hS)
  rw [show (news pl).filter (fun _ => false) = [] by simp] at this
  simp only [List.length_nil, Nat.sub_zero, mark] at this
  rw [hlen] at this
  exact this
/-- The same; every region may be loaded from. -/
theorem draw_all (hm : P.follows .mixedOrders = true) {n0 id : Nat} {st : SS} {K : Exit → SS → Prop} (pl : List NStep) (ds : List Nat)
    (hok : allOkN ops ds pl = true) (hlen : pl.length = ops.length) (hsc : idsH st.nx st.hp = true) (hk : keepsH st.hp st.hp) (h : dropK sz ops (news pl) st fun st' => planKN P tt sz ops st.hp st.fx pl st' (K .normal)) : DrawVC P sz n0 id ops st K :=
  draw_new ht hm pl ds st.hp hok hlen hsc hk h
omit ht in
theorem draw_opaque {n0 id : Nat} {st : SS} {K : Exit → SS → Prop} (h : ∀ K' : Exit → SS → Prop, (∀ e st, K e st → K' e st) → DrawVC P sz n0 id ops st K') : DrawVC P sz n0 id ops st K := h K fun _ _ h => h
omit ht in
theorem loop_opaque {n0 : Nat} {body : Code} {st : SS} {K : Exit → SS → Prop} (h : ∀ K' : Exit → SS → Prop, (∀ e st, K e st → K' e st) → LoopVC P sz n0 body st K') : LoopVC P sz n0 body st K := h K fun _ _ h => h
end
end Go.Proofs.YtekgjjanikicnaaDoor.Sx

namespace Go.Proofs.YtekgjjanikicnaaDoor.Sx
open Go Go.ChangeShapes Go.WideShapes Go.ChangeAt Go.RowKit
set_option linter.unusedVariables false
set_option linter.unusedSimpArgs false

/-- All blocks that there are, as they are. -/
def oldFact (W : World) : Fact := ⟨fun k => k < W.heap.size, fun w => ∀ k, k < W.heap.size → w.heap[k]? = W.heap[k]?, fun h e k hk => (e k hk).trans (h k hk)⟩
theorem oldFact_FC {W : World} {fx : List Fact} (h : oldFact W ∈ fx) {ad : Addr} {x : Value} (hc : W.cell? ad = some x) : FC fx ad x :=
  ⟨_, h, fun w hw => by rw [World.cell?_of_block (w := W) (hw ad.block (World.block_lt_of_cell? W ad hc))]; exact hc⟩
theorem Tri.calls {P : Program} {n : Nat} {args : List SV} {W : World} {post : SV → List (Nat × SObj) → Nat → List Fact → Prop} (hen : ∀ xs w, (callFunc n xs).run P w = .ok (.enter n xs) w) (T : Tri P n args [] 0 [oldFact W] post) {vs : List Value} (hvs : ∀ ρ, denL ρ args = vs)
    {v : Value} (hv : ∀ y h m f, post y h m f → ∀ ρ, den ρ y = v) : Calls P n vs.toArray W fun e W' => e = .returned v ∧ Keeps (fun _ => False) W W' := by
  have h0 : HpOk id (fun _ _ => False) [] 0 [oldFact W] W := by
    refine ⟨fun _ _ r o hm => (by cases hm), fun r o hm => (by cases hm), fun r o r' o' hm => (by cases hm), fun r o hm => (by cases hm), fun f hf => ?_⟩
    obtain rfl := List.mem_singleton.1 hf
    exact ⟨fun k _ => rfl, fun k hk => ⟨fun ⟨r, o, hm, _⟩ => (by cases hm), hk⟩⟩
  have h1 := (T.run id (fun _ _ => False) W h0 (fun ρ' _ => by rw [hvs, hvs])).enters (hen _ _)
  rw [hvs] at h1
  refine h1.mono fun e w' ⟨y, h', m', fx', ρ', F', hp, he, hy, hh1, hag, hm, hk, ho, hf⟩ => ⟨?_, hk.mono fun k ⟨r, o, hm, _⟩ => by cases hm⟩
  rw [he, hv _ _ _ _ hp]
section
variable {H : Type} {enc : TypeId × Value → H} {P : Program}
theorem trodAll_keeps {W W' : World} (hk : ∀ k, k < W.heap.size → W'.heap[k]? = W.heap[k]?) {base : Nat} {sp : Nat → Bool} {held : Bool} : ∀ {ts : List TypeId} {vs : List Value} {ds : List (DataW H)} {ps : List MemPlace},
    (∀ p ∈ ps, p.block < W.heap.size) → DataW.TrodAll enc P W base sp held ts vs ds ps → DataW.TrodAll enc P W' base sp held ts vs ds ps
  | [], [], [], _, _, h => h
  | _ :: _, _ :: _, _ :: _, _, hl, ⟨p, q, ⟨fuel, h1⟩, h2, e⟩ => by
    subst e
    refine ⟨p, q, ⟨fuel, DataW.trod_carry _ _ _ _ h1 fun x hx => ?_⟩, trodAll_keeps hk (fun x hx => hl x (List.mem_append_right _ hx)) h2, rfl⟩
    have hb := hk x.block (hl x (List.mem_append_left _ hx))
    cases x with
    | cell b off => exact World.cell?_of_block (w := W) (a := ⟨b, off, none⟩) hb
    | map b => exact hb
theorem keptBut_keeps {W W' : World} (hk : Keeps (fun _ => False) W W') (may : MemPlace → Prop) : W.keptBut W' may := by
  refine ⟨hk.os, hk.output, fun i hi => ?_⟩
  have e := hk.block i hi (fun h => h)
  rw [e]
  cases h : W.heap[i]? with
  | none => trivial
  | some o =>
    cases o with
    | cells c t fr => exact ⟨rfl, rfl, rfl, fun _ _ => rfl⟩
    | map es clk => exact Or.inr ⟨rfl, rfl⟩
    | _ => rfl
theorem post_law {f : Func} {s : ChangeSpec} {apart fresh handsOn : Bool} {W W' : World} {args : Array Value} {ds gs : List (DataW H)} {before : List MemPlace} {tb : TypeId}
    (hl : laidOutB P = true) (hm : mapsRowed P = true) (hz : ((List.range P.types.size).all fun t => match P.underlying t with | some (.slice e) => decide (0 < P.cellsOf e) | _ => true) = true)
    (hts : f.params.toList.all (fun t => decide (t < P.types.size)) = true) (hW : DataW.Whole enc P f.params.toList s.vars apart W args.toList ds gs before) (hk : Keeps (fun _ => False) W W')
    (hvars : s.vars = []) (hrt : f.resultTypes = #[tb]) (hb : P.underlying tb = some .bool) (hfn : s.fn H ds = { results := [.lit (.bool true)], args := ds }) :
    s.post enc P f apart fresh handsOn false W args (.bool true) W' := by
  have hlt := hW.lt
  have hW' := hW
  obtain ⟨p, q, hA, hV, he, hfz, hap⟩ := hW
  rw [hvars] at hV
  obtain ⟨rfl, rfl⟩ := trodVars_none hV
  have he' : before = p := by rw [he]; simp
  subst he'
  have hT : ∀ t ∈ f.params.toList, t < P.types.size := fun t ht => by simpa using List.all_eq_true.1 hts t ht
  have hA' := trodAll_keeps (W' := W') (fun k hk' => hk.block k hk' fun h => h) (fun x hx => hlt x hx) hA
  have hA2 := DataW.TrodAll.respare (spare' := fun b => decide (b < W.heap.size)) (kids_rows hl hm) (fun t e => slices_full_of P hz t e) hT hA' (fun x hx => by simpa using hlt x hx)
  refine ⟨ds, [], before, [], before, [], hW', ?_, ?_, ?_, keptBut_keeps hk _, fun h => by cases h⟩
  · rw [List.append_nil, hfn, hrt]
    exact trodAll_mk1 (shut_bool hb true)
  · rw [List.append_nil, hfn]
    exact hA2
  · rw [hvars, List.append_nil, hfn]
    rfl
end
end Go.Proofs.YtekgjjanikicnaaDoor.Sx

namespace Go.Proofs.YtekgjjanikicnaaDoor.Sx
theorem n1 {p : Prop} [Decidable p] : (decide p = true) = p := decide_eq_true_eq
theorem n2 {p : Prop} [Decidable p] : (decide p = false) ↔ ¬ p := decide_eq_false_iff_not
theorem n3 {b : Bool} : ((!b) = true) = (b = false) := Bool.not_eq_true' b
theorem n4 {b : Bool} : ((!b) = false) = (b = true) := Bool.not_eq_false' b
theorem n5 : (!true) = false := Bool.not_true
theorem n6 : (!false) = true := Bool.not_false
end Go.Proofs.YtekgjjanikicnaaDoor.Sx

namespace Go.Proofs.YtekgjjanikicnaaDoor.Sx
open Go
set_option linter.unusedVariables false

/-- What is handed back, up to names and folding. -/
def Ret (m0 : Nat) (v : SV) (h' : List (Nat × SObj)) (m1 : Nat) (f' : List Fact) (y : SV) (h : List (Nat × SObj)) (m : Nat) (f : List Fact) : Prop :=
  Done (∃ σ h2, Fold h h2 ∧ namesOk m0 m m1 σ (h'.map (·.1)) = true ∧ SEq m1 σ v y ∧ heapSub m1 σ h2 h' ∧ ∀ g, g ∈ f' → g ∈ f)
/-- The same, of something that there is. -/
def RetE {α : Type} (m0 : Nat) (pr : α → Prop) (v : α → SV) (h' : α → List (Nat × SObj)) (m1 : Nat) (f' : α → List Fact) (y : SV) (h : List (Nat × SObj)) (m : Nat) (f : List Fact) : Prop :=
  ∃ a, pr a ∧ Ret m0 (v a) (h' a) m1 (f' a) y h m f
theorem Tri.conv {P : Program} {n : Nat} {args : List SV} {hp : List (Nat × SObj)} {m : Nat} {fx : List Fact} {α : Type} {pr : α → Prop} {v : α → SV} {h1 : α → List (Nat × SObj)} {m1 : Nat} {f1 : α → List Fact}
    (T : Tri P n args hp m fx (RetE m pr v h1 m1 f1)) : Tri P n args hp m fx (fun y h m' f => ∃ a, pr a ∧ y = v a ∧ h = h1 a ∧ m' = m1 ∧ f = f1 a) := by
  refine ⟨T.enter, fun ρ F w hh hrob => (T.run ρ F w hh hrob).mono fun e w' ⟨y, h', m', fx', ρ', F', ⟨a, hpr, hR⟩, he, hy, hh1, hag, hm, hk, ho, hf⟩ => ?_⟩
  obtain ⟨σ, h2, hF, hn, hv, hs, hg⟩ := hR.out
  obtain ⟨F2, h3, h4⟩ := hF _ _ _ _ _ hh1
  obtain ⟨k1, k2, k3, k4⟩ := namesOk_spec hn
  have mk : ∀ r o, (r, o) ∈ h1 a → r ∈ (h1 a).map (·.1) := fun r o hm => List.mem_map.2 ⟨_, hm, rfl⟩
  have ownS : ∀ k, Own (h1 a) (fun r => F2 (sg σ r)) k → Own h2 F2 k := by
    rintro k ⟨r, o', hm, hF⟩
    obtain ⟨o, h5, _⟩ := heapSub_mem hs r o' hm
    exact ⟨_, o, h5, hF⟩
  refine ⟨v a, h1 a, m1, f1 a, fun r => ρ' (sg σ r), fun r => F2 (sg σ r), ⟨a, hpr, rfl, rfl, rfl, rfl⟩, ?_, fun ρ'' hr => ?_, ⟨?_, ?_, ?_, ?_, ?_⟩, ?_, k1, hk, fun k hk' => ho k (h4 k (ownS k hk')), fun f hf' => hf f (hg f hf')⟩
  · rw [he, hv ρ' (fun r => ρ' (sg σ r)) (fun _ _ => rfl)]
  · rw [hv ρ' ρ'' (fun i hi => hr i hi), hv ρ' (fun r => ρ' (sg σ r)) (fun _ _ => rfl)]
  · intro ρ'' hr r o' hm
    obtain ⟨o, h5, h6⟩ := heapSub_mem hs r o' hm
    have := h6 ρ' ρ'' (fun i hi => hr i hi) w' (ρ' (sg σ r)) (F2 (sg σ r)) (h3.obj ρ' (Ag.refl _ _) _ _ h5)
    rw [hr r (k3 r (mk r o' hm)).1]
    exact this
  · exact fun r o' hm => (k3 r (mk r o' hm)).1
  · intro r o1 r' o2 hm hm' hne
    obtain ⟨o, h5, _⟩ := heapSub_mem hs r o1 hm
    obtain ⟨o', h5', _⟩ := heapSub_mem hs r' o2 hm'
    exact h3.shape.dis _ o _ o' h5 h5' (k4 r (mk r o1 hm) r' (mk r' o2 hm') hne)
  · intro r o' hm
    obtain ⟨o, h5, _⟩ := heapSub_mem hs r o' hm
    exact h3.shape.bnd _ o h5
  · intro f hf
    have := h3.shape.fact f (hg f hf)
    exact ⟨this.1, fun k hk => ⟨fun hu => (this.2 k hk).1 (ownS k hu), (this.2 k hk).2⟩⟩
  · intro r hr
    show ρ' (sg σ r) = _
    rw [k2 r hr]; exact hag r hr
/-- A contract, used where there is more around. -/
theorem Tri.use {P : Program} {n : Nat} {args : List SV} {hp : List (Nat × SObj)} {m : Nat} {fx : List Fact} {α : Type} {pr : α → Prop} {v : α → SV} {h1 : α → List (Nat × SObj)} {m1 : Nat} {f1 : α → List Fact}
    (T : Tri P n args hp m fx (RetE m pr v h1 m1 f1)) (σ : List Nat)
    {args' : List SV} {H : List (Nat × SObj)} {nx : Nat} {FX : List Fact} {post' : SV → List (Nat × SObj) → Nat → List Fact → Prop} (hok : callOk m nx σ (hp.map (·.1)) = true)
    (hargs : ∀ ρ ρ'', AgS m σ ρ ρ'' → denL ρ'' args = denL ρ args') (hobj : heapSub m σ H hp) (hfx : ∀ f, f ∈ fx → f ∈ FX)
    (hpost : ∀ a, pr a → afterK m nx σ (hp.map (·.1)) H FX (v a) (h1 a) m1 (f1 a) post') : Tri P n args' H nx FX post' :=
  T.conv.at σ hok hargs hobj hfx fun y h m1' f1' ⟨a, hpr, e1, e2, e3, e4⟩ => by subst e1 e2 e3 e4; exact hpost a hpr
theorem Ret.mk {m0 : Nat} {v : SV} {h' : List (Nat × SObj)} {m1 : Nat} {f' : List Fact} {y : SV} {h : List (Nat × SObj)} {m : Nat} {f : List Fact}
    (σ : List Nat) (h2 : List (Nat × SObj)) (hF : Fold h h2) (hn : namesOk m0 m m1 σ (h'.map (·.1)) = true) (hv : SEq m1 σ v y) (hs : heapSub m1 σ h2 h') (hg : ∀ g, g ∈ f' → g ∈ f) : Ret m0 v h' m1 f' y h m f :=
  Done.mk ⟨σ, h2, hF, hn, hv, hs, hg⟩
/-- No region is left, or is spoken of. -/
theorem Ret.none {m0 : Nat} {v : Value} {f' : List Fact} {y : SV} {h : List (Nat × SObj)} {m : Nat} {f : List Fact} (hm : Nat.ble m0 m = true) (hv : ∀ ρ, den ρ y = v) (hg : ∀ g, g ∈ f' → g ∈ f) : Ret m0 (.v v) [] m0 f' y h m f := by
  refine Done.mk ⟨List.range m0, [], Fold.drop (by simp), ?_, fun ρ ρ'' _ => (hv ρ).symm, trivial, hg⟩
  simp [namesOk, Nat.ble_eq, sg, List.getD_eq_getElem?_getD]
  intro x hx; simp [hx]
theorem Ret.noneS {m0 : Nat} {v : SV} {f' : List Fact} {y : SV} {h : List (Nat × SObj)} {m : Nat} {f : List Fact} (hm : Nat.ble m0 m = true) (hv : ∀ ρ ρ'', den ρ'' v = den ρ y) (hg : ∀ g, g ∈ f' → g ∈ f) : Ret m0 v [] m0 f' y h m f := by
  refine Done.mk ⟨List.range m0, [], Fold.drop (by simp), ?_, fun ρ ρ'' _ => hv ρ ρ'', trivial, hg⟩
  simp [namesOk, Nat.ble_eq, sg, List.getD_eq_getElem?_getD]
  intro x hx; simp [hx]
/-- Nothing is chosen. -/
theorem Tri.one {P : Program} {n : Nat} {args : List SV} {hp : List (Nat × SObj)} {m : Nat} {fx : List Fact} {v : SV} {h' : List (Nat × SObj)} {m1 m0 : Nat} {f' : List Fact}
    (T : Tri P n args hp m fx (Ret m0 v h' m1 f')) : Tri P n args hp m fx (RetE (α := Unit) m0 (fun _ => True) (fun _ => v) (fun _ => h') m1 (fun _ => f')) :=
  T.mono fun y h m f hR => ⟨(), trivial, hR⟩
theorem Tri.reval {P : Program} {n : Nat} {args : List SV} {hp : List (Nat × SObj)} {m : Nat} {fx : List Fact} {pr : Unit → Prop} {v v' : SV} {h1 : Unit → List (Nat × SObj)} {m0 m1 : Nat} {f1 : Unit → List Fact}
    (T : Tri P n args hp m fx (RetE (α := Unit) m0 pr (fun _ => v) h1 m1 f1)) (e : ∀ ρ, den ρ v' = den ρ v) : Tri P n args hp m fx (RetE (α := Unit) m0 pr (fun _ => v') h1 m1 f1) :=
  T.mono fun y h m f ⟨a, hp, hR⟩ => ⟨a, hp, by
    obtain ⟨σ, h2, k1, k2, k3, k4, k5⟩ := hR.out
    exact Done.mk ⟨σ, h2, k1, k2, fun ρ ρ'' ha => (e ρ'').trans (k3 ρ ρ'' ha), k4, k5⟩⟩
theorem SEq.ren {n : Nat} {σ : List Nat} {x y : SV} (h : idsB n x = true) (e : Sx.ren (sg σ) x = y) : SEq n σ x y := fun ρ ρ'' ha => by
  rw [← e, den_ren]
  exact den_ids (fun i hi => ha i hi) x h
def idsA (n : Nat) : SObj → Bool
  | .cells cs _ => idsL n cs
  | .row _ _ => true
  | .map _ _ => true
  | .iter mr _ _ _ => Nat.blt mr n
  | .abs _ => true
theorem OSub.ren {n : Nat} {σ : List Nat} {x y : SObj} (h : idsA n x = true) (e : renO (sg σ) x = y) : OSub n σ x y := fun ρ ρ'' ha w b F ho => by
  subst e
  rw [objOk_ren] at ho
  cases x with
  | cells cs T => simp only [idsA] at h; simp only [ObjOk, denL_ids (ρ := fun i => ρ (sg σ i)) (ρ' := ρ'') (fun i hi => ha i hi) cs h]; exact ho
  | row xs T => exact ho
  | map es clk => exact ho
  | iter mr since seen stepped => simp only [idsA, Nat.blt_eq] at h; simp only [ObjOk, ha mr h]; exact ho
  | abs A => exact ho
theorem OSub.cells {n : Nat} {σ : List Nat} {cs : List SV} {vs : List Value} {T : TypeId} (h : ∀ ρ, denL ρ cs = vs) : OSub n σ (.row vs T) (.cells cs T) := fun ρ ρ'' ha w b F ho => by
  simp only [ObjOk, h ρ] at ho
  exact ho
/-- Numbers and Bools, known or not, alike. -/
def nrm : SV → SV
  | .b t => .v (.bool t)
  | .k kd n => .v (.int kd n)
  | x => x
theorem den_nrm (ρ : Nat → Nat) (x : SV) : den ρ (nrm x) = den ρ x := by cases x <;> rfl
theorem denL_nrm (ρ : Nat → Nat) : ∀ l : List SV, denL ρ (l.map nrm) = denL ρ l
  | [] => rfl
  | x :: r => by simp only [List.map_cons, denL_cons, den_nrm, denL_nrm ρ r]
theorem args_ren {n : Nat} {σ : List Nat} {xs ys : List SV} (h : idsL n xs = true) (e : (renL (sg σ) xs).map nrm = ys.map nrm) : ∀ ρ ρ'', AgS n σ ρ ρ'' → denL ρ'' xs = denL ρ ys := fun ρ ρ'' ha => by
  rw [← denL_nrm ρ ys, ← e, denL_nrm, denL_ren]
  exact denL_ids (fun i hi => ha i hi) xs h
theorem SEq.nrm {n : Nat} {σ : List Nat} {x y : SV} (h : idsB n x = true) (e : Sx.nrm (Sx.ren (sg σ) x) = Sx.nrm y) : SEq n σ x y := fun ρ ρ'' ha => by
  rw [← den_nrm ρ y, ← e, den_nrm, den_ren]
  exact den_ids (fun i hi => ha i hi) x h
/-- Cells that hang on no names. -/
inductive Pl : List SV → List Value → Prop where
  | nil : Pl [] []
  | v {x : Value} {r : List SV} {l : List Value} : Pl r l → Pl (.v x :: r) (x :: l)
  | b {x : Bool} {r : List SV} {l : List Value} : Pl r l → Pl (.b x :: r) (.bool x :: l)
  | k {kd : IntKind} {n : Int} {r : List SV} {l : List Value} : Pl r l → Pl (.k kd n :: r) (.int kd n :: l)
theorem Pl.den : ∀ {l : List SV} {vs : List Value}, Pl l vs → ∀ ρ, denL ρ l = vs
  | _, _, .nil, ρ => rfl
  | _, _, .v h, ρ => by simp only [denL_cons, Sx.den, h.den ρ]
  | _, _, .b h, ρ => by simp only [denL_cons, Sx.den, h.den ρ]
  | _, _, .k h, ρ => by simp only [denL_cons, Sx.den, h.den ρ]
end Go.Proofs.YtekgjjanikicnaaDoor.Sx

namespace Go.Proofs.YtekgjjanikicnaaDoor.Sx
open Go
set_option maxRecDepth 100000
def tt0 : List (Option TI) := [
  some (TI.mk (TypeDesc.tuple (Array.mk [])) 1 0 ([SV.v (Value.tuple (Array.mk []))])),
  some (TI.mk (TypeDesc.func (Array.mk []) (Array.mk []) false) 1 8 ([SV.v Value.nilFunc])),
  some (TI.mk (TypeDesc.int IntKind.i64) 1 8 ([SV.k IntKind.i64 0])),
  some (TI.mk (TypeDesc.int IntKind.i64) 1 8 ([SV.k IntKind.i64 0])),
  some (TI.mk TypeDesc.bool 1 1 ([SV.b false])),
  some (TI.mk (TypeDesc.int IntKind.u8) 1 1 ([SV.k IntKind.u8 0])),
  some (TI.mk (TypeDesc.int IntKind.u8) 1 1 ([SV.k IntKind.u8 0])),
  some (TI.mk (TypeDesc.struct (Array.mk [Field.mk "x" 2 0 false "" "runtime" 0, Field.mk "y" 3 1 false "" "runtime" 8, Field.mk "signed" 4 2 false "" "runtime" 16, Field.mk "code" 6 3 false "" "runtime" 17])) 4 24 ([SV.k IntKind.i64 0, SV.k IntKind.i64 0] ++ [SV.b false] ++ [SV.k IntKind.u8 0])),
  some (TI.mk (TypeDesc.struct (Array.mk [Field.mk "x" 2 0 false "" "runtime" 0, Field.mk "y" 3 1 false "" "runtime" 8, Field.mk "signed" 4 2 false "" "runtime" 16, Field.mk "code" 6 3 false "" "runtime" 17])) 4 24 ([SV.k IntKind.i64 0, SV.k IntKind.i64 0] ++ [SV.b false] ++ [SV.k IntKind.u8 0])),
  some (TI.mk TypeDesc.string 1 16 ([SV.v (Value.string (ByteArray.mk (Array.mk [])))])),
  some (TI.mk TypeDesc.string 1 16 ([SV.v (Value.string (ByteArray.mk (Array.mk [])))])),
  some (TI.mk TypeDesc.string 1 16 ([SV.v (Value.string (ByteArray.mk (Array.mk [])))])),
  some (TI.mk (TypeDesc.int IntKind.u64) 1 8 ([SV.k IntKind.u64 0])),
  some (TI.mk (TypeDesc.struct (Array.mk [Field.mk "msg" 9 0 false "" "runtime" 0, Field.mk "addr" 12 1 false "" "runtime" 16])) 2 24 ([SV.v (Value.string (ByteArray.mk (Array.mk [])))] ++ [SV.k IntKind.u64 0])),
  some (TI.mk (TypeDesc.struct (Array.mk [Field.mk "msg" 9 0 false "" "runtime" 0, Field.mk "addr" 12 1 false "" "runtime" 16])) 2 24 ([SV.v (Value.string (ByteArray.mk (Array.mk [])))] ++ [SV.k IntKind.u64 0])),
  some (TI.mk (TypeDesc.pointer 223) 1 8 ([SV.v (Value.pointer none)])),
  some (TI.mk (TypeDesc.pointer 226) 1 8 ([SV.v (Value.pointer none)])),
  some (TI.mk (TypeDesc.pointer 234) 1 8 ([SV.v (Value.pointer none)])),
  some (TI.mk (TypeDesc.struct (Array.mk [Field.mk "typ" 17 0 false "" "internal/runtime/maps" 0])) 1 8 ([SV.v (Value.pointer none)])),
  some (TI.mk (TypeDesc.struct (Array.mk [Field.mk "typ" 17 0 false "" "internal/runtime/maps" 0])) 1 8 ([SV.v (Value.pointer none)])),
  some (TI.mk (TypeDesc.interface (Array.mk [])) 1 16 ([SV.v Value.nilIface])),
  some (TI.mk (TypeDesc.int IntKind.i32) 1 4 ([SV.k IntKind.i32 0])),
  some (TI.mk (TypeDesc.int IntKind.u64) 1 8 ([SV.k IntKind.u64 0])),
  some (TI.mk (TypeDesc.array 4 22) 4 32 ([SV.k IntKind.u64 0, SV.k IntKind.u64 0, SV.k IntKind.u64 0, SV.k IntKind.u64 0])),
  some (TI.mk (TypeDesc.array 4 22) 4 32 ([SV.k IntKind.u64 0, SV.k IntKind.u64 0, SV.k IntKind.u64 0, SV.k IntKind.u64 0])),
  some (TI.mk (TypeDesc.struct (Array.mk [Field.mk "X" 24 0 false "" "" 0, Field.mk "Y" 24 4 false "" "" 32, Field.mk "None" 4 8 false "" "" 64])) 9 72 ([SV.k IntKind.u64 0, SV.k IntKind.u64 0, SV.k IntKind.u64 0, SV.k IntKind.u64 0, SV.k IntKind.u64 0, SV.k IntKind.u64 0, SV.k IntKind.u64 0, SV.k IntKind.u64 0] ++ [SV.b false])),
  some (TI.mk (TypeDesc.struct (Array.mk [Field.mk "X" 24 0 false "" "" 0, Field.mk "Y" 24 4 false "" "" 32, Field.mk "None" 4 8 false "" "" 64])) 9 72 ([SV.k IntKind.u64 0, SV.k IntKind.u64 0, SV.k IntKind.u64 0, SV.k IntKind.u64 0, SV.k IntKind.u64 0, SV.k IntKind.u64 0, SV.k IntKind.u64 0, SV.k IntKind.u64 0] ++ [SV.b false])),
  some (TI.mk (TypeDesc.func (Array.mk []) (Array.mk [4]) false) 1 8 ([SV.v Value.nilFunc])),
  some (TI.mk (TypeDesc.func (Array.mk [26]) (Array.mk [4]) false) 1 8 ([SV.v Value.nilFunc])),
  some (TI.mk (TypeDesc.func (Array.mk [26, 26]) (Array.mk [26]) false) 1 8 ([SV.v Value.nilFunc])),
  some (TI.mk (TypeDesc.func (Array.mk [26, 26]) (Array.mk [4]) false) 1 8 ([SV.v Value.nilFunc])),
  some (TI.mk (TypeDesc.func (Array.mk [24, 26]) (Array.mk [26]) false) 1 8 ([SV.v Value.nilFunc])),
  some (TI.mk (TypeDesc.func (Array.mk [24, 26]) (Array.mk [4]) false) 1 8 ([SV.v Value.nilFunc])),
  some (TI.mk (TypeDesc.func (Array.mk []) (Array.mk [26]) false) 1 8 ([SV.v Value.nilFunc])),
  some (TI.mk (TypeDesc.func (Array.mk [24, 26, 24, 26]) (Array.mk [26]) false) 1 8 ([SV.v Value.nilFunc])),
  some (TI.mk (TypeDesc.func (Array.mk [24, 26, 24]) (Array.mk [4]) false) 1 8 ([SV.v Value.nilFunc])),
  some (TI.mk (TypeDesc.tuple (Array.mk [24, 4])) 1 0 ([SV.v (Value.tuple (Array.mk [Value.agg (Array.mk [Value.int IntKind.u64 (Int.ofNat 0), Value.int IntKind.u64 (Int.ofNat 0), Value.int IntKind.u64 (Int.ofNat 0), Value.int IntKind.u64 (Int.ofNat 0)]), Value.bool false]))])),
  some (TI.mk (TypeDesc.func (Array.mk [24, 24]) (Array.mk [24, 4]) false) 1 8 ([SV.v Value.nilFunc])),
  some (TI.mk (TypeDesc.func (Array.mk [24, 24, 24]) (Array.mk [4]) false) 1 8 ([SV.v Value.nilFunc])),
  some (TI.mk (TypeDesc.func (Array.mk [3]) (Array.mk [24]) false) 1 8 ([SV.v Value.nilFunc]))]
def tt1 : List (Option TI) := [
  some (TI.mk (TypeDesc.func (Array.mk [3, 24, 24]) (Array.mk [24]) false) 1 8 ([SV.v Value.nilFunc])),
  some (TI.mk (TypeDesc.func (Array.mk [3, 24]) (Array.mk [24]) false) 1 8 ([SV.v Value.nilFunc])),
  some (TI.mk (TypeDesc.func (Array.mk [24]) (Array.mk [4]) false) 1 8 ([SV.v Value.nilFunc])),
  some (TI.mk (TypeDesc.func (Array.mk [24, 24]) (Array.mk [4]) false) 1 8 ([SV.v Value.nilFunc])),
  some (TI.mk (TypeDesc.array 32 5) 32 32 (List.replicate 32 (SV.k IntKind.u8 0))),
  some (TI.mk (TypeDesc.array 32 5) 32 32 (List.replicate 32 (SV.k IntKind.u8 0))),
  some (TI.mk (TypeDesc.struct (Array.mk [Field.mk "Origin" 9 0 false "" "" 0, Field.mk "Size" 3 1 false "" "" 16, Field.mk "Root" 45 2 false "" "" 24])) 34 56 ([SV.v (Value.string (ByteArray.mk (Array.mk [])))] ++ [SV.k IntKind.i64 0] ++ List.replicate 32 (SV.k IntKind.u8 0))),
  some (TI.mk (TypeDesc.struct (Array.mk [Field.mk "Origin" 9 0 false "" "" 0, Field.mk "Size" 3 1 false "" "" 16, Field.mk "Root" 45 2 false "" "" 24])) 34 56 ([SV.v (Value.string (ByteArray.mk (Array.mk [])))] ++ [SV.k IntKind.i64 0] ++ List.replicate 32 (SV.k IntKind.u8 0))),
  some (TI.mk (TypeDesc.slice 106) 1 24 ([SV.v (Value.slice none 0 0)])),
  some (TI.mk (TypeDesc.func (Array.mk [48]) (Array.mk [4]) false) 1 8 ([SV.v Value.nilFunc])),
  some (TI.mk (TypeDesc.tuple (Array.mk [9, 4])) 1 0 ([SV.v (Value.tuple (Array.mk [Value.string (ByteArray.mk (Array.mk [])), Value.bool false]))])),
  some (TI.mk (TypeDesc.func (Array.mk [52]) (Array.mk [9, 4]) false) 1 8 ([SV.v Value.nilFunc])),
  some (TI.mk (TypeDesc.struct (Array.mk [Field.mk "Origin" 9 0 false "" "" 0, Field.mk "Size" 3 1 false "" "" 16, Field.mk "Root" 45 2 false "" "" 24])) 34 56 ([SV.v (Value.string (ByteArray.mk (Array.mk [])))] ++ [SV.k IntKind.i64 0] ++ List.replicate 32 (SV.k IntKind.u8 0))),
  some (TI.mk (TypeDesc.func (Array.mk [47]) (Array.mk [9, 4]) false) 1 8 ([SV.v Value.nilFunc])),
  some (TI.mk (TypeDesc.int IntKind.i64) 1 8 ([SV.k IntKind.i64 0])),
  some (TI.mk (TypeDesc.tuple (Array.mk [9, 54])) 1 0 ([SV.v (Value.tuple (Array.mk [Value.string (ByteArray.mk (Array.mk [])), Value.int IntKind.i64 (Int.ofNat 0)]))])),
  some (TI.mk (TypeDesc.func (Array.mk [52, 57]) (Array.mk [9, 54]) false) 1 8 ([SV.v Value.nilFunc])),
  some (TI.mk (TypeDesc.slice 108) 1 24 ([SV.v (Value.slice none 0 0)])),
  some (TI.mk (TypeDesc.func (Array.mk [48]) (Array.mk [57]) false) 1 8 ([SV.v Value.nilFunc])),
  some (TI.mk (TypeDesc.func (Array.mk [47, 48]) (Array.mk [9, 54]) false) 1 8 ([SV.v Value.nilFunc])),
  some (TI.mk (TypeDesc.func (Array.mk [47, 48]) (Array.mk [4]) false) 1 8 ([SV.v Value.nilFunc])),
  some (TI.mk (TypeDesc.slice 5) 1 24 ([SV.v (Value.slice none 0 0)])),
  some (TI.mk (TypeDesc.tuple (Array.mk [26, 4])) 1 0 ([SV.v (Value.tuple (Array.mk [Value.agg (Array.mk [Value.int IntKind.u64 (Int.ofNat 0), Value.int IntKind.u64 (Int.ofNat 0), Value.int IntKind.u64 (Int.ofNat 0), Value.int IntKind.u64 (Int.ofNat 0), Value.int IntKind.u64 (Int.ofNat 0), Value.int IntKind.u64 (Int.ofNat 0), Value.int IntKind.u64 (Int.ofNat 0), Value.int IntKind.u64 (Int.ofNat 0), Value.bool false]), Value.bool false]))])),
  some (TI.mk (TypeDesc.func (Array.mk [61]) (Array.mk [26, 4]) false) 1 8 ([SV.v Value.nilFunc])),
  some (TI.mk (TypeDesc.func (Array.mk [26]) (Array.mk [61]) false) 1 8 ([SV.v Value.nilFunc])),
  some (TI.mk (TypeDesc.func (Array.mk [61, 61]) (Array.mk [4]) false) 1 8 ([SV.v Value.nilFunc])),
  some (TI.mk (TypeDesc.func (Array.mk [26, 61]) (Array.mk [4]) false) 1 8 ([SV.v Value.nilFunc])),
  some (TI.mk (TypeDesc.func (Array.mk [26, 24]) (Array.mk [4]) false) 1 8 ([SV.v Value.nilFunc])),
  some (TI.mk (TypeDesc.struct (Array.mk [Field.mk "Name" 9 0 false "" "" 0, Field.mk "Kind" 5 1 false "" "" 16, Field.mk "Public" 61 2 false "" "" 24])) 3 48 ([SV.v (Value.string (ByteArray.mk (Array.mk [])))] ++ [SV.k IntKind.u8 0] ++ [SV.v (Value.slice none 0 0)])),
  some (TI.mk (TypeDesc.struct (Array.mk [Field.mk "Name" 9 0 false "" "" 0, Field.mk "Kind" 5 1 false "" "" 16, Field.mk "Public" 61 2 false "" "" 24])) 3 48 ([SV.v (Value.string (ByteArray.mk (Array.mk [])))] ++ [SV.k IntKind.u8 0] ++ [SV.v (Value.slice none 0 0)])),
  some (TI.mk (TypeDesc.int IntKind.u32) 1 4 ([SV.k IntKind.u32 0])),
  some (TI.mk (TypeDesc.func (Array.mk [72]) (Array.mk [70]) false) 1 8 ([SV.v Value.nilFunc])),
  some (TI.mk (TypeDesc.struct (Array.mk [Field.mk "Name" 9 0 false "" "" 0, Field.mk "Kind" 5 1 false "" "" 16, Field.mk "Public" 61 2 false "" "" 24])) 3 48 ([SV.v (Value.string (ByteArray.mk (Array.mk [])))] ++ [SV.k IntKind.u8 0] ++ [SV.v (Value.slice none 0 0)])),
  some (TI.mk (TypeDesc.func (Array.mk [69]) (Array.mk [70]) false) 1 8 ([SV.v Value.nilFunc])),
  some (TI.mk (TypeDesc.func (Array.mk [69]) (Array.mk [4]) false) 1 8 ([SV.v Value.nilFunc])),
  some (TI.mk (TypeDesc.func (Array.mk [22]) (Array.mk [9]) false) 1 8 ([SV.v Value.nilFunc])),
  some (TI.mk (TypeDesc.tuple (Array.mk [22, 4])) 1 0 ([SV.v (Value.tuple (Array.mk [Value.int IntKind.u64 (Int.ofNat 0), Value.bool false]))])),
  some (TI.mk (TypeDesc.func (Array.mk [9]) (Array.mk [22, 4]) false) 1 8 ([SV.v Value.nilFunc])),
  some (TI.mk (TypeDesc.func (Array.mk [22]) (Array.mk [4]) false) 1 8 ([SV.v Value.nilFunc])),
  some (TI.mk (TypeDesc.func (Array.mk [9]) (Array.mk [4]) false) 1 8 ([SV.v Value.nilFunc]))]
def tt2 : List (Option TI) := [
  some (TI.mk (TypeDesc.func (Array.mk [22, 9]) (Array.mk [4]) false) 1 8 ([SV.v Value.nilFunc])),
  some (TI.mk (TypeDesc.tuple (Array.mk [52, 57, 54])) 1 0 ([SV.v (Value.tuple (Array.mk [Value.agg (Array.mk [Value.string (ByteArray.mk (Array.mk [])), Value.int IntKind.i64 (Int.ofNat 0), Value.int IntKind.u8 (Int.ofNat 0), Value.int IntKind.u8 (Int.ofNat 0), Value.int IntKind.u8 (Int.ofNat 0), Value.int IntKind.u8 (Int.ofNat 0), Value.int IntKind.u8 (Int.ofNat 0), Value.int IntKind.u8 (Int.ofNat 0), Value.int IntKind.u8 (Int.ofNat 0), Value.int IntKind.u8 (Int.ofNat 0), Value.int IntKind.u8 (Int.ofNat 0), Value.int IntKind.u8 (Int.ofNat 0), Value.int IntKind.u8 (Int.ofNat 0), Value.int IntKind.u8 (Int.ofNat 0), Value.int IntKind.u8 (Int.ofNat 0), Value.int IntKind.u8 (Int.ofNat 0), Value.int IntKind.u8 (Int.ofNat 0), Value.int IntKind.u8 (Int.ofNat 0), Value.int IntKind.u8 (Int.ofNat 0), Value.int IntKind.u8 (Int.ofNat 0), Value.int IntKind.u8 (Int.ofNat 0), Value.int IntKind.u8 (Int.ofNat 0), Value.int IntKind.u8 (Int.ofNat 0), Value.int IntKind.u8 (Int.ofNat 0), Value.int IntKind.u8 (Int.ofNat 0), Value.int IntKind.u8 (Int.ofNat 0), Value.int IntKind.u8 (Int.ofNat 0), Value.int IntKind.u8 (Int.ofNat 0), Value.int IntKind.u8 (Int.ofNat 0), Value.int IntKind.u8 (Int.ofNat 0), Value.int IntKind.u8 (Int.ofNat 0), Value.int IntKind.u8 (Int.ofNat 0), Value.int IntKind.u8 (Int.ofNat 0), Value.int IntKind.u8 (Int.ofNat 0)]), Value.slice none 0 0, Value.int IntKind.i64 (Int.ofNat 0)]))])),
  some (TI.mk (TypeDesc.func (Array.mk [9]) (Array.mk [52, 57, 54]) false) 1 8 ([SV.v Value.nilFunc])),
  some (TI.mk (TypeDesc.tuple (Array.mk [47, 48, 54])) 1 0 ([SV.v (Value.tuple (Array.mk [Value.agg (Array.mk [Value.string (ByteArray.mk (Array.mk [])), Value.int IntKind.i64 (Int.ofNat 0), Value.int IntKind.u8 (Int.ofNat 0), Value.int IntKind.u8 (Int.ofNat 0), Value.int IntKind.u8 (Int.ofNat 0), Value.int IntKind.u8 (Int.ofNat 0), Value.int IntKind.u8 (Int.ofNat 0), Value.int IntKind.u8 (Int.ofNat 0), Value.int IntKind.u8 (Int.ofNat 0), Value.int IntKind.u8 (Int.ofNat 0), Value.int IntKind.u8 (Int.ofNat 0), Value.int IntKind.u8 (Int.ofNat 0), Value.int IntKind.u8 (Int.ofNat 0), Value.int IntKind.u8 (Int.ofNat 0), Value.int IntKind.u8 (Int.ofNat 0), Value.int IntKind.u8 (Int.ofNat 0), Value.int IntKind.u8 (Int.ofNat 0), Value.int IntKind.u8 (Int.ofNat 0), Value.int IntKind.u8 (Int.ofNat 0), Value.int IntKind.u8 (Int.ofNat 0), Value.int IntKind.u8 (Int.ofNat 0), Value.int IntKind.u8 (Int.ofNat 0), Value.int IntKind.u8 (Int.ofNat 0), Value.int IntKind.u8 (Int.ofNat 0), Value.int IntKind.u8 (Int.ofNat 0), Value.int IntKind.u8 (Int.ofNat 0), Value.int IntKind.u8 (Int.ofNat 0), Value.int IntKind.u8 (Int.ofNat 0), Value.int IntKind.u8 (Int.ofNat 0), Value.int IntKind.u8 (Int.ofNat 0), Value.int IntKind.u8 (Int.ofNat 0), Value.int IntKind.u8 (Int.ofNat 0), Value.int IntKind.u8 (Int.ofNat 0), Value.int IntKind.u8 (Int.ofNat 0)]), Value.slice none 0 0, Value.int IntKind.i64 (Int.ofNat 0)]))])),
  some (TI.mk (TypeDesc.func (Array.mk [9]) (Array.mk [47, 48, 54]) false) 1 8 ([SV.v Value.nilFunc])),
  some (TI.mk (TypeDesc.func (Array.mk [48, 48]) (Array.mk [4]) false) 1 8 ([SV.v Value.nilFunc])),
  some (TI.mk (TypeDesc.func (Array.mk [57]) (Array.mk [48]) false) 1 8 ([SV.v Value.nilFunc])),
  some (TI.mk (TypeDesc.func (Array.mk [47, 48, 9]) (Array.mk [4]) false) 1 8 ([SV.v Value.nilFunc])),
  some (TI.mk (TypeDesc.func (Array.mk [3, 24]) (Array.mk [4]) false) 1 8 ([SV.v Value.nilFunc])),
  some (TI.mk (TypeDesc.func (Array.mk [24, 24]) (Array.mk [24]) false) 1 8 ([SV.v Value.nilFunc])),
  some (TI.mk (TypeDesc.func (Array.mk []) (Array.mk [24]) false) 1 8 ([SV.v Value.nilFunc])),
  some (TI.mk (TypeDesc.func (Array.mk [93]) (Array.mk [26]) false) 1 8 ([SV.v Value.nilFunc])),
  some (TI.mk (TypeDesc.struct (Array.mk [Field.mk "x" 24 0 false "" "chronicle/p256" 0, Field.mk "y" 24 4 false "" "chronicle/p256" 32, Field.mk "z" 24 8 false "" "chronicle/p256" 64])) 12 96 (List.replicate 12 (SV.k IntKind.u64 0))),
  some (TI.mk (TypeDesc.struct (Array.mk [Field.mk "x" 24 0 false "" "chronicle/p256" 0, Field.mk "y" 24 4 false "" "chronicle/p256" 32, Field.mk "z" 24 8 false "" "chronicle/p256" 64])) 12 96 (List.replicate 12 (SV.k IntKind.u64 0))),
  some (TI.mk (TypeDesc.func (Array.mk [93, 93]) (Array.mk [93]) false) 1 8 ([SV.v Value.nilFunc])),
  some (TI.mk (TypeDesc.func (Array.mk [26]) (Array.mk [93]) false) 1 8 ([SV.v Value.nilFunc])),
  some (TI.mk (TypeDesc.func (Array.mk [98]) (Array.mk [26]) false) 1 8 ([SV.v Value.nilFunc])),
  some (TI.mk (TypeDesc.struct (Array.mk [Field.mk "x" 24 0 false "" "chronicle/chronicleref08" 0, Field.mk "y" 24 4 false "" "chronicle/chronicleref08" 32, Field.mk "z" 24 8 false "" "chronicle/chronicleref08" 64])) 12 96 (List.replicate 12 (SV.k IntKind.u64 0))),
  some (TI.mk (TypeDesc.struct (Array.mk [Field.mk "x" 24 0 false "" "chronicle/chronicleref08" 0, Field.mk "y" 24 4 false "" "chronicle/chronicleref08" 32, Field.mk "z" 24 8 false "" "chronicle/chronicleref08" 64])) 12 96 (List.replicate 12 (SV.k IntKind.u64 0))),
  some (TI.mk (TypeDesc.func (Array.mk [98, 98]) (Array.mk [98]) false) 1 8 ([SV.v Value.nilFunc])),
  some (TI.mk (TypeDesc.func (Array.mk [26]) (Array.mk [98]) false) 1 8 ([SV.v Value.nilFunc])),
  some (TI.mk (TypeDesc.func (Array.mk [24, 98]) (Array.mk [98]) false) 1 8 ([SV.v Value.nilFunc])),
  some (TI.mk (TypeDesc.array 4 93) 48 384 (List.replicate 48 (SV.k IntKind.u64 0))),
  some (TI.mk (TypeDesc.func (Array.mk [24, 3]) (Array.mk [3]) false) 1 8 ([SV.v Value.nilFunc])),
  some (TI.mk (TypeDesc.func (Array.mk [24, 24, 24]) (Array.mk [24]) false) 1 8 ([SV.v Value.nilFunc])),
  some (TI.mk (TypeDesc.struct (Array.mk [Field.mk "Name" 9 0 false "" "" 0, Field.mk "Kind" 5 1 false "" "" 16, Field.mk "Number" 70 2 false "" "" 20, Field.mk "Bytes" 61 3 false "" "" 24])) 4 48 ([SV.v (Value.string (ByteArray.mk (Array.mk [])))] ++ [SV.k IntKind.u8 0] ++ [SV.k IntKind.u32 0] ++ [SV.v (Value.slice none 0 0)])),
  some (TI.mk (TypeDesc.struct (Array.mk [Field.mk "Name" 9 0 false "" "" 0, Field.mk "Kind" 5 1 false "" "" 16, Field.mk "Number" 70 2 false "" "" 20, Field.mk "Bytes" 61 3 false "" "" 24])) 4 48 ([SV.v (Value.string (ByteArray.mk (Array.mk [])))] ++ [SV.k IntKind.u8 0] ++ [SV.k IntKind.u32 0] ++ [SV.v (Value.slice none 0 0)])),
  some (TI.mk (TypeDesc.func (Array.mk [61]) (Array.mk [9]) false) 1 8 ([SV.v Value.nilFunc])),
  some (TI.mk (TypeDesc.struct (Array.mk [Field.mk "Name" 9 0 false "" "" 0, Field.mk "Kind" 5 1 false "" "" 16, Field.mk "Number" 70 2 false "" "" 20, Field.mk "Bytes" 61 3 false "" "" 24])) 4 48 ([SV.v (Value.string (ByteArray.mk (Array.mk [])))] ++ [SV.k IntKind.u8 0] ++ [SV.k IntKind.u32 0] ++ [SV.v (Value.slice none 0 0)])),
  some (TI.mk (TypeDesc.func (Array.mk [108]) (Array.mk [4]) false) 1 8 ([SV.v Value.nilFunc])),
  some (TI.mk (TypeDesc.func (Array.mk [108]) (Array.mk [9]) false) 1 8 ([SV.v Value.nilFunc])),
  some (TI.mk (TypeDesc.func (Array.mk [106]) (Array.mk [9]) false) 1 8 ([SV.v Value.nilFunc])),
  some (TI.mk (TypeDesc.func (Array.mk [61]) (Array.mk [24, 4]) false) 1 8 ([SV.v Value.nilFunc])),
  some (TI.mk (TypeDesc.func (Array.mk [144]) (Array.mk [61]) true) 1 8 ([SV.v Value.nilFunc])),
  some (TI.mk (TypeDesc.func (Array.mk [24]) (Array.mk [61]) false) 1 8 ([SV.v Value.nilFunc])),
  some (TI.mk (TypeDesc.func (Array.mk [144]) (Array.mk [45]) true) 1 8 ([SV.v Value.nilFunc])),
  some (TI.mk (TypeDesc.int IntKind.u64) 1 8 ([SV.k IntKind.u64 0])),
  some (TI.mk (TypeDesc.func (Array.mk [61]) (Array.mk [45]) false) 1 8 ([SV.v Value.nilFunc])),
  some (TI.mk (TypeDesc.func (Array.mk [22, 3]) (Array.mk [9]) false) 1 8 ([SV.v Value.nilFunc])),
  some (TI.mk (TypeDesc.interface (Array.mk [("Error", 140)])) 1 16 ([SV.v Value.nilIface]))]
def tt3 : List (Option TI) := [
  some (TI.mk (TypeDesc.interface (Array.mk [("Error", 140)])) 1 16 ([SV.v Value.nilIface])),
  some (TI.mk (TypeDesc.tuple (Array.mk [22, 120])) 1 0 ([SV.v (Value.tuple (Array.mk [Value.int IntKind.u64 (Int.ofNat 0), Value.nilIface]))])),
  some (TI.mk (TypeDesc.func (Array.mk [9, 3, 3]) (Array.mk [22, 120]) false) 1 8 ([SV.v Value.nilFunc])),
  some (TI.mk (TypeDesc.slice 9) 1 24 ([SV.v (Value.slice none 0 0)])),
  some (TI.mk (TypeDesc.func (Array.mk [9, 9]) (Array.mk [123]) false) 1 8 ([SV.v Value.nilFunc])),
  some (TI.mk (TypeDesc.tuple (Array.mk [61, 4])) 1 0 ([SV.v (Value.tuple (Array.mk [Value.slice none 0 0, Value.bool false]))])),
  some (TI.mk (TypeDesc.func (Array.mk [9]) (Array.mk [61, 4]) false) 1 8 ([SV.v Value.nilFunc])),
  some (TI.mk (TypeDesc.tuple (Array.mk [108, 4])) 1 0 ([SV.v (Value.tuple (Array.mk [Value.agg (Array.mk [Value.string (ByteArray.mk (Array.mk [])), Value.int IntKind.u8 (Int.ofNat 0), Value.int IntKind.u32 (Int.ofNat 0), Value.slice none 0 0]), Value.bool false]))])),
  some (TI.mk (TypeDesc.func (Array.mk [9]) (Array.mk [108, 4]) false) 1 8 ([SV.v Value.nilFunc])),
  some (TI.mk (TypeDesc.tuple (Array.mk [123, 9])) 1 0 ([SV.v (Value.tuple (Array.mk [Value.slice none 0 0, Value.string (ByteArray.mk (Array.mk []))]))])),
  some (TI.mk (TypeDesc.func (Array.mk [9]) (Array.mk [123, 9]) false) 1 8 ([SV.v Value.nilFunc])),
  some (TI.mk (TypeDesc.tuple (Array.mk [106, 4])) 1 0 ([SV.v (Value.tuple (Array.mk [Value.agg (Array.mk [Value.string (ByteArray.mk (Array.mk [])), Value.int IntKind.u8 (Int.ofNat 0), Value.int IntKind.u32 (Int.ofNat 0), Value.slice none 0 0]), Value.bool false]))])),
  some (TI.mk (TypeDesc.func (Array.mk [9]) (Array.mk [106, 4]) false) 1 8 ([SV.v Value.nilFunc])),
  some (TI.mk (TypeDesc.func (Array.mk [24, 24]) (Array.mk [3]) false) 1 8 ([SV.v Value.nilFunc])),
  some (TI.mk (TypeDesc.func (Array.mk [98]) (Array.mk [98]) false) 1 8 ([SV.v Value.nilFunc])),
  some (TI.mk (TypeDesc.func (Array.mk [22]) (Array.mk [24]) false) 1 8 ([SV.v Value.nilFunc])),
  some (TI.mk (TypeDesc.pointer 138) 1 8 ([SV.v (Value.pointer none)])),
  some (TI.mk (TypeDesc.struct (Array.mk [Field.mk "addr" 136 0 false "" "strings" 0, Field.mk "buf" 61 1 false "" "strings" 8])) 2 32 ([SV.v (Value.pointer none)] ++ [SV.v (Value.slice none 0 0)])),
  some (TI.mk (TypeDesc.struct (Array.mk [Field.mk "addr" 136 0 false "" "strings" 0, Field.mk "buf" 61 1 false "" "strings" 8])) 2 32 ([SV.v (Value.pointer none)] ++ [SV.v (Value.slice none 0 0)])),
  some (TI.mk (TypeDesc.func (Array.mk [5]) (Array.mk [120]) false) 1 8 ([SV.v Value.nilFunc])),
  some (TI.mk (TypeDesc.func (Array.mk []) (Array.mk [9]) false) 1 8 ([SV.v Value.nilFunc])),
  some (TI.mk (TypeDesc.func (Array.mk [3]) (Array.mk [9]) false) 1 8 ([SV.v Value.nilFunc])),
  some (TI.mk (TypeDesc.func (Array.mk [61]) (Array.mk [61]) false) 1 8 ([SV.v Value.nilFunc])),
  some (TI.mk (TypeDesc.func (Array.mk [61]) (Array.mk []) false) 1 8 ([SV.v Value.nilFunc])),
  some (TI.mk (TypeDesc.slice 61) 1 24 ([SV.v (Value.slice none 0 0)])),
  some (TI.mk (TypeDesc.func (Array.mk [61, 3]) (Array.mk [61]) false) 1 8 ([SV.v Value.nilFunc])),
  some (TI.mk (TypeDesc.array 8 70) 8 32 ([SV.k IntKind.u32 0, SV.k IntKind.u32 0, SV.k IntKind.u32 0, SV.k IntKind.u32 0, SV.k IntKind.u32 0, SV.k IntKind.u32 0, SV.k IntKind.u32 0, SV.k IntKind.u32 0])),
  some (TI.mk (TypeDesc.array 8 70) 8 32 ([SV.k IntKind.u32 0, SV.k IntKind.u32 0, SV.k IntKind.u32 0, SV.k IntKind.u32 0, SV.k IntKind.u32 0, SV.k IntKind.u32 0, SV.k IntKind.u32 0, SV.k IntKind.u32 0])),
  some (TI.mk (TypeDesc.struct (Array.mk [Field.mk "s" 147 0 false "" "chronicle/sha256" 0, Field.mk "rest" 61 8 false "" "chronicle/sha256" 32, Field.mk "n" 22 9 false "" "chronicle/sha256" 56])) 10 64 ([SV.k IntKind.u32 0, SV.k IntKind.u32 0, SV.k IntKind.u32 0, SV.k IntKind.u32 0, SV.k IntKind.u32 0, SV.k IntKind.u32 0, SV.k IntKind.u32 0, SV.k IntKind.u32 0] ++ [SV.v (Value.slice none 0 0)] ++ [SV.k IntKind.u64 0])),
  some (TI.mk (TypeDesc.struct (Array.mk [Field.mk "s" 147 0 false "" "chronicle/sha256" 0, Field.mk "rest" 61 8 false "" "chronicle/sha256" 32, Field.mk "n" 22 9 false "" "chronicle/sha256" 56])) 10 64 ([SV.k IntKind.u32 0, SV.k IntKind.u32 0, SV.k IntKind.u32 0, SV.k IntKind.u32 0, SV.k IntKind.u32 0, SV.k IntKind.u32 0, SV.k IntKind.u32 0, SV.k IntKind.u32 0] ++ [SV.v (Value.slice none 0 0)] ++ [SV.k IntKind.u64 0])),
  some (TI.mk (TypeDesc.func (Array.mk []) (Array.mk [45]) false) 1 8 ([SV.v Value.nilFunc])),
  some (TI.mk (TypeDesc.func (Array.mk []) (Array.mk [146]) false) 1 8 ([SV.v Value.nilFunc])),
  some (TI.mk (TypeDesc.func (Array.mk [146, 61]) (Array.mk [146]) false) 1 8 ([SV.v Value.nilFunc])),
  some (TI.mk (TypeDesc.func (Array.mk [9, 9, 3, 3, 120]) (Array.mk [120]) false) 1 8 ([SV.v Value.nilFunc])),
  some (TI.mk (TypeDesc.func (Array.mk [9, 9, 3, 3]) (Array.mk [123]) false) 1 8 ([SV.v Value.nilFunc])),
  some (TI.mk (TypeDesc.func (Array.mk [9, 9]) (Array.mk [9]) false) 1 8 ([SV.v Value.nilFunc])),
  some (TI.mk (TypeDesc.func (Array.mk [9, 5]) (Array.mk [3]) false) 1 8 ([SV.v Value.nilFunc])),
  some (TI.mk (TypeDesc.func (Array.mk [5]) (Array.mk [3]) false) 1 8 ([SV.v Value.nilFunc])),
  some (TI.mk (TypeDesc.func (Array.mk [9]) (Array.mk [123]) false) 1 8 ([SV.v Value.nilFunc])),
  some (TI.mk (TypeDesc.func (Array.mk [22, 22]) (Array.mk [3]) false) 1 8 ([SV.v Value.nilFunc]))]
def tt4 : List (Option TI) := [
  some (TI.mk (TypeDesc.struct (Array.mk [Field.mk "m" 24 0 false "" "chronicle/field" 0, Field.mk "square" 24 4 false "" "chronicle/field" 32, Field.mk "inverse" 22 8 false "" "chronicle/field" 64])) 9 72 (List.replicate 9 (SV.k IntKind.u64 0))),
  some (TI.mk (TypeDesc.struct (Array.mk [Field.mk "m" 24 0 false "" "chronicle/field" 0, Field.mk "square" 24 4 false "" "chronicle/field" 32, Field.mk "inverse" 22 8 false "" "chronicle/field" 64])) 9 72 (List.replicate 9 (SV.k IntKind.u64 0))),
  some (TI.mk (TypeDesc.tuple (Array.mk [161, 4])) 1 0 ([SV.v (Value.tuple (Array.mk [Value.agg (Array.mk [Value.int IntKind.u64 (Int.ofNat 0), Value.int IntKind.u64 (Int.ofNat 0), Value.int IntKind.u64 (Int.ofNat 0), Value.int IntKind.u64 (Int.ofNat 0), Value.int IntKind.u64 (Int.ofNat 0), Value.int IntKind.u64 (Int.ofNat 0), Value.int IntKind.u64 (Int.ofNat 0), Value.int IntKind.u64 (Int.ofNat 0), Value.int IntKind.u64 (Int.ofNat 0)]), Value.bool false]))])),
  some (TI.mk (TypeDesc.func (Array.mk [3]) (Array.mk [161, 4]) false) 1 8 ([SV.v Value.nilFunc])),
  some (TI.mk (TypeDesc.func (Array.mk [24]) (Array.mk [24]) false) 1 8 ([SV.v Value.nilFunc])),
  some (TI.mk (TypeDesc.pointer 5) 1 8 ([SV.v (Value.pointer none)])),
  some (TI.mk (TypeDesc.func (Array.mk [61]) (Array.mk [22]) false) 1 8 ([SV.v Value.nilFunc])),
  some (TI.mk (TypeDesc.pointer 149) 1 8 ([SV.v (Value.pointer none)])),
  some (TI.mk (TypeDesc.func (Array.mk [61]) (Array.mk [147]) false) 1 8 ([SV.v Value.nilFunc])),
  some (TI.mk (TypeDesc.array 64 70) 64 256 (List.replicate 64 (SV.k IntKind.u32 0))),
  some (TI.mk (TypeDesc.func (Array.mk [61]) (Array.mk [169]) false) 1 8 ([SV.v Value.nilFunc])),
  some (TI.mk (TypeDesc.func (Array.mk []) (Array.mk [169]) false) 1 8 ([SV.v Value.nilFunc])),
  some (TI.mk (TypeDesc.func (Array.mk [70, 70]) (Array.mk [70]) false) 1 8 ([SV.v Value.nilFunc])),
  some (TI.mk (TypeDesc.array 24 5) 24 24 (List.replicate 24 (SV.k IntKind.u8 0))),
  some (TI.mk (TypeDesc.func (Array.mk [22]) (Array.mk [3]) false) 1 8 ([SV.v Value.nilFunc])),
  some (TI.mk (TypeDesc.func (Array.mk [61, 22]) (Array.mk []) false) 1 8 ([SV.v Value.nilFunc])),
  some (TI.mk (TypeDesc.tuple (Array.mk [61, 9])) 1 0 ([SV.v (Value.tuple (Array.mk [Value.slice none 0 0, Value.string (ByteArray.mk (Array.mk []))]))])),
  some (TI.mk (TypeDesc.func (Array.mk [61, 22, 3, 4, 4]) (Array.mk [61, 9]) false) 1 8 ([SV.v Value.nilFunc])),
  some (TI.mk (TypeDesc.int IntKind.i64) 1 8 ([SV.k IntKind.i64 0])),
  some (TI.mk (TypeDesc.func (Array.mk [5]) (Array.mk [5]) false) 1 8 ([SV.v Value.nilFunc])),
  some (TI.mk (TypeDesc.pointer 201) 1 8 ([SV.v (Value.pointer none)])),
  some (TI.mk (TypeDesc.func (Array.mk [9, 9]) (Array.mk [180]) false) 1 8 ([SV.v Value.nilFunc])),
  some (TI.mk (TypeDesc.func (Array.mk [9, 9, 3]) (Array.mk [180]) false) 1 8 ([SV.v Value.nilFunc])),
  some (TI.mk (TypeDesc.func (Array.mk [9, 3]) (Array.mk [123]) false) 1 8 ([SV.v Value.nilFunc])),
  some (TI.mk (TypeDesc.func (Array.mk [9, 9]) (Array.mk [3]) false) 1 8 ([SV.v Value.nilFunc])),
  some (TI.mk (TypeDesc.array 4 161) 36 288 (List.replicate 36 (SV.k IntKind.u64 0))),
  some (TI.mk (TypeDesc.func (Array.mk [4, 24, 24]) (Array.mk [24]) false) 1 8 ([SV.v Value.nilFunc])),
  some (TI.mk (TypeDesc.tuple (Array.mk [22, 22])) 1 0 ([SV.v (Value.tuple (Array.mk [Value.int IntKind.u64 (Int.ofNat 0), Value.int IntKind.u64 (Int.ofNat 0)]))])),
  some (TI.mk (TypeDesc.func (Array.mk [22, 22, 22]) (Array.mk [22, 22]) false) 1 8 ([SV.v Value.nilFunc])),
  some (TI.mk TypeDesc.unsafePointer 1 8 ([SV.v (Value.pointer none)])),
  some (TI.mk (TypeDesc.func (Array.mk [189]) (Array.mk [189]) false) 1 8 ([SV.v Value.nilFunc])),
  some (TI.mk (TypeDesc.func (Array.mk [61]) (Array.mk [70]) false) 1 8 ([SV.v Value.nilFunc])),
  some (TI.mk (TypeDesc.func (Array.mk [70, 3]) (Array.mk [70]) false) 1 8 ([SV.v Value.nilFunc])),
  some (TI.mk (TypeDesc.func (Array.mk [3]) (Array.mk [3]) false) 1 8 ([SV.v Value.nilFunc])),
  some (TI.mk (TypeDesc.func (Array.mk [4]) (Array.mk [3]) false) 1 8 ([SV.v Value.nilFunc])),
  some (TI.mk (TypeDesc.array 20 22) 20 160 (List.replicate 20 (SV.k IntKind.u64 0))),
  some (TI.mk (TypeDesc.array 65 5) 65 65 (List.replicate 65 (SV.k IntKind.u8 0))),
  some (TI.mk (TypeDesc.func (Array.mk [3]) (Array.mk [4]) false) 1 8 ([SV.v Value.nilFunc])),
  some (TI.mk (TypeDesc.func (Array.mk [116]) (Array.mk [3]) false) 1 8 ([SV.v Value.nilFunc])),
  some (TI.mk (TypeDesc.func (Array.mk [9]) (Array.mk [9]) false) 1 8 ([SV.v Value.nilFunc]))]
def tt5 : List (Option TI) := [
  some (TI.mk (TypeDesc.struct (Array.mk [Field.mk "Func" 9 0 false "" "" 0, Field.mk "Num" 9 1 false "" "" 16, Field.mk "Err" 120 2 false "" "" 32])) 3 48 ([SV.v (Value.string (ByteArray.mk (Array.mk []))), SV.v (Value.string (ByteArray.mk (Array.mk [])))] ++ [SV.v Value.nilIface])),
  some (TI.mk (TypeDesc.struct (Array.mk [Field.mk "Func" 9 0 false "" "" 0, Field.mk "Num" 9 1 false "" "" 16, Field.mk "Err" 120 2 false "" "" 32])) 3 48 ([SV.v (Value.string (ByteArray.mk (Array.mk []))), SV.v (Value.string (ByteArray.mk (Array.mk [])))] ++ [SV.v Value.nilIface])),
  some (TI.mk (TypeDesc.func (Array.mk [9]) (Array.mk [120]) false) 1 8 ([SV.v Value.nilFunc])),
  some (TI.mk (TypeDesc.func (Array.mk [9]) (Array.mk [3]) false) 1 8 ([SV.v Value.nilFunc])),
  some (TI.mk (TypeDesc.tuple (Array.mk [21, 3])) 1 0 ([SV.v (Value.tuple (Array.mk [Value.int IntKind.i32 (Int.ofNat 0), Value.int IntKind.i64 (Int.ofNat 0)]))])),
  some (TI.mk (TypeDesc.func (Array.mk [9]) (Array.mk [21, 3]) false) 1 8 ([SV.v Value.nilFunc])),
  some (TI.mk (TypeDesc.func (Array.mk [9, 9]) (Array.mk [4]) false) 1 8 ([SV.v Value.nilFunc])),
  some (TI.mk (TypeDesc.array 6 22) 6 48 ([SV.k IntKind.u64 0, SV.k IntKind.u64 0, SV.k IntKind.u64 0, SV.k IntKind.u64 0, SV.k IntKind.u64 0, SV.k IntKind.u64 0])),
  some (TI.mk (TypeDesc.func (Array.mk [22, 22, 22, 22]) (Array.mk [22, 22]) false) 1 8 ([SV.v Value.nilFunc])),
  some (TI.mk (TypeDesc.func (Array.mk [70]) (Array.mk [3]) false) 1 8 ([SV.v Value.nilFunc])),
  some (TI.mk (TypeDesc.pointer 212) 1 8 ([SV.v (Value.pointer none)])),
  some (TI.mk (TypeDesc.struct (Array.mk [Field.mk "s" 9 0 false "" "errors" 0])) 1 16 ([SV.v (Value.string (ByteArray.mk (Array.mk [])))])),
  some (TI.mk (TypeDesc.struct (Array.mk [Field.mk "s" 9 0 false "" "errors" 0])) 1 16 ([SV.v (Value.string (ByteArray.mk (Array.mk [])))])),
  some (TI.mk (TypeDesc.func (Array.mk [22, 22]) (Array.mk [22, 22]) false) 1 8 ([SV.v Value.nilFunc])),
  some (TI.mk (TypeDesc.array 64 5) 64 64 (List.replicate 64 (SV.k IntKind.u8 0))),
  some (TI.mk (TypeDesc.func (Array.mk [2, 3]) (Array.mk [9]) false) 1 8 ([SV.v Value.nilFunc])),
  some (TI.mk (TypeDesc.array 256 5) 256 256 (List.replicate 256 (SV.k IntKind.u8 0))),
  some (TI.mk (TypeDesc.struct (Array.mk [Field.mk "lo" 5 0 false "" "unicode/utf8" 0, Field.mk "hi" 5 1 false "" "unicode/utf8" 1])) 2 2 ([SV.k IntKind.u8 0, SV.k IntKind.u8 0])),
  some (TI.mk (TypeDesc.struct (Array.mk [Field.mk "lo" 5 0 false "" "unicode/utf8" 0, Field.mk "hi" 5 1 false "" "unicode/utf8" 1])) 2 2 ([SV.k IntKind.u8 0, SV.k IntKind.u8 0])),
  some (TI.mk (TypeDesc.array 16 218) 32 32 (List.replicate 32 (SV.k IntKind.u8 0))),
  some (TI.mk (TypeDesc.tuple (Array.mk [70, 70])) 1 0 ([SV.v (Value.tuple (Array.mk [Value.int IntKind.u32 (Int.ofNat 0), Value.int IntKind.u32 (Int.ofNat 0)]))])),
  some (TI.mk (TypeDesc.func (Array.mk [9]) (Array.mk [70, 70]) false) 1 8 ([SV.v Value.nilFunc])),
  some (TI.mk (TypeDesc.struct (Array.mk [Field.mk "_interface" 17 0 false "" "runtime" 0, Field.mk "concrete" 17 1 false "" "runtime" 8, Field.mk "asserted" 17 2 false "" "runtime" 16, Field.mk "missingMethod" 9 3 false "" "runtime" 24])) 4 40 ([SV.v (Value.pointer none), SV.v (Value.pointer none), SV.v (Value.pointer none)] ++ [SV.v (Value.string (ByteArray.mk (Array.mk [])))])),
  some (TI.mk (TypeDesc.struct (Array.mk [Field.mk "_interface" 17 0 false "" "runtime" 0, Field.mk "concrete" 17 1 false "" "runtime" 8, Field.mk "asserted" 17 2 false "" "runtime" 16, Field.mk "missingMethod" 9 3 false "" "runtime" 24])) 4 40 ([SV.v (Value.pointer none), SV.v (Value.pointer none), SV.v (Value.pointer none)] ++ [SV.v (Value.string (ByteArray.mk (Array.mk [])))])),
  some (TI.mk (TypeDesc.array 0 16) 0 0 ([])),
  some (TI.mk (TypeDesc.struct (Array.mk [Field.mk "_" 224 0 false "" "runtime" 0])) 0 0 ([])),
  some (TI.mk (TypeDesc.struct (Array.mk [Field.mk "_" 224 0 false "" "runtime" 0])) 0 0 ([])),
  some (TI.mk (TypeDesc.func (Array.mk []) (Array.mk [3]) false) 1 8 ([SV.v Value.nilFunc])),
  some (TI.mk (TypeDesc.int IntKind.u8) 1 1 ([SV.k IntKind.u8 0])),
  some (TI.mk (TypeDesc.int IntKind.u8) 1 1 ([SV.k IntKind.u8 0])),
  some (TI.mk (TypeDesc.func (Array.mk [189, 189]) (Array.mk [4]) false) 1 8 ([SV.v Value.nilFunc])),
  some (TI.mk (TypeDesc.int IntKind.i32) 1 4 ([SV.k IntKind.i32 0])),
  some (TI.mk (TypeDesc.int IntKind.i32) 1 4 ([SV.k IntKind.i32 0])),
  some (TI.mk (TypeDesc.struct (Array.mk [Field.mk "Size_" 12 0 false "" "" 0, Field.mk "PtrBytes" 12 1 false "" "" 8, Field.mk "Hash" 70 2 false "" "" 16, Field.mk "TFlag" 228 3 false "" "" 20, Field.mk "Align_" 5 4 false "" "" 21, Field.mk "FieldAlign_" 5 5 false "" "" 22, Field.mk "Kind_" 229 6 false "" "" 23, Field.mk "Equal" 230 7 false "" "" 24, Field.mk "GCData" 165 8 false "" "" 32, Field.mk "Str" 231 9 false "" "" 40, Field.mk "PtrToThis" 232 10 false "" "" 44])) 11 48 ([SV.k IntKind.u64 0, SV.k IntKind.u64 0] ++ [SV.k IntKind.u32 0] ++ [SV.k IntKind.u8 0, SV.k IntKind.u8 0, SV.k IntKind.u8 0, SV.k IntKind.u8 0] ++ [SV.v Value.nilFunc] ++ [SV.v (Value.pointer none)] ++ [SV.k IntKind.i32 0, SV.k IntKind.i32 0])),
  some (TI.mk (TypeDesc.struct (Array.mk [Field.mk "Size_" 12 0 false "" "" 0, Field.mk "PtrBytes" 12 1 false "" "" 8, Field.mk "Hash" 70 2 false "" "" 16, Field.mk "TFlag" 228 3 false "" "" 20, Field.mk "Align_" 5 4 false "" "" 21, Field.mk "FieldAlign_" 5 5 false "" "" 22, Field.mk "Kind_" 229 6 false "" "" 23, Field.mk "Equal" 230 7 false "" "" 24, Field.mk "GCData" 165 8 false "" "" 32, Field.mk "Str" 231 9 false "" "" 40, Field.mk "PtrToThis" 232 10 false "" "" 44])) 11 48 ([SV.k IntKind.u64 0, SV.k IntKind.u64 0] ++ [SV.k IntKind.u32 0] ++ [SV.k IntKind.u8 0, SV.k IntKind.u8 0, SV.k IntKind.u8 0, SV.k IntKind.u8 0] ++ [SV.v Value.nilFunc] ++ [SV.v (Value.pointer none)] ++ [SV.k IntKind.i32 0, SV.k IntKind.i32 0]))]
def tt : List (Option TI) := tt0 ++ (tt1 ++ (tt2 ++ (tt3 ++ (tt4 ++ (tt5)))))
theorem tt_eq : (List.range 235).map (tiOf Tryd.prog) = tt := by kernel_rfl
theorem tok : TOk Tryd.prog tt := TOk.of_eq tt_eq
end Go.Proofs.YtekgjjanikicnaaDoor.Sx

namespace Go.Proofs
open Go.Shelf
def Tryd.lays284_ren : Go.Shelf.Ren := ⟨fun | 284 => 148 | 129 => 171 | 317 => 170 | 318 => 172 | n => n, fun | 53 => 22 | 3 => 3 | 212 => 195 | 0 => 0 | 4 => 4 | 46 => 116 | 5 => 5 | 9 => 9 | n => n, fun | 17 => 5 | n => n⟩
theorem Tryd.lays284 : Go.Proofs.LaysM.n284 Tryd.prog Tryd.lays284_ren := {
  mixed := by kernel_rfl
  f129 := Tryd.func171.trans (congrArg some (by kernel_rfl))
  f284 := Tryd.func148.trans (congrArg some (by kernel_rfl))
  f317 := Tryd.func170.trans (congrArg some (by kernel_rfl))
  f318 := Tryd.func172.trans (congrArg some (by kernel_rfl))
  t0 := Tryd.underlying0
  a0 := Tryd.isAgg0
  z0 := Tryd.sizeOf0
  v0 := Tryd.zeroValue0
  t3 := Tryd.underlying3
  a3 := Tryd.isAgg3
  z3 := Tryd.sizeOf3
  v3 := Tryd.zeroValue3
  t4 := Tryd.underlying4
  a4 := Tryd.isAgg4
  z4 := Tryd.sizeOf4
  v4 := Tryd.zeroValue4
  t5 := Tryd.underlying5
  a5 := Tryd.isAgg5
  z5 := Tryd.sizeOf5
  v5 := Tryd.zeroValue5
  t9 := Tryd.underlying9
  a9 := Tryd.isAgg9
  z9 := Tryd.sizeOf9
  v9 := Tryd.zeroValue9
  t46 := Tryd.underlying116
  a46 := Tryd.isAgg116
  z46 := Tryd.sizeOf116
  v46 := Tryd.zeroValue116
  t53 := Tryd.underlying22
  a53 := Tryd.isAgg22
  z53 := Tryd.sizeOf22
  v53 := Tryd.zeroValue22
  t212 := Tryd.underlying195
  a212 := Tryd.isAgg195
  z212 := Tryd.sizeOf195
  v212 := Tryd.zeroValue195
  g17 := by kernel_rfl
  i0 := by kernel_rfl
  i3 := by kernel_rfl
  i4 := by kernel_rfl
  i5 := by kernel_rfl
  i9 := by kernel_rfl
  i46 := by kernel_rfl
  i53 := by kernel_rfl
  i212 := by kernel_rfl
  m17 := by kernel_rfl }
def Tryd.lays283_ren : Go.Shelf.Ren := ⟨fun | 283 => 147 | n => n, fun | 3 => 3 | 9 => 9 | 4 => 4 | n => n, fun | n => n⟩
theorem Tryd.lays283 : Go.Proofs.Lays.n283 Tryd.prog Tryd.lays283_ren := {
  mixed := by kernel_rfl
  f283 := Tryd.func147.trans (congrArg some (by kernel_rfl))
  t3 := Tryd.underlying3
  a3 := Tryd.isAgg3
  z3 := Tryd.sizeOf3
  v3 := Tryd.zeroValue3
  t4 := Tryd.underlying4
  a4 := Tryd.isAgg4
  z4 := Tryd.sizeOf4
  v4 := Tryd.zeroValue4
  t9 := Tryd.underlying9
  a9 := Tryd.isAgg9
  z9 := Tryd.sizeOf9
  v9 := Tryd.zeroValue9 }
def Tryd.lays285_ren : Go.Shelf.Ren := ⟨fun | 285 => 149 | n => n, fun | 37 => 61 | 53 => 22 | 3 => 3 | 4 => 4 | 51 => 70 | 9 => 9 | 5 => 5 | 0 => 0 | n => n, fun | n => n⟩
theorem Tryd.lays285 : Go.Proofs.Lays.n285 Tryd.prog Tryd.lays285_ren := {
  mixed := by kernel_rfl
  f285 := Tryd.func149.trans (congrArg some (by kernel_rfl))
  t0 := Tryd.underlying0
  a0 := Tryd.isAgg0
  z0 := Tryd.sizeOf0
  v0 := Tryd.zeroValue0
  t3 := Tryd.underlying3
  a3 := Tryd.isAgg3
  z3 := Tryd.sizeOf3
  v3 := Tryd.zeroValue3
  t4 := Tryd.underlying4
  a4 := Tryd.isAgg4
  z4 := Tryd.sizeOf4
  v4 := Tryd.zeroValue4
  t5 := Tryd.underlying5
  a5 := Tryd.isAgg5
  z5 := Tryd.sizeOf5
  v5 := Tryd.zeroValue5
  t9 := Tryd.underlying9
  a9 := Tryd.isAgg9
  z9 := Tryd.sizeOf9
  v9 := Tryd.zeroValue9
  t37 := Tryd.underlying61
  a37 := Tryd.isAgg61
  z37 := Tryd.sizeOf61
  v37 := Tryd.zeroValue61
  t51 := Tryd.underlying70
  a51 := Tryd.isAgg70
  z51 := Tryd.sizeOf70
  v51 := Tryd.zeroValue70
  t53 := Tryd.underlying22
  a53 := Tryd.isAgg22
  z53 := Tryd.sizeOf22
  v53 := Tryd.zeroValue22 }
def Tryd.laysPu14_ren : Go.Shelf.Ren := ⟨fun | 14 => 93 | 16 => 126 | 17 => 127 | 19 => 151 | 20 => 152 | 21 => 153 | 22 => 154 | 23 => 155 | 24 => 156 | 25 => 175 | 27 => 177 | 26 => 176 | 28 => 189 | 29 => 195 | 30 => 147 | 31 => 148 | 32 => 149 | 33 => 150 | 35 => 171 | 34 => 170 | 36 => 172 | 37 => 173 | 38 => 174 | 39 => 187 | 40 => 188 | n => n, fun | 9 => 9 | 3 => 3 | 22 => 22 | 24 => 120 | 25 => 121 | 4 => 4 | 34 => 178 | 5 => 5 | 36 => 116 | 37 => 61 | 0 => 0 | 39 => 180 | 21 => 21 | 44 => 201 | 47 => 165 | 50 => 212 | 48 => 210 | 2 => 2 | 52 => 173 | 55 => 176 | 59 => 195 | 60 => 70 | 20 => 20 | 61 => 196 | 65 => 44 | 66 => 214 | 67 => 140 | n => n, fun | 0 => 6 | 1 => 7 | 2 => 5 | 3 => 9 | 4 => 10 | n => n⟩
theorem Tryd.laysPu14 : Go.Proofs.LaysPu.n14 Tryd.prog Tryd.laysPu14_ren := {
  mixed := by kernel_rfl
  f14 := Tryd.func93.trans (congrArg some (by kernel_rfl))
  f16 := Tryd.func126.trans (congrArg some (by kernel_rfl))
  f17 := Tryd.func127.trans (congrArg some (by kernel_rfl))
  f19 := Tryd.func151.trans (congrArg some (by kernel_rfl))
  f20 := Tryd.func152.trans (congrArg some (by kernel_rfl))
  f21 := Tryd.func153.trans (congrArg some (by kernel_rfl))
  f22 := Tryd.func154.trans (congrArg some (by kernel_rfl))
  f23 := Tryd.func155.trans (congrArg some (by kernel_rfl))
  f24 := Tryd.func156.trans (congrArg some (by kernel_rfl))
  f25 := Tryd.func175.trans (congrArg some (by kernel_rfl))
  f26 := Tryd.func176.trans (congrArg some (by kernel_rfl))
  f27 := Tryd.func177.trans (congrArg some (by kernel_rfl))
  f28 := Tryd.func189.trans (congrArg some (by kernel_rfl))
  f29 := Tryd.func195.trans (congrArg some (by kernel_rfl))
  f30 := Tryd.func147.trans (congrArg some (by kernel_rfl))
  f31 := Tryd.func148.trans (congrArg some (by kernel_rfl))
  f32 := Tryd.func149.trans (congrArg some (by kernel_rfl))
  f33 := Tryd.func150.trans (congrArg some (by kernel_rfl))
  f34 := Tryd.func170.trans (congrArg some (by kernel_rfl))
  f35 := Tryd.func171.trans (congrArg some (by kernel_rfl))
  f36 := Tryd.func172.trans (congrArg some (by kernel_rfl))
  f37 := Tryd.func173.trans (congrArg some (by kernel_rfl))
  f38 := Tryd.func174.trans (congrArg some (by kernel_rfl))
  f39 := Tryd.func187.trans (congrArg some (by kernel_rfl))
  f40 := Tryd.func188.trans (congrArg some (by kernel_rfl))
  t0 := Tryd.underlying0
  a0 := Tryd.isAgg0
  z0 := Tryd.sizeOf0
  v0 := Tryd.zeroValue0
  i0 := by kernel_rfl
  t2 := Tryd.underlying2
  a2 := Tryd.isAgg2
  z2 := Tryd.sizeOf2
  v2 := Tryd.zeroValue2
  i2 := by kernel_rfl
  t3 := Tryd.underlying3
  a3 := Tryd.isAgg3
  z3 := Tryd.sizeOf3
  v3 := Tryd.zeroValue3
  i3 := by kernel_rfl
  t4 := Tryd.underlying4
  a4 := Tryd.isAgg4
  z4 := Tryd.sizeOf4
  v4 := Tryd.zeroValue4
  i4 := by kernel_rfl
  t5 := Tryd.underlying5
  a5 := Tryd.isAgg5
  z5 := Tryd.sizeOf5
  v5 := Tryd.zeroValue5
  i5 := by kernel_rfl
  t9 := Tryd.underlying9
  a9 := Tryd.isAgg9
  z9 := Tryd.sizeOf9
  v9 := Tryd.zeroValue9
  i9 := by kernel_rfl
  t20 := Tryd.underlying20
  a20 := Tryd.isAgg20
  z20 := Tryd.sizeOf20
  v20 := Tryd.zeroValue20
  i20 := by kernel_rfl
  t21 := Tryd.underlying21
  a21 := Tryd.isAgg21
  z21 := Tryd.sizeOf21
  v21 := Tryd.zeroValue21
  i21 := by kernel_rfl
  t22 := Tryd.underlying22
  a22 := Tryd.isAgg22
  z22 := Tryd.sizeOf22
  v22 := Tryd.zeroValue22
  i22 := by kernel_rfl
  t24 := Tryd.underlying120
  a24 := Tryd.isAgg120
  z24 := Tryd.sizeOf120
  v24 := Tryd.zeroValue120
  i24 := by kernel_rfl
  t25 := Tryd.underlying121
  a25 := Tryd.isAgg121
  z25 := Tryd.sizeOf121
  v25 := Tryd.zeroValue121
  i25 := by kernel_rfl
  t34 := Tryd.underlying178
  a34 := Tryd.isAgg178
  z34 := Tryd.sizeOf178
  v34 := Tryd.zeroValue178
  i34 := by kernel_rfl
  c34 := by kernel_rfl
  t36 := Tryd.underlying116
  a36 := Tryd.isAgg116
  z36 := Tryd.sizeOf116
  v36 := Tryd.zeroValue116
  i36 := by kernel_rfl
  t37 := Tryd.underlying61
  a37 := Tryd.isAgg61
  z37 := Tryd.sizeOf61
  v37 := Tryd.zeroValue61
  i37 := by kernel_rfl
  t39 := Tryd.underlying180
  a39 := Tryd.isAgg180
  z39 := Tryd.sizeOf180
  v39 := Tryd.zeroValue180
  i39 := by kernel_rfl
  t44 := Tryd.underlying201
  a44 := Tryd.isAgg201
  z44 := Tryd.sizeOf201
  v44 := Tryd.zeroValue201
  i44 := by kernel_rfl
  t47 := Tryd.underlying165
  a47 := Tryd.isAgg165
  z47 := Tryd.sizeOf165
  v47 := Tryd.zeroValue165
  i47 := by kernel_rfl
  t48 := Tryd.underlying210
  a48 := Tryd.isAgg210
  z48 := Tryd.sizeOf210
  v48 := Tryd.zeroValue210
  i48 := by kernel_rfl
  t50 := Tryd.underlying212
  a50 := Tryd.isAgg212
  z50 := Tryd.sizeOf212
  v50 := Tryd.zeroValue212
  i50 := by kernel_rfl
  t52 := Tryd.underlying173
  a52 := Tryd.isAgg173
  z52 := Tryd.sizeOf173
  v52 := Tryd.zeroValue173
  i52 := by kernel_rfl
  t55 := Tryd.underlying176
  a55 := Tryd.isAgg176
  z55 := Tryd.sizeOf176
  v55 := Tryd.zeroValue176
  i55 := by kernel_rfl
  t59 := Tryd.underlying195
  a59 := Tryd.isAgg195
  z59 := Tryd.sizeOf195
  v59 := Tryd.zeroValue195
  i59 := by kernel_rfl
  t60 := Tryd.underlying70
  a60 := Tryd.isAgg70
  z60 := Tryd.sizeOf70
  v60 := Tryd.zeroValue70
  i60 := by kernel_rfl
  t61 := Tryd.underlying196
  a61 := Tryd.isAgg196
  z61 := Tryd.sizeOf196
  t65 := Tryd.underlying44
  a65 := Tryd.isAgg44
  z65 := Tryd.sizeOf44
  v65 := Tryd.zeroValue44
  i65 := by kernel_rfl
  t66 := Tryd.underlying214
  a66 := Tryd.isAgg214
  z66 := Tryd.sizeOf214
  v66 := Tryd.zeroValue214
  i66 := by kernel_rfl
  t67 := Tryd.underlying140
  a67 := Tryd.isAgg140
  z67 := Tryd.sizeOf140
  v67 := Tryd.zeroValue140
  i67 := by kernel_rfl
  g0 := by kernel_rfl
  m0 := by kernel_rfl
  g1 := by kernel_rfl
  m1 := by kernel_rfl
  g2 := by kernel_rfl
  m2 := by kernel_rfl
  g3 := by kernel_rfl
  m3 := by kernel_rfl
  g4 := by kernel_rfl
  m4 := by kernel_rfl }
end Go.Proofs

namespace Go.Proofs.YtekgjjanikicnaaDoor.Sx
open Go Go.RowKit
set_option maxRecDepth 100000
set_option linter.unusedSimpArgs false
set_option linter.unusedVariables false

/-- A contract of the shelf, of a function that turns nothing that was there. -/
theorem Tri.shelf {P : Program} {n : Nat} {args : List SV} {vs : List Value} {fx : List Fact} {α : Type} {pr : α → Prop} {v : α → SV} (hargs : ∀ ρ, denL ρ args = vs) (hv : ∀ a ρ ρ', den ρ' (v a) = den ρ (v a))
    (hen : ∀ (xs : Array Value) (w : World), (callFunc n xs).run P w = .ok (.enter n xs) w)
    (h : ∀ w, FOk fx w → Calls P n vs.toArray w (fun e w' => (∃ a, pr a ∧ e = .returned (den (fun _ => 0) (v a))) ∧ Below w.heap.size w w')) : Tri P n args [] 0 fx (RetE 0 pr v (fun _ => []) 0 (fun _ => [])) :=
  ⟨trivial, fun ρ F w hh hrob => .inl ⟨hen _ w, by
    rw [hargs ρ]
    refine (h w hh.shape.fok).mono ?_
    rintro e w' ⟨⟨a, ha, he⟩, hb⟩
    exact ⟨v a, [], 0, [], ρ, F, ⟨a, ha, Ret.noneS rfl (fun ρ1 ρ2 => hv a ρ1 ρ2) (fun _ h => h)⟩, by rw [he, hv a ρ], fun ρ2 _ => hv a ρ ρ2,
      ⟨fun _ _ r o hm => (by cases hm), fun r o hm => (by cases hm), fun r o r' o' hm => (by cases hm), fun r o hm => (by cases hm), fun f hf => (by cases hf)⟩, Ag.refl _ _, Nat.le_refl _,
      ⟨hb.os, hb.tape, hb.output, hb.size, fun k hk _ => hb.block k hk⟩, fun k ⟨r, o, hm, _⟩ => (by cases hm), fun f hf => (by cases hf)⟩⟩⟩

/-- The table of powers of ten, and the two errors' variables. -/
def gTab : Fact where
  G := fun k => k = 5
  φ := fun w => Lib.TabIs Tryd.prog w "internal/strconv.uint64pow10" .u64 Lib.pow10Tab
  loc := fun {w w'} h hk => by
    have hg : Tryd.prog.globalNamed "internal/strconv.uint64pow10" = some 5 := Tryd.lays284.m17
    unfold Lib.TabIs World.var? at h ⊢
    rw [hg] at h ⊢
    simp only [Option.bind_some] at h ⊢
    rw [hk 5 rfl]; exact h
def gErr : Fact where
  G := fun k => k = 6 ∨ k = 7
  φ := fun w => ∀ g, g = 6 ∨ g = 7 → ∃ ev, w.cell? ⟨g, 0, none⟩ = some ev ∧ (ev = .nilIface ∨ ∃ te pe, ev = .iface te pe)
  loc := fun {w w'} h hk g hg => by
    obtain ⟨ev, h1, h2⟩ := h g hg
    exact ⟨ev, by rw [World.cell?_of_block (w := w) (hk g hg)]; exact h1, h2⟩

/-! ### What needs no region -/
theorem tSmall (fx : List Fact) (i : Nat) (h : i < 100) : Tri Tryd.prog 147 [.v (.int .i64 (i : Int))] [] 0 fx (RetE (α := Unit) 0 (fun _ => True) (fun _ => .v (.string ⟨(Lib.decDigits i).toArray⟩)) (fun _ => []) 0 (fun _ => [])) :=
  Tri.shelf (vs := [.int .i64 (i : Int)]) (fun _ => rfl) (fun _ _ _ => rfl) (Go.Proofs.enters_of Tryd.func147 (by kernel_rfl) rfl) fun w _ => (Any.internal_strconv_small Tryd.lays283 i h w).mono fun e w' ⟨he, hw⟩ => ⟨⟨(), trivial, he⟩, hw ▸ Below.refl _ _⟩
theorem tNumDigits (fx : List Fact) (hg : gTab ∈ fx) (u : Nat) (h1 : 1 ≤ u) (h2 : u < 18446744073709551616) : Tri Tryd.prog 148 [.v (.int .u64 (u : Int))] [] 0 fx (RetE (α := Unit) 0 (fun _ => True) (fun _ => .v (.int .i64 (Lib.nDigits u : Nat))) (fun _ => []) 0 (fun _ => [])) :=
  Tri.shelf (vs := [.int .u64 (u : Int)]) (fun _ => rfl) (fun _ _ _ => rfl) (Go.Proofs.enters_of Tryd.func148 (by kernel_rfl) rfl) fun w hw => (Any.internal_strconv_numDigits Tryd.lays284 u h1 h2 w (hw _ hg)).mono fun e w' ⟨he, hw⟩ => ⟨⟨(), trivial, he⟩, hw ▸ Below.refl _ _⟩
/-- What strconv.ParseUint answers, and whether it has an error. -/
def puS (N : Nat) : Lib.NumEnd Nat → SV
  | .ok u => .tup [.v (.int .u64 (u : Int)), .v .nilIface]
  | .range => .tup [.v (.int .u64 18446744073709551615), .v (.iface 180 (.pointer (some ⟨N, 0, none⟩)))]
  | _ => .tup [.v (.int .u64 0), .v (.iface 180 (.pointer (some ⟨N, 0, none⟩)))]
theorem tParse (fx : List Fact) (hg : gErr ∈ fx) (s : ByteArray) (hs : s.size ≤ 281474976710656) : Tri Tryd.prog 93 [.v (.string s), .k .i64 10, .k .i64 64] [] 0 fx
    (RetE (α := Nat) 0 (fun _ => True) (fun N => puS N (Lib.parseUintB 64 s.data.toList)) (fun _ => []) 0 (fun _ => [])) :=
  Tri.shelf (vs := [.string s, .int .i64 10, .int .i64 64]) (fun _ => rfl) (fun N _ _ => by unfold puS; split <;> rfl) (Go.Proofs.enters_of Tryd.func93 (by kernel_rfl) rfl) fun w hw => by
    obtain ⟨e6, h6, h6'⟩ := hw _ hg 6 (.inl rfl)
    obtain ⟨e7, h7, h7'⟩ := hw _ hg 7 (.inr rfl)
    rcases hp : Lib.parseUintB 64 s.data.toList with u | _ | _
    · refine (Any.strconv_ParseUint_10_at64_ok Tryd.laysPu14 s (by omega) u hp w).mono fun e w' ⟨he, hb⟩ => ⟨⟨0, trivial, by rw [he]; rfl⟩, ?_⟩
      rcases hb with hb | hb <;> rw [hb]
      · exact Below.refl _ _
      · exact Lib.bytesWorld_below _ _ _
    · refine (Any.strconv_ParseUint_10_at64_syntax Tryd.laysPu14 s hs hp e6 w h6 h6').mono fun e w' ⟨N, he, _, _, hb⟩ => ⟨⟨N, trivial, by rw [he]; rfl⟩, hb⟩
    · refine (Any.strconv_ParseUint_10_at64_range Tryd.laysPu14 s hs hp e7 w h7 h7').mono fun e w' ⟨N, he, _, _, hb⟩ => ⟨⟨N, trivial, by rw [he]; rfl⟩, hb⟩
end Go.Proofs.YtekgjjanikicnaaDoor.Sx

namespace Go.Proofs.YtekgjjanikicnaaDoor.Sx
open Go Go.RowKit
set_option maxRecDepth 100000
set_option linter.unusedSimpArgs false
set_option linter.unusedVariables false
/-- A number's digits, and what stands behind them. -/
def fmtRow (u : Nat) : List Value := (Lib.decDigits u).map bv ++ List.replicate (24 - Lib.nDigits u) (.int .u8 0)
theorem decDigits_len (u : Nat) : (Lib.decDigits u).length = Lib.nDigits u := Lib.decDigits_length u
theorem frozen_cellsAt {w : World} {b : Nat} {cs : List Value} {T : TypeId} (h : CellsAt w b cs T) (j : Nat) (hj : j < cs.length) : w.frozen? ⟨b, j, none⟩ = false := by
  obtain ⟨fz, h1, h2⟩ := h
  simp only [World.frozen?, h1]
  rcases h2 with h2 | h2
  · simp [h2]
  · simp; omega
theorem put_row (N u : Nat) (dk : Array UInt8) (h24 : Lib.nDigits u ≤ N) (hdk : dk.size = Lib.nDigits u) (hI : ∀ k, k < Lib.nDigits u → dk[k]! = Lib.dg u (Lib.nDigits u - 1 - k)) :
    Sort.putCells (fun (b : UInt8) => Value.int .u8 (b.toNat : Int)) 0 dk (List.replicate N (Value.int .u8 0)).toArray = ((Lib.decDigits u).map bv ++ List.replicate (N - Lib.nDigits u) (Value.int .u8 0)).toArray := by
  apply Array.ext_getElem?
  intro k
  unfold Sort.putCells
  rw [Array.getElem?_mapIdx, List.getElem?_toArray, List.getElem?_toArray, List.getElem?_replicate]
  by_cases hk : k < Lib.nDigits u
  · rw [if_pos (show k < N by omega), List.getElem?_append_left (by simp [decDigits_len]; exact hk), Option.map_some, if_pos (by omega), List.getElem?_map, Lib.decDigits_eq, List.getElem?_map, List.getElem?_range hk, Nat.sub_zero, hI k hk]
    rfl
  · rw [List.getElem?_append_right (by simp [decDigits_len]; omega), List.getElem?_replicate, List.length_map, decDigits_len]
    by_cases hk2 : k < N
    · rw [if_pos hk2, if_pos (by omega), Option.map_some, if_neg (by omega)]
    · rw [if_neg hk2, if_neg (by omega)]; rfl
theorem putRow_heap {w : World} {b off : Nat} {d : Array UInt8} {c : Array Value} {T : TypeId} {fz : Nat × Nat} {enc : UInt8 → Value} (hb : w.heap[b]? = some (.cells c T fz)) (n : Nat) :
    ((Sort.putRow enc w b off d).drewN n).heap[b]? = some (.cells (Sort.putCells enc off d c) T fz) := by
  simp [World.drewN, Sort.putRow, Sort.mapBlock, Array.getElem?_modify, hb, Sort.onCells]
theorem putRow_keeps {w : World} {b off : Nat} {d : Array UInt8} {enc : UInt8 → Value} (n : Nat) : Keeps (fun k => k = b) w ((Sort.putRow enc w b off d).drewN n) := by
  refine ⟨rfl, rfl, rfl, by simp [World.drewN, Sort.putRow, Sort.mapBlock], fun k hk hn => ?_⟩
  simp only [World.drewN, Sort.putRow, Sort.mapBlock, Array.getElem?_modify]
  rw [if_neg (Ne.symm hn)]
theorem tFmt (fx : List Fact) (u : Nat) (h24 : Lib.nDigits u ≤ 24) (h2 : u < 18446744073709551616) : Tri Tryd.prog 149 [.s 0 0 (Lib.nDigits u) 24, .v (.int .u64 (u : Int))] [(0, .cells (List.replicate 24 (.k .u8 0)) 173)] 1 fx
    (Ret 1 (.tup []) [(0, .row (fmtRow u) 173)] 1 []) :=
  ⟨trivial, fun ρ F w hh hrob => .inl ⟨(Go.Proofs.enters_of Tryd.func149 (by kernel_rfl) rfl) _ w, by
    obtain ⟨hF, hc⟩ := hh.obj ρ (Ag.refl _ _) 0 _ (List.mem_singleton.2 rfl)
    have hz : denL ρ (List.replicate 24 (.k .u8 0)) = List.replicate 24 (.int .u8 0) := rfl
    rw [hz] at hc
    have hsz : (Array.replicate (Lib.nDigits u) (0 : UInt8)).size = Lib.nDigits u := by simp
    have hH : Sort.Holds (fun (b : UInt8) => Value.int .u8 (b.toNat : Int)) w (ρ 0) 0 (Array.replicate (Lib.nDigits u) (0 : UInt8)) := by
      intro j hj
      rw [hsz] at hj
      refine ⟨?_, ?_⟩
      · rw [hc.cell, Nat.zero_add]
        rw [List.getElem?_replicate, if_pos (by omega)]
        rw [getElem!_pos _ j (by rw [hsz]; exact hj)]
        simp
      · rw [Nat.zero_add]; exact frozen_cellsAt hc j (by simp; omega)
    have K := Any.internal_strconv_formatBase10 Tryd.lays285 (ρ 0) 0 24 u (Array.replicate (Lib.nDigits u) (0 : UInt8)) w hH (by rw [hsz]; exact Lib.lt_pow_nDigits u) h2 (by rw [hsz]; omega)
    rw [hsz] at K
    refine K.mono ?_
    rintro e w' ⟨he, n, v', dk, hw, hI⟩
    obtain ⟨fz, hb, hfz⟩ := hc
    have hdk : dk.size = Lib.nDigits u := hI.size
    have hlt : ρ 0 < w.heap.size := by
      rcases Nat.lt_or_ge (ρ 0) w.heap.size with h | h
      · exact h
      · rw [Array.getElem?_eq_none h] at hb; cases hb
    have hC : CellsAt w' (ρ 0) (fmtRow u) 173 := by
      refine ⟨fz, ?_, ?_⟩
      · rw [hw, putRow_heap hb n, put_row 24 u dk h24 hdk fun k hk => hI.done k (Nat.zero_le _) hk]
        rfl
      · rcases hfz with h | h
        · exact .inl h
        · right; simp [fmtRow, decDigits_len] at h ⊢; omega
    have hK : Keeps (fun k => k = ρ 0) w w' := by rw [hw]; exact putRow_keeps n
    have hsub : ∀ k, Own [(0, SObj.row (fmtRow u) 173)] F k → Own [(0, SObj.cells (List.replicate 24 (.k .u8 0)) 173)] F k := by
      rintro k ⟨r, o, hm, hk⟩
      cases List.mem_singleton.1 hm
      exact ⟨0, _, List.mem_singleton.2 rfl, hk⟩
    have hK2 : Keeps (Own [(0, SObj.cells (List.replicate 24 (.k .u8 0)) 173)] F) w w' := hK.mono fun k hk => ⟨0, _, List.mem_singleton.2 rfl, (hF k).2 hk⟩
    refine ⟨.tup [], [(0, .row (fmtRow u) 173)], 1, [], ρ, F, ?_, by rw [he]; rfl, fun _ _ => rfl, ⟨?_, ?_⟩, Ag.refl _ _, Nat.le_refl _, hK2, fun k hk => .inl (hsub k hk), fun f hf => by cases hf⟩
    · exact Ret.mk [0] _ (Fold.refl _) rfl (fun _ _ _ => rfl) ⟨OSub.row rfl, trivial⟩ (fun g hg => by cases hg)
    · intro ρ' hag r o hm
      cases List.mem_singleton.1 hm
      exact ⟨fun k => by rw [hag 0 (by omega)]; exact hF k, by rw [hag 0 (by omega)]; exact hC⟩
    · refine ⟨fun r o hm => ?_, fun r o r' o' hm hm' hne => ?_, fun r o hm k hk => ?_, fun f hf => by cases hf⟩
      · cases List.mem_singleton.1 hm; omega
      · cases List.mem_singleton.1 hm; cases List.mem_singleton.1 hm'; exact absurd rfl hne
      · cases List.mem_singleton.1 hm
        rw [(hF k).1 hk]
        exact Nat.lt_of_lt_of_le hlt hK.size⟩⟩
theorem nDigits_le (u : Nat) (h : u < 18446744073709551616) : Lib.nDigits u ≤ 20 := by
  have h1 : ∀ k u, u < 10 ^ (k + 1) → Lib.nDigits u ≤ k + 1 := by
    intro k
    induction k with
    | zero => intro u h; rw [Lib.nDigits_small (by omega)]; omega
    | succ k ih =>
      intro u h
      by_cases h10 : u < 10
      · rw [Lib.nDigits_small h10]; omega
      · rw [Lib.nDigits_big h10]
        have := ih (u / 10) (by rw [Nat.pow_succ] at h; omega)
        omega
  exact h1 19 u (by omega)
theorem fmt_take (u : Nat) : List.take (Lib.nDigits u) (List.drop 0 (fmtRow u)) = (Lib.decDigits u).map bv ∧ ((Lib.decDigits u).map bv).length = Lib.nDigits u := by
  refine ⟨?_, by rw [List.length_map, decDigits_len]⟩
  rw [List.drop_zero, fmtRow, List.take_append_of_le_length (by rw [List.length_map, decDigits_len]; exact Nat.le_refl _), List.take_of_length_le (by rw [List.length_map, decDigits_len]; exact Nat.le_refl _)]
theorem tFU (fx : List Fact) (hg : gTab ∈ fx) (x : Nat) (h2 : x < 18446744073709551616) : Tri Tryd.prog 125 [.v (.int .u64 (x : Int)), .k .i64 10] [] 0 fx (Ret 0 (.v (.string ⟨(Lib.decDigits x).toArray⟩)) [] 0 []) := by
  refine Tri.of_code tok Tryd.func125 rfl rfl rfl (by decide) rfl (Nat.le_of_ble_eq_true rfl) ?_
  conv => whnf
  repeat' ((first | refine And.intro (by repeat' first | exact trivial | refine And.intro rfl ?_) (And.intro (by first | exact fun _ h => h | exact fun _ => List.mem_cons_of_mem _ | exact fun _ => List.mem_append_right _) ?_) | (refine And.intro (fun h => ?_) (fun h => ?_) <;> (try simp only [n1, n2, n3, n4, n5, n6] at h) <;> first | (exfalso; omega) | (cases h; done) | skip) | refine And.intro (by omega) ?_ | refine Exists.intro _ (And.intro (by first | exact And.intro rfl rfl | exact Pl.den (by repeat constructor) | with_reducible rfl | exact cast_succ _ | assumption | exact (Int.toNat_of_nonneg (by omega)).symm | rfl) ?_) | refine hD _ _ ?_ | refine hL _ _ ?_ | (intro h; (try simp only [n1, n2, n3, n4, n5, n6] at h); first | (exfalso; omega) | (cases h; done) | skip)) <;> (conv => whnf))
  · refine Tri.use (tSmall _ x (by omega)) [] rfl (fun _ _ _ => rfl) trivial (fun f hf => by first | exact hf | cases hf) (fun u hu => ?_)
    conv => whnf
    repeat' ((first | refine And.intro (by repeat' first | exact trivial | refine And.intro rfl ?_) (And.intro (by first | exact fun _ h => h | exact fun _ => List.mem_cons_of_mem _ | exact fun _ => List.mem_append_right _) ?_) | (refine And.intro (fun h => ?_) (fun h => ?_) <;> (try simp only [n1, n2, n3, n4, n5, n6] at h) <;> first | (exfalso; omega) | (cases h; done) | skip) | refine And.intro (by omega) ?_ | refine Exists.intro _ (And.intro (by first | exact And.intro rfl rfl | exact Pl.den (by repeat constructor) | with_reducible rfl | exact cast_succ _ | assumption | exact (Int.toNat_of_nonneg (by omega)).symm | rfl) ?_) | refine hD _ _ ?_ | refine hL _ _ ?_ | (intro h; (try simp only [n1, n2, n3, n4, n5, n6] at h); first | (exfalso; omega) | (cases h; done) | skip)) <;> (conv => whnf))
    exact Ret.noneS rfl (fun _ _ => rfl) (fun g hg => by cases hg)
  · have hn : Lib.nDigits x ≤ 20 := nDigits_le x h2
    have hn24 : Lib.nDigits x ≤ 24 := by omega
    refine Tri.use (tNumDigits _ hg x (by omega) (by omega)) [] rfl (fun _ _ _ => rfl) trivial (fun f hf => by first | exact hf | cases hf) (fun u hu => ?_)
    conv => whnf
    repeat' ((first | (refine And.intro hn24 ?_) | refine And.intro (by repeat' first | exact trivial | refine And.intro rfl ?_) (And.intro (by first | exact fun _ h => h | exact fun _ => List.mem_cons_of_mem _ | exact fun _ => List.mem_append_right _) ?_) | (refine And.intro (fun h => ?_) (fun h => ?_) <;> (try simp only [n1, n2, n3, n4, n5, n6] at h) <;> first | (exfalso; omega) | (cases h; done) | skip) | refine And.intro (by omega) ?_ | refine Exists.intro _ (And.intro (by first | exact And.intro rfl rfl | exact Pl.den (by repeat constructor) | with_reducible rfl | exact cast_succ _ | assumption | exact (Int.toNat_of_nonneg (by omega)).symm | rfl) ?_) | refine hD _ _ ?_ | refine hL _ _ ?_ | (intro h; (try simp only [n1, n2, n3, n4, n5, n6] at h); first | (exfalso; omega) | (cases h; done) | skip)) <;> (conv => whnf))
    refine Tri.use (tFmt fx x hn24 h2).one [0] rfl (args_ren rfl rfl) ⟨OSub.ren rfl rfl, trivial⟩ (fun f hf => by first | exact hf | cases hf | simp_all) (fun u hu => ?_)
    conv => whnf
    repeat' ((first | (refine Exists.intro ((Lib.decDigits x).map bv) (And.intro (fmt_take x) ?_)) | (refine Exists.intro (Lib.decDigits x) (And.intro rfl ?_)) | refine And.intro (by repeat' first | exact trivial | refine And.intro rfl ?_) (And.intro (by first | exact fun _ h => h | exact fun _ => List.mem_cons_of_mem _ | exact fun _ => List.mem_append_right _) ?_) | (refine And.intro (fun h => ?_) (fun h => ?_) <;> (try simp only [n1, n2, n3, n4, n5, n6] at h) <;> first | (exfalso; omega) | (cases h; done) | skip) | refine And.intro (by omega) ?_ | refine Exists.intro _ (And.intro (by first | exact And.intro rfl rfl | exact Pl.den (by repeat constructor) | with_reducible rfl | exact cast_succ _ | assumption | exact (Int.toNat_of_nonneg (by omega)).symm | rfl) ?_) | refine hD _ _ ?_ | refine hL _ _ ?_ | (intro h; (try simp only [n1, n2, n3, n4, n5, n6] at h); first | (exfalso; omega) | (cases h; done) | skip)) <;> (conv => whnf))
    exact Ret.noneS rfl (fun _ _ => rfl) (fun g hg => by cases hg)
end Go.Proofs.YtekgjjanikicnaaDoor.Sx

namespace Go.Proofs.YtekgjjanikicnaaDoor.Sx
open Go
set_option linter.unusedSimpArgs false
set_option linter.unusedVariables false
/-- What text.Number answers. -/
def numOf (l : List UInt8) : Option Nat :=
  match Lib.parseUintB 64 l with
  | .ok u => if Lib.decDigits u = l then some u else none
  | _ => none
theorem parseM_app (M : Nat) (c : UInt8) : ∀ (l : List UInt8) (acc v : Nat), Lib.parseUintM M acc l = .ok v → Lib.parseUintM M acc (l ++ [c]) = Lib.parseUintM M v [c]
  | [], acc, v, h => by
    simp only [Lib.parseUintM, Lib.NumEnd.ok.injEq] at h
    subst h; rfl
  | x :: r, acc, v, h => by
    rw [List.cons_append]
    unfold Lib.parseUintM at h ⊢
    split at h
    · rename_i h1
      rw [if_pos h1]
      split at h
      · cases h
      · rename_i h2
        rw [if_neg h2]
        split at h
        · cases h
        · rename_i h3
          rw [if_neg h3]
          exact parseM_app M c r _ v h
    · cases h
theorem digit_nat {d : Nat} (h : d < 10) : (UInt8.ofNat (48 + d)).toNat = 48 + d := by
  simp only [UInt8.toNat_ofNat']; omega
theorem parse_dec : ∀ (n u : Nat), u ≤ n → u < 18446744073709551616 → Lib.parseUintM (2 ^ 64 - 1) 0 (Lib.decDigits u) = .ok u := by
  intro n
  induction n with
  | zero =>
    intro u h _
    have : u = 0 := by omega
    subst this
    rw [Lib.decDigits_one (by omega)]
    simp [Lib.parseUintM]
  | succ n ih =>
    intro u h hu
    by_cases h10 : u < 10
    · rw [Lib.decDigits_one h10]
      unfold Lib.parseUintM Lib.parseUintM
      have e := digit_nat h10
      rw [if_pos (by omega), if_neg (by omega), if_neg (by omega), e]
      congr 1; omega
    · have e : Lib.decDigits u = Lib.decDigits (u / 10) ++ [UInt8.ofNat (48 + u % 10)] := by
        conv => lhs; rw [Lib.decDigits, dif_neg h10]
      have hd := digit_nat (Nat.mod_lt u (show 0 < 10 by omega))
      rw [e, parseM_app _ _ _ _ _ (ih (u / 10) (by omega) (by omega))]
      unfold Lib.parseUintM Lib.parseUintM
      rw [if_pos (by omega), if_neg (by omega), if_neg (by omega), hd]
      congr 1; omega
theorem dec_ne (u : Nat) : Lib.decDigits u ≠ [] := by
  intro h
  have h1 := Lib.decDigits_length u
  have h2 : 1 ≤ Lib.nDigits u := by
    by_cases h10 : u < 10
    · rw [Lib.nDigits_small h10]; omega
    · rw [Lib.nDigits_big h10]; omega
  rw [h] at h1
  simp at h1
  omega
theorem parse_decB {u : Nat} (hu : u < 18446744073709551616) : Lib.parseUintB 64 (Lib.decDigits u) = .ok u := by
  unfold Lib.parseUintB
  rw [if_neg (dec_ne u), parse_dec u u (Nat.le_refl _) hu]
theorem dec_inj {u v : Nat} (hu : u < 18446744073709551616) (hv : v < 18446744073709551616) (h : Lib.decDigits u = Lib.decDigits v) : u = v := by
  have h1 := parse_decB hu
  rw [h, parse_decB hv] at h1
  cases h1; rfl
theorem numOf_some {l : List UInt8} {u : Nat} (h : numOf l = some u) : u < 18446744073709551616 ∧ Lib.decDigits u = l := by
  unfold numOf at h
  split at h
  · rename_i v hv
    have := Lib.parseUintB_le hv
    split at h
    · rename_i e
      cases h
      exact ⟨by omega, e⟩
    · cases h
  · cases h
theorem numOf_dec {u : Nat} (hu : u < 18446744073709551616) : numOf (Lib.decDigits u) = some u := by
  unfold numOf
  rw [parse_decB hu]
  simp only [if_true]
theorem numOf_iff {l : List UInt8} {u : Nat} : numOf l = some u ↔ u < 18446744073709551616 ∧ Lib.decDigits u = l :=
  ⟨numOf_some, fun ⟨h1, h2⟩ => by rw [← h2]; exact numOf_dec h1⟩
theorem numOf_none {l : List UInt8} (h : ∀ u, u < 18446744073709551616 → Lib.decDigits u ≠ l) : numOf l = none := by
  cases e : numOf l with
  | none => rfl
  | some u => exact absurd (numOf_some e).2 (h u (numOf_some e).1)
/-- A 0 ahead. -/
theorem dec_zero_ahead {u n : Nat} (hu : u < 18446744073709551616) (hn : n < 18446744073709551616) : Lib.decDigits u ≠ 48 :: Lib.decDigits n := by
  intro h
  have h1 := parse_decB hu
  rw [h] at h1
  unfold Lib.parseUintB at h1
  rw [if_neg (by simp)] at h1
  unfold Lib.parseUintM at h1
  rw [if_pos (by decide), if_neg (by omega), if_neg (by simp)] at h1
  have h2 := parse_dec n n (Nat.le_refl _) hn
  have e0 : 0 * 10 + ((48 : UInt8).toNat - 48) = 0 := by decide
  rw [e0, h2] at h1
  cases h1
  have := congrArg List.length h
  simp at this
theorem numOf_ahead {n : Nat} (hn : n < 18446744073709551616) : numOf (48 :: Lib.decDigits n) = none := numOf_none fun u hu => dec_zero_ahead hu hn
/-- A 0 behind. -/
theorem dec_behind {n : Nat} (hn : 0 < n) : Lib.decDigits (n * 10) = Lib.decDigits n ++ [48] := by
  conv => lhs; rw [Lib.decDigits, dif_neg (by omega)]
  rw [Nat.mul_div_cancel _ (by omega), Nat.mul_mod_left]
  rfl
theorem numOf_behind {n : Nat} (hn : n < 18446744073709551616) : numOf (Lib.decDigits n ++ [48]) = if 0 < n ∧ n * 10 < 18446744073709551616 then some (n * 10) else none := by
  split
  · rename_i h
    rw [← dec_behind h.1]
    exact numOf_dec h.2
  · rename_i h
    by_cases h0 : n = 0
    · subst h0
      rw [Lib.decDigits_one (by omega)]
      have e := numOf_ahead (n := 0) hn
      rw [Lib.decDigits_one (by omega)] at e
      exact e
    · refine numOf_none fun u hu e => ?_
      rw [← dec_behind (by omega)] at e
      by_cases h10 : u < 10
      · have := congrArg List.length e
        rw [Lib.decDigits_length, Lib.decDigits_length, Lib.nDigits_small h10, Lib.nDigits_big (by omega)] at this
        have : 1 ≤ Lib.nDigits (n * 10 / 10) := by rw [← Lib.decDigits_length]; exact List.length_pos_iff.2 (dec_ne _)
        omega
      · have e1 : Lib.decDigits u = Lib.decDigits (u / 10) ++ [UInt8.ofNat (48 + u % 10)] := by conv => lhs; rw [Lib.decDigits, dif_neg h10]
        rw [e1, dec_behind (by omega)] at e
        obtain ⟨e2, e3⟩ := List.append_inj' e rfl
        have e4 := dec_inj (by omega) hn e2
        have e5 := congrArg UInt8.toNat (List.cons.inj e3).1
        rw [digit_nat (Nat.mod_lt u (by omega))] at e5
        have : (48 : UInt8).toNat = 48 := rfl
        omega
/-- The number that digits would be, modulo M. -/
def foldM (M : Nat) (l : List UInt8) : Nat := l.foldl (fun n c => (n * 10 + c.toNat + (M - 48)) % M) 0
theorem foldM_app (M : Nat) (l : List UInt8) (c : UInt8) : foldM M (l ++ [c]) = (foldM M l * 10 + c.toNat + (M - 48)) % M := by
  simp [foldM, List.foldl_append]
theorem foldl_lt {M : Nat} (hM : 0 < M) : ∀ (l : List UInt8) (a : Nat), a < M → l.foldl (fun n c => (n * 10 + c.toNat + (M - 48)) % M) a < M
  | [], a, h => h
  | c :: r, a, h => foldl_lt hM r _ (Nat.mod_lt _ hM)
theorem foldM_lt {M : Nat} (hM : 0 < M) (l : List UInt8) : foldM M l < M := foldl_lt hM l 0 hM
theorem foldM_dec {M : Nat} (hM : 58 ≤ M) : ∀ (n u : Nat), u ≤ n → u < M → foldM M (Lib.decDigits u) = u := by
  have step : ∀ (a d u : Nat), d < 10 → a * 10 + d = u → u < M → (a * 10 + (UInt8.ofNat (48 + d)).toNat + (M - 48)) % M = u := by
    intro a d u hd e hu
    rw [digit_nat hd, show a * 10 + (48 + d) + (M - 48) = u + M by omega, Nat.add_mod_right, Nat.mod_eq_of_lt hu]
  intro n
  induction n with
  | zero =>
    intro u h hu
    have : u = 0 := by omega
    subst this
    rw [Lib.decDigits_one (by omega)]
    exact step 0 0 0 (by omega) rfl hu
  | succ n ih =>
    intro u h hu
    by_cases h10 : u < 10
    · rw [Lib.decDigits_one h10]
      exact step 0 u u h10 (by omega) hu
    · have e : Lib.decDigits u = Lib.decDigits (u / 10) ++ [UInt8.ofNat (48 + u % 10)] := by
        conv => lhs; rw [Lib.decDigits, dif_neg h10]
      rw [e, foldM_app, ih (u / 10) (by omega) (by omega)]
      exact step (u / 10) (u % 10) u (by omega) (by omega) hu
theorem numOf_foldM {M : Nat} (hM : M = 18446744073709551616) {l : List UInt8} : numOf l = if Lib.decDigits (foldM M (l.take 20)) = l then some (foldM M (l.take 20)) else none := by
  split
  · rename_i e
    rw [numOf_iff]
    exact ⟨by rw [← hM]; exact foldM_lt (by omega) _, e⟩
  · rename_i e
    refine numOf_none fun u hu h => e ?_
    have hlen : l.length ≤ 20 := by rw [← h, Lib.decDigits_length]; exact nDigits_le u hu
    rw [List.take_of_length_le hlen]
    conv => lhs; rw [← h]
    rw [foldM_dec (by omega) u u (Nat.le_refl _) (by omega), h]
end Go.Proofs.YtekgjjanikicnaaDoor.Sx

namespace Go.Proofs.YtekgjjanikicnaaDoor.Sx
open Go Go.RowKit
set_option maxRecDepth 100000
set_option linter.unusedSimpArgs false
set_option linter.unusedVariables false
theorem tFormatUint (fx : List Fact) (hg : gTab ∈ fx) (x : Nat) (h2 : x < 18446744073709551616) : Tri Tryd.prog 92 [.v (.int .u64 (x : Int)), .k .i64 10] [] 0 fx (Ret 0 (.v (.string ⟨(Lib.decDigits x).toArray⟩)) [] 0 []) := by
  refine Tri.of_code tok Tryd.func92 rfl rfl rfl (by decide) rfl (Nat.le_of_ble_eq_true rfl) ?_
  conv => whnf
  repeat' ((first | refine And.intro (by repeat' first | exact trivial | refine And.intro rfl ?_) (And.intro (by first | exact fun _ h => h | exact fun _ => List.mem_cons_of_mem _ | exact fun _ => List.mem_append_right _) ?_) | (refine And.intro (fun h => ?_) (fun h => ?_) <;> (try simp only [n1, n2, n3, n4, n5, n6] at h) <;> first | (exfalso; omega) | (cases h; done) | skip) | refine And.intro (by omega) ?_ | refine Exists.intro _ (And.intro (by first | exact And.intro rfl rfl | exact Pl.den (by repeat constructor) | with_reducible rfl | exact cast_succ _ | assumption | exact (Int.toNat_of_nonneg (by omega)).symm | rfl) ?_) | refine hD _ _ ?_ | refine hL _ _ ?_ | (intro h; (try simp only [n1, n2, n3, n4, n5, n6] at h); first | (exfalso; omega) | (cases h; done) | skip)) <;> (conv => whnf))
  refine Tri.use ((tFU fx hg x h2).one) [] rfl (fun _ _ _ => rfl) trivial (fun f hf => by first | exact hf | cases hf) (fun u hu => ?_)
  conv => whnf
  repeat' ((first | refine And.intro (by repeat' first | exact trivial | refine And.intro rfl ?_) (And.intro (by first | exact fun _ h => h | exact fun _ => List.mem_cons_of_mem _ | exact fun _ => List.mem_append_right _) ?_) | (refine And.intro (fun h => ?_) (fun h => ?_) <;> (try simp only [n1, n2, n3, n4, n5, n6] at h) <;> first | (exfalso; omega) | (cases h; done) | skip) | refine And.intro (by omega) ?_ | refine Exists.intro _ (And.intro (by first | exact And.intro rfl rfl | exact Pl.den (by repeat constructor) | with_reducible rfl | exact cast_succ _ | assumption | exact (Int.toNat_of_nonneg (by omega)).symm | rfl) ?_) | refine hD _ _ ?_ | refine hL _ _ ?_ | (intro h; (try simp only [n1, n2, n3, n4, n5, n6] at h); first | (exfalso; omega) | (cases h; done) | skip)) <;> (conv => whnf))
  exact Ret.noneS rfl (fun _ _ => rfl) (fun g hg => by cases hg)
theorem tDigits (fx : List Fact) (hg : gTab ∈ fx) (x : Nat) (h2 : x < 18446744073709551616) : Tri Tryd.prog 46 [.v (.int .u64 (x : Int))] [] 0 fx (Ret 0 (.v (.string ⟨(Lib.decDigits x).toArray⟩)) [] 0 []) := by
  refine Tri.of_code tok Tryd.func46 rfl rfl rfl (by decide) rfl (Nat.le_of_ble_eq_true rfl) ?_
  conv => whnf
  repeat' ((first | refine And.intro (by repeat' first | exact trivial | refine And.intro rfl ?_) (And.intro (by first | exact fun _ h => h | exact fun _ => List.mem_cons_of_mem _ | exact fun _ => List.mem_append_right _) ?_) | (refine And.intro (fun h => ?_) (fun h => ?_) <;> (try simp only [n1, n2, n3, n4, n5, n6] at h) <;> first | (exfalso; omega) | (cases h; done) | skip) | refine And.intro (by omega) ?_ | refine Exists.intro _ (And.intro (by first | exact And.intro rfl rfl | exact Pl.den (by repeat constructor) | with_reducible rfl | exact cast_succ _ | assumption | exact (Int.toNat_of_nonneg (by omega)).symm | rfl) ?_) | refine hD _ _ ?_ | refine hL _ _ ?_ | (intro h; (try simp only [n1, n2, n3, n4, n5, n6] at h); first | (exfalso; omega) | (cases h; done) | skip)) <;> (conv => whnf))
  refine Tri.use ((tFormatUint fx hg x h2).one) [] rfl (fun _ _ _ => rfl) trivial (fun f hf => by first | exact hf | cases hf) (fun u hu => ?_)
  conv => whnf
  repeat' ((first | refine And.intro (by repeat' first | exact trivial | refine And.intro rfl ?_) (And.intro (by first | exact fun _ h => h | exact fun _ => List.mem_cons_of_mem _ | exact fun _ => List.mem_append_right _) ?_) | (refine And.intro (fun h => ?_) (fun h => ?_) <;> (try simp only [n1, n2, n3, n4, n5, n6] at h) <;> first | (exfalso; omega) | (cases h; done) | skip) | refine And.intro (by omega) ?_ | refine Exists.intro _ (And.intro (by first | exact And.intro rfl rfl | exact Pl.den (by repeat constructor) | with_reducible rfl | exact cast_succ _ | assumption | exact (Int.toNat_of_nonneg (by omega)).symm | rfl) ?_) | refine hD _ _ ?_ | refine hL _ _ ?_ | (intro h; (try simp only [n1, n2, n3, n4, n5, n6] at h); first | (exfalso; omega) | (cases h; done) | skip)) <;> (conv => whnf))
  exact Ret.noneS rfl (fun _ _ => rfl) (fun g hg => by cases hg)
def numS : Option Nat → SV
  | some u => .tup [.v (.int .u64 (u : Int)), .b true]
  | none => .tup [.k .u64 0, .b false]
theorem str_eq {s : ByteArray} {l : List UInt8} : (⟨l.toArray⟩ : ByteArray) = s ↔ l = s.data.toList := by
  constructor
  · intro h; rw [← h]
  · intro h; rw [h]
theorem tNumber (fx : List Fact) (hg : gTab ∈ fx) (he : gErr ∈ fx) (s : ByteArray) (hs : s.size ≤ 281474976710656) : Tri Tryd.prog 47 [.v (.string s)] [] 0 fx (Ret 0 (numS (numOf s.data.toList)) [] 0 []) := by
  have P := tParse fx he s hs
  rcases hp : Lib.parseUintB 64 s.data.toList with x | _ | _
  · have hx : x < 18446744073709551616 := by have := Lib.parseUintB_le hp; omega
    rw [hp] at P
    refine Tri.of_code tok Tryd.func47 rfl rfl rfl (by decide) rfl (Nat.le_of_ble_eq_true rfl) ?_
    conv => whnf
    repeat' ((first | refine And.intro (by repeat' first | exact trivial | refine And.intro rfl ?_) (And.intro (by first | exact fun _ h => h | exact fun _ => List.mem_cons_of_mem _ | exact fun _ => List.mem_append_right _) ?_) | (refine And.intro (fun h => ?_) (fun h => ?_) <;> (try simp only [n1, n2, n3, n4, n5, n6] at h) <;> first | (exfalso; omega) | (cases h; done) | skip) | refine And.intro (by omega) ?_ | refine Exists.intro _ (And.intro (by first | exact And.intro rfl rfl | exact Pl.den (by repeat constructor) | with_reducible rfl | exact cast_succ _ | assumption | exact (Int.toNat_of_nonneg (by omega)).symm | rfl) ?_) | refine hD _ _ ?_ | refine hL _ _ ?_ | (intro h; (try simp only [n1, n2, n3, n4, n5, n6] at h); first | (exfalso; omega) | (cases h; done) | skip)) <;> (conv => whnf))
    refine Tri.use (P) [] rfl (fun _ _ _ => rfl) trivial (fun f hf => by first | exact hf | cases hf) (fun u hu => ?_)
    conv => whnf
    repeat' ((first | refine And.intro (by repeat' first | exact trivial | refine And.intro rfl ?_) (And.intro (by first | exact fun _ h => h | exact fun _ => List.mem_cons_of_mem _ | exact fun _ => List.mem_append_right _) ?_) | (refine And.intro (fun h => ?_) (fun h => ?_) <;> (try simp only [n1, n2, n3, n4, n5, n6] at h) <;> first | (exfalso; omega) | (cases h; done) | skip) | refine And.intro (by omega) ?_ | refine Exists.intro _ (And.intro (by first | exact And.intro rfl rfl | exact Pl.den (by repeat constructor) | with_reducible rfl | exact cast_succ _ | assumption | exact (Int.toNat_of_nonneg (by omega)).symm | rfl) ?_) | refine hD _ _ ?_ | refine hL _ _ ?_ | (intro h; (try simp only [n1, n2, n3, n4, n5, n6] at h); first | (exfalso; omega) | (cases h; done) | skip)) <;> (conv => whnf))
    refine Tri.use ((tDigits fx hg x hx).one) [] rfl (fun _ _ _ => rfl) trivial (fun f hf => by first | exact hf | cases hf) (fun u hu => ?_)
    conv => whnf
    repeat' ((first | refine And.intro (by repeat' first | exact trivial | refine And.intro rfl ?_) (And.intro (by first | exact fun _ h => h | exact fun _ => List.mem_cons_of_mem _ | exact fun _ => List.mem_append_right _) ?_) | (refine And.intro (fun h => ?_) (fun h => ?_) <;> (try simp only [n1, n2, n3, n4, n5, n6] at h) <;> first | (exfalso; omega) | (cases h; done) | skip) | refine And.intro (by omega) ?_ | refine Exists.intro _ (And.intro (by first | exact And.intro rfl rfl | exact Pl.den (by repeat constructor) | with_reducible rfl | exact cast_succ _ | assumption | exact (Int.toNat_of_nonneg (by omega)).symm | rfl) ?_) | refine hD _ _ ?_ | refine hL _ _ ?_ | (intro h; (try simp only [n1, n2, n3, n4, n5, n6] at h); first | (exfalso; omega) | (cases h; done) | skip)) <;> (conv => whnf))
    · have hn : numOf s.data.toList = none := by
        unfold numOf; rw [hp]
        exact if_neg (by simpa using h)
      rw [hn]
      exact Ret.noneS rfl (fun _ _ => rfl) (fun g hg => by cases hg)
    · have hn : numOf s.data.toList = some x := by
        unfold numOf; rw [hp]
        exact if_pos (by simpa using h)
      rw [hn]
      exact Ret.noneS rfl (fun _ _ => rfl) (fun g hg => by cases hg)
  · rw [hp] at P
    have hn : numOf s.data.toList = none := by unfold numOf; rw [hp]
    rw [hn]
    refine Tri.of_code tok Tryd.func47 rfl rfl rfl (by decide) rfl (Nat.le_of_ble_eq_true rfl) ?_
    conv => whnf
    repeat' ((first | refine And.intro (by repeat' first | exact trivial | refine And.intro rfl ?_) (And.intro (by first | exact fun _ h => h | exact fun _ => List.mem_cons_of_mem _ | exact fun _ => List.mem_append_right _) ?_) | (refine And.intro (fun h => ?_) (fun h => ?_) <;> (try simp only [n1, n2, n3, n4, n5, n6] at h) <;> first | (exfalso; omega) | (cases h; done) | skip) | refine And.intro (by omega) ?_ | refine Exists.intro _ (And.intro (by first | exact And.intro rfl rfl | exact Pl.den (by repeat constructor) | with_reducible rfl | exact cast_succ _ | assumption | exact (Int.toNat_of_nonneg (by omega)).symm | rfl) ?_) | refine hD _ _ ?_ | refine hL _ _ ?_ | (intro h; (try simp only [n1, n2, n3, n4, n5, n6] at h); first | (exfalso; omega) | (cases h; done) | skip)) <;> (conv => whnf))
    refine Tri.use (P) [] rfl (fun _ _ _ => rfl) trivial (fun f hf => by first | exact hf | cases hf) (fun u hu => ?_)
    conv => whnf
    repeat' ((first | refine And.intro (by repeat' first | exact trivial | refine And.intro rfl ?_) (And.intro (by first | exact fun _ h => h | exact fun _ => List.mem_cons_of_mem _ | exact fun _ => List.mem_append_right _) ?_) | (refine And.intro (fun h => ?_) (fun h => ?_) <;> (try simp only [n1, n2, n3, n4, n5, n6] at h) <;> first | (exfalso; omega) | (cases h; done) | skip) | refine And.intro (by omega) ?_ | refine Exists.intro _ (And.intro (by first | exact And.intro rfl rfl | exact Pl.den (by repeat constructor) | with_reducible rfl | exact cast_succ _ | assumption | exact (Int.toNat_of_nonneg (by omega)).symm | rfl) ?_) | refine hD _ _ ?_ | refine hL _ _ ?_ | (intro h; (try simp only [n1, n2, n3, n4, n5, n6] at h); first | (exfalso; omega) | (cases h; done) | skip)) <;> (conv => whnf))
    exact Ret.noneS rfl (fun _ _ => rfl) (fun g hg => by cases hg)
  · rw [hp] at P
    have hn : numOf s.data.toList = none := by unfold numOf; rw [hp]
    rw [hn]
    refine Tri.of_code tok Tryd.func47 rfl rfl rfl (by decide) rfl (Nat.le_of_ble_eq_true rfl) ?_
    conv => whnf
    repeat' ((first | refine And.intro (by repeat' first | exact trivial | refine And.intro rfl ?_) (And.intro (by first | exact fun _ h => h | exact fun _ => List.mem_cons_of_mem _ | exact fun _ => List.mem_append_right _) ?_) | (refine And.intro (fun h => ?_) (fun h => ?_) <;> (try simp only [n1, n2, n3, n4, n5, n6] at h) <;> first | (exfalso; omega) | (cases h; done) | skip) | refine And.intro (by omega) ?_ | refine Exists.intro _ (And.intro (by first | exact And.intro rfl rfl | exact Pl.den (by repeat constructor) | with_reducible rfl | exact cast_succ _ | assumption | exact (Int.toNat_of_nonneg (by omega)).symm | rfl) ?_) | refine hD _ _ ?_ | refine hL _ _ ?_ | (intro h; (try simp only [n1, n2, n3, n4, n5, n6] at h); first | (exfalso; omega) | (cases h; done) | skip)) <;> (conv => whnf))
    refine Tri.use (P) [] rfl (fun _ _ _ => rfl) trivial (fun f hf => by first | exact hf | cases hf) (fun u hu => ?_)
    conv => whnf
    repeat' ((first | refine And.intro (by repeat' first | exact trivial | refine And.intro rfl ?_) (And.intro (by first | exact fun _ h => h | exact fun _ => List.mem_cons_of_mem _ | exact fun _ => List.mem_append_right _) ?_) | (refine And.intro (fun h => ?_) (fun h => ?_) <;> (try simp only [n1, n2, n3, n4, n5, n6] at h) <;> first | (exfalso; omega) | (cases h; done) | skip) | refine And.intro (by omega) ?_ | refine Exists.intro _ (And.intro (by first | exact And.intro rfl rfl | exact Pl.den (by repeat constructor) | with_reducible rfl | exact cast_succ _ | assumption | exact (Int.toNat_of_nonneg (by omega)).symm | rfl) ?_) | refine hD _ _ ?_ | refine hL _ _ ?_ | (intro h; (try simp only [n1, n2, n3, n4, n5, n6] at h); first | (exfalso; omega) | (cases h; done) | skip)) <;> (conv => whnf))
    exact Ret.noneS rfl (fun _ _ => rfl) (fun g hg => by cases hg)
end Go.Proofs.YtekgjjanikicnaaDoor.Sx

namespace Go.Proofs.YtekgjjanikicnaaDoor.Sx
open Go
set_option maxRecDepth 100000
set_option linter.unusedSimpArgs false
set_option linter.unusedVariables false

/-! ### Names -/
def nameSign (c : UInt8) : Bool := (65 ≤ c.toNat && c.toNat ≤ 90) || (97 ≤ c.toNat && c.toNat ≤ 122) || (48 ≤ c.toNat && c.toNat ≤ 57) || c.toNat == 46 || c.toNat == 45 || c.toNat == 47
def nameOk (bs : List UInt8) : Bool := bs.all nameSign && decide (1 ≤ bs.length ∧ bs.length ≤ 40)
theorem sbyte_get {s : ByteArray} {i : Nat} (hi : i < s.size) : s.data.toList[i]? = some (sbyte s i) := by
  have hl : i < s.data.toList.length := by simpa using hi
  simp only [sbyte, List.getD_eq_getElem?_getD, List.getElem?_eq_getElem hl, Option.getD_some]
theorem take_succ_of {α : Type} {l : List α} {i : Nat} {x : α} (h : l[i]? = some x) : l.take (i + 1) = l.take i ++ [x] := by
  obtain ⟨hl, rfl⟩ := List.getElem?_eq_some_iff.1 h
  exact List.take_succ_eq_append_getElem hl
theorem sbyte_take {s : ByteArray} {i : Nat} (hi : i < s.size) (p : UInt8 → Bool) (ha : (s.data.toList.take i).all p = true) (hb : p (sbyte s i) = true) : (s.data.toList.take (i + 1)).all p = true := by
  rw [take_succ_of (sbyte_get hi), List.all_append, ha]
  simp [hb]
theorem all_false {s : ByteArray} {i : Nat} (hi : i < s.size) (p : UInt8 → Bool) (hb : p (sbyte s i) = false) : s.data.toList.all p = false := by
  rw [List.all_eq_false]
  exact ⟨_, List.mem_of_getElem? (sbyte_get hi), by simp [hb]⟩
theorem tName (s : ByteArray) (hs : s.size < 9223372036854775808) : Tri Tryd.prog 51 [.v (.string s)] [] 0 [] (RetE (α := Unit) 0 (fun _ => True) (fun _ => .v (.bool (nameOk s.data.toList))) (fun _ => []) 0 (fun _ => [])) := by
  refine Tri.one ?_
  refine Tri.of_code tok Tryd.func51 rfl rfl rfl (by decide) rfl (Nat.le_of_ble_eq_true rfl) ?_
  conv => whnf
  refine loop_by tok (α := Nat) (fun i => ⟨[(0, .v (.string s)), (2, .b false), (6, .v (.int .i64 s.size)), (7, .v (.int .i64 i))], [], 0, []⟩) (fun i => i ≤ s.size ∧ (s.data.toList.take i).all nameSign = true) (fun i => s.size - i) 0 [] (by simp) ⟨rfl, ?_, trivial, fun f hf => hf⟩ ?_
  · exact ⟨fun _ _ _ => rfl, fun _ _ _ => rfl, fun _ _ _ => rfl, fun _ _ _ => rfl, trivial⟩
  · rintro i ⟨hi, ha⟩
    conv => whnf
    repeat' ((first | refine And.intro (by repeat' first | exact trivial | refine And.intro rfl ?_) (And.intro (by first | exact fun _ h => h | exact fun _ => List.mem_cons_of_mem _ | exact fun _ => List.mem_append_right _) ?_) | (refine And.intro (fun h => ?_) (fun h => ?_) <;> (try simp only [n1, n2, n3, n4, n5, n6] at h) <;> first | (exfalso; omega) | (cases h; done) | skip) | refine And.intro (by omega) ?_ | refine Exists.intro _ (And.intro (by first | exact And.intro rfl rfl | exact Pl.den (by repeat constructor) | with_reducible rfl | exact cast_succ _ | assumption | exact (Int.toNat_of_nonneg (by omega)).symm | rfl) ?_) | refine hD _ _ ?_ | refine hL _ _ ?_ | (intro h; (try simp only [n1, n2, n3, n4, n5, n6] at h); first | (exfalso; omega) | (cases h; done) | skip)) <;> (conv => whnf))
    all_goals (try simp only [Int.toNat_natCast] at *)
    all_goals first
      | (refine ⟨i + 1, [], ⟨⟨by omega, sbyte_take (by omega) _ ha ?_⟩, by omega⟩, rfl, ⟨fun _ _ _ => rfl, fun _ _ _ => rfl, fun _ _ _ => rfl, fun _ _ _ => rfl, trivial⟩, trivial, fun f hf => hf⟩
         simp only [nameSign, Bool.or_eq_true, Bool.and_eq_true, decide_eq_true_eq, beq_iff_eq]; omega)
      | (refine Ret.none rfl (fun ρ => ?_) (fun g h => h)
         have hf : nameSign (sbyte s i) = false := by
           rw [← Bool.not_eq_true]
           simp only [nameSign, Bool.or_eq_true, Bool.and_eq_true, decide_eq_true_eq, beq_iff_eq]; omega
         simp only [nameOk, all_false (by omega) _ hf]; rfl)
      | (refine Ret.none rfl (fun ρ => ?_) (fun g h => h)
         obtain rfl : i = s.size := by omega
         rw [List.take_of_length_le (by simp)] at ha
         simp only [den, nameOk, ha, Bool.true_and]
         congr 1
         rw [Bool.eq_iff_iff]
         simp; omega)

/-! ### The builder -/
theorem CellsAt.shape {w : World} {b : Nat} {cs : List Value} {T : TypeId} (h : CellsAt w b cs T) : w.shape? b = some (T, cs.length) := by
  obtain ⟨fz, h, _⟩ := h
  simp [World.shape?, h]
theorem CellsAt.frozen {w : World} {b : Nat} {cs : List Value} {T : TypeId} (h : CellsAt w b cs T) {o : Nat} (ho : o < cs.length) : w.frozen? ⟨b, o, none⟩ = false := by
  obtain ⟨fz, h, hf⟩ := h
  simp [World.frozen?, h]
  omega
theorem cellsAt_setCell {w : World} {b o : Nat} {cs : List Value} {T : TypeId} (h : CellsAt w b cs T) (v : Value) : CellsAt (w.setCell ⟨b, o, none⟩ v) b (cs.set o v) T := by
  obtain ⟨fz, h, hf⟩ := h
  refine ⟨fz, ?_, by simpa using hf⟩
  simp [World.setCell, Array.getElem?_modify, h]
theorem keeps_setCell (w : World) (b o : Nat) (v : Value) : Keeps (fun k => k = b) w (w.setCell ⟨b, o, none⟩ v) := by
  refine ⟨rfl, rfl, rfl, by simp [World.setCell], fun k hk hn => ?_⟩
  simp only [World.setCell, Array.getElem?_modify]
  rw [if_neg (Ne.symm hn)]
set_option maxHeartbeats 1000000 in
theorem cCopyFresh (b : Nat) (w : World) (h0 : w.cell? ⟨b, 0, none⟩ = some (.pointer none)) (hsh : w.shape? b = some (138, 2)) (hf0 : w.frozen? ⟨b, 0, none⟩ = false) :
    Calls Tryd.prog 141 #[.pointer (some ⟨b, 0, none⟩)] w fun e w' => e = .returned (.tuple #[]) ∧ w' = w.setCell ⟨b, 0, none⟩ (.pointer (some ⟨b, 0, none⟩)) := by
  obtain ⟨j, z, hj, hjs, _⟩ := (tyFacts (tok 138 _ rfl)).info
  go_enter Tryd.func141, Tryd.ntmps141
  go_wp2
  rw [Lib.run_to_unsafe w ⟨b, 0, none⟩ Tryd.underlying136 Tryd.underlying189 hj (by rw [hjs]; decide) hsh (Nat.zero_lt_succ 1)]
  simp only [Result.andThen]
  rw [Oper.upon_value]
  go_wp2
  rw [run_callFunc_extern Tryd.func167 (by kernel_rfl) (by kernel_rfl) (by kernel_rfl) (e := Extern.AbiNoEscape.same) (by kernel_rfl)]
  rw [Lib.run_noEscape]
  simp only [Result.andThen]
  rw [Oper.upon_value]
  go_wp2
  rw [Lib.run_from_unsafe w ⟨b, 0, none⟩ Tryd.underlying189 Tryd.underlying136 hj hsh (by kernel_rfl)]
  simp only [Result.andThen]
  rw [Oper.upon_value]
  go_wp2
  go_end0
  exact ⟨rfl, rfl⟩
set_option maxHeartbeats 1000000 in
theorem cCopyUsed (b : Nat) (w : World) (h0 : w.cell? ⟨b, 0, none⟩ = some (.pointer (some ⟨b, 0, none⟩))) :
    Calls Tryd.prog 141 #[.pointer (some ⟨b, 0, none⟩)] w fun e w' => e = .returned (.tuple #[]) ∧ w' = w := by
  obtain ⟨j, z, hj, hjs, _⟩ := (tyFacts (tok 138 _ rfl)).info
  go_enter Tryd.func141, Tryd.ntmps141
  go_wp2
  rw [Lib.run_neq_ptr_same w _ Tryd.underlying136 hj]
  go_wp2
  go_end0
  exact ⟨rfl, rfl⟩
theorem tCopyFresh : Tri Tryd.prog 141 [.p 0 0] [(0, .cells [.v (.pointer none), .v (.slice none 0 0)] 138)] 1 [] (RetE (α := Unit) 1 (fun _ => True) (fun _ => .tup []) (fun _ => [(0, .cells [.p 0 0, .v (.slice none 0 0)] 138)]) 1 (fun _ => [])) := by
  refine ⟨trivial, fun ρ F w hh hrob => .inl ⟨by simp [callFunc, Tryd.func141, Tryd.f141], ?_⟩⟩
  have ho := hh.obj ρ (Ag.refl _ _) 0 _ (List.mem_singleton.2 rfl)
  have hc := ho.2
  simp only [denL_cons, denL_nil, den] at hc
  refine (cCopyFresh (ρ 0) w (by rw [hc.cell]; rfl) hc.shape (hc.frozen (Nat.zero_lt_succ _))).mono fun e w' ⟨he, hw⟩ => ?_
  subst hw
  have hk := keeps_setCell w (ρ 0) 0 (.pointer (some ⟨ρ 0, 0, none⟩))
  have hup := hh.upd (r0 := 0) (o := .cells [.p 0 0, .v (.slice none 0 0)] 138) (hp1 := [(0, .cells [.p 0 0, .v (.slice none 0 0)] 138)]) (fun r o hm => by
    obtain ⟨rfl, rfl⟩ := Prod.mk.inj (List.mem_singleton.1 hm)
    exact .inr ⟨rfl, rfl, _, List.mem_singleton.2 rfl⟩) (hk.mono fun k hk' => (ho.1 k).2 hk') ⟨_, List.mem_singleton.2 rfl⟩ (fun ρ' hr => by
      have h2 := hh.obj ρ' hr 0 _ (List.mem_singleton.2 rfl)
      refine ⟨h2.1, ?_⟩
      have h3 := h2.2
      simp only [denL_cons, denL_nil, den] at h3
      have h3 := cellsAt_setCell (o := 0) h3 (.pointer (some ⟨ρ 0, 0, none⟩))
      have e0 : ρ' 0 = ρ 0 := hr 0 (by decide)
      rw [e0] at h3 ⊢
      simpa only [denL_cons, denL_nil, den, e0, List.set] using h3)
  refine ⟨.tup [], [(0, .cells [.p 0 0, .v (.slice none 0 0)] 138)], 1, [], ρ, F, ⟨(), trivial, Ret.mk [0] _ (Fold.refl _) rfl (fun _ _ _ => rfl) ⟨OSub.ren rfl rfl, trivial⟩ (fun _ h => h)⟩, he, fun _ _ => rfl, hup.1, Ag.refl _ _, Nat.le_refl _, hk.mono fun k hk' => ⟨0, _, List.mem_singleton.2 rfl, (ho.1 k).2 hk'⟩, fun k hk' => .inl (hup.2 k hk'), fun f hf => .inl hf⟩
theorem tCopyUsed (n : Nat) (xs : List Value) : Tri Tryd.prog 141 [.p 0 0] [(0, .cells [.p 0 0, .s 1 0 n xs.length] 138), (1, .row xs 5)] 2 [] (RetE (α := Unit) 2 (fun _ => True) (fun _ => .tup []) (fun _ => [(0, .cells [.p 0 0, .s 1 0 n xs.length] 138), (1, .row xs 5)]) 2 (fun _ => [])) := by
  refine ⟨trivial, fun ρ F w hh hrob => .inl ⟨by simp [callFunc, Tryd.func141, Tryd.f141], ?_⟩⟩
  have ho := hh.obj ρ (Ag.refl _ _) 0 _ (List.mem_cons_self ..)
  have hc := ho.2
  simp only [denL_cons, denL_nil, den] at hc
  refine (cCopyUsed (ρ 0) w (by rw [hc.cell]; rfl)).mono fun e w' ⟨he, hw⟩ => ?_
  subst hw
  refine ⟨.tup [], [(0, .cells [.p 0 0, .s 1 0 n xs.length] 138), (1, .row xs 5)], 2, [], ρ, F, ⟨(), trivial, Ret.mk [0, 1] _ (Fold.refl _) rfl (fun _ _ _ => rfl) ⟨OSub.ren rfl rfl, OSub.ren rfl rfl, trivial⟩ (fun _ h => h)⟩, he, fun _ _ => rfl, hh, Ag.refl _ _, Nat.le_refl _, Keeps.refl _ _, fun k hk' => .inl hk', fun f hf => .inl hf⟩
end Go.Proofs.YtekgjjanikicnaaDoor.Sx

namespace Go.Proofs.YtekgjjanikicnaaDoor.Sx
open Go
set_option maxRecDepth 100000
set_option linter.unusedSimpArgs false
set_option linter.unusedVariables false

/-- A builder that holds these bytes. -/
def bldA (bs : List UInt8) : AR where
  A w b F := (bs = [] ∧ (∀ k, F k ↔ k = b) ∧ CellsAt w b [.pointer none, .slice none 0 0] 138) ∨
    ∃ g xs, g ≠ b ∧ (∀ k, F k ↔ k = b ∨ k = g) ∧ CellsAt w b [.pointer (some ⟨b, 0, none⟩), .slice (some ⟨g, 0, none⟩) bs.length xs.length] 138 ∧ CellsAt w g xs 5 ∧ xs.take bs.length = bs.map bv ∧ bs ≠ [] ∧ bs.length ≤ xs.length
  loc := by
    rintro w w' b F (⟨h1, h2, h3⟩ | ⟨g, xs, h1, h2, h3, h4, h5⟩) e
    · exact .inl ⟨h1, h2, h3.loc (e b ((h2 b).2 rfl))⟩
    · exact .inr ⟨g, xs, h1, h2, h3.loc (e b ((h2 b).2 (.inl rfl))), h4.loc (e g ((h2 g).2 (.inr rfl))), h5⟩
inductive BldV (bs : List UInt8) where
  | fresh (h : bs = [])
  | used (xs : List Value) (h1 : xs.take bs.length = bs.map bv) (h2 : bs ≠ []) (h3 : bs.length ≤ xs.length)
def bldL {bs : List UInt8} : BldV bs → Nat → Nat → List (Nat × SObj)
  | .fresh _, r, _ => [(r, .cells [.v (.pointer none), .v (.slice none 0 0)] 138)]
  | .used xs _ _ _, r, m => [(r, .cells [.p r 0, .s m 0 bs.length xs.length] 138), (m, .row xs 5)]
def bld0 (bs : List UInt8) : BldV bs :=
  match bs with
  | [] => .fresh rfl
  | c :: r => .used ((c :: r).map bv) (by rw [List.take_of_length_le (by simp)]) (by simp) (by simp)
theorem told_bld (bs : List UInt8) : Told (bldA bs) (bldL (bs := bs)) 1 := by
  refine ⟨fun ρ r m w F hr hA hF => ?_⟩
  rcases hA with ⟨h1, h2, h3⟩ | ⟨g, xs, h1, h2, h3, h4, h5, h6, h7⟩
  · refine ⟨.fresh h1, ρ, fun _ => F, Ag.refl _ _, fun ρ3 ha j o hm => ?_, fun j o hm => ?_, fun j o j' o' hm hm' hne => ?_, fun k ⟨j, o, hm, hk⟩ => hk⟩
    · obtain ⟨rfl, rfl⟩ := Prod.mk.inj (List.mem_singleton.1 hm)
      rw [ha j (by omega)]; exact ⟨h2, h3⟩
    · obtain ⟨rfl, rfl⟩ := Prod.mk.inj (List.mem_singleton.1 hm)
      exact .inl rfl
    · obtain ⟨rfl, rfl⟩ := Prod.mk.inj (List.mem_singleton.1 hm)
      obtain ⟨rfl, rfl⟩ := Prod.mk.inj (List.mem_singleton.1 hm')
      exact absurd rfl hne
  · have hmem : ∀ j o, (j, o) ∈ bldL (BldV.used xs h5 h6 h7) r m → (j = r ∧ o = .cells [.p r 0, .s m 0 bs.length xs.length] 138) ∨ (j = m ∧ o = .row xs 5) := fun j o hm => by
      simpa [bldL] using hm
    refine ⟨.used xs h5 h6 h7, updR ρ m g, updR (fun _ k => k = g) r (fun k => k = ρ r), Ag.updR ρ g, fun ρ3 ha j o hm => ?_, fun j o hm => ?_, fun j o j' o' hm hm' hne k hk hk' => ?_, fun k ⟨j, o, hm, hk⟩ => ?_⟩
    · have e1 : ρ3 r = ρ r := by rw [ha r (by omega), updR_ne _ _ (by omega)]
      have e2 : ρ3 m = g := by rw [ha m (by omega), updR_same]
      rcases hmem j o hm with ⟨rfl, rfl⟩ | ⟨rfl, rfl⟩
      · rw [updR_same]
        refine ⟨fun k => by rw [e1], ?_⟩
        simp only [denL_cons, denL_nil, den, e1, e2]
        exact h3
      · rw [updR_ne _ _ (by omega), e2]
        exact ⟨fun k => Iff.rfl, h4⟩
    · rcases hmem j o hm with ⟨rfl, rfl⟩ | ⟨rfl, rfl⟩
      · exact .inl rfl
      · exact .inr ⟨Nat.le_refl _, by omega⟩
    · rcases hmem j o hm with ⟨rfl, rfl⟩ | ⟨rfl, rfl⟩ <;> rcases hmem j' o' hm' with ⟨rfl, rfl⟩ | ⟨rfl, rfl⟩
      · exact absurd rfl hne
      · rw [updR_same] at hk; rw [updR_ne _ _ (by omega)] at hk'; exact h1 (hk'.symm.trans hk)
      · rw [updR_same] at hk'; rw [updR_ne _ _ (by omega)] at hk; exact h1 (hk.symm.trans hk')
      · exact absurd rfl hne
    · rcases hmem j o hm with ⟨rfl, rfl⟩ | ⟨rfl, rfl⟩
      · rw [updR_same] at hk; exact (h2 k).2 (.inl hk)
      · rw [updR_ne _ _ (by omega)] at hk; exact (h2 k).2 (.inr hk)
theorem bld_close {bs : List UInt8} {r m n cap : Nat} {xs : List Value} (hne : r ≠ m) (hn : n = bs.length) (hc : cap = xs.length) (h1 : xs.take bs.length = bs.map bv) (h2 : bs ≠ []) (h3 : bs.length ≤ xs.length) {h : List (Nat × SObj)}
    (hL : ∀ e, e ∈ [(r, SObj.cells [.p r 0, .s m 0 n cap] 138), (m, .row xs 5)] → e ∈ h) : Fold h ((r, .abs (bldA bs)) :: restH [r, m] h) := by
  subst hn hc
  refine Fold.abs (L := [(r, SObj.cells [.p r 0, .s m 0 bs.length xs.length] 138), (m, .row xs 5)]) hL (by simp) fun ρ F m' w hh => ?_
  have o1 := hh.obj ρ (Ag.refl _ _) r _ (List.mem_cons_self ..)
  have o2 := hh.obj ρ (Ag.refl _ _) m _ (List.mem_cons_of_mem _ (List.mem_cons_self ..))
  have c1 := o1.2
  simp only [denL_cons, denL_nil, den] at c1
  refine .inr ⟨ρ m, xs, fun e => ?_, fun k => ⟨?_, ?_⟩, c1, o2.2, h1, h2, h3⟩
  · exact hh.shape.dis m _ r _ (List.mem_cons_of_mem _ (List.mem_cons_self ..)) (List.mem_cons_self ..) (Ne.symm hne) (ρ m) ((o2.1 _).2 rfl) ((o1.1 _).2 e)
  · rintro ⟨j, o, hm, hk⟩
    rcases List.mem_cons.1 hm with e | hm
    · cases e; exact .inl ((o1.1 k).1 hk)
    · obtain ⟨rfl, rfl⟩ := Prod.mk.inj (List.mem_singleton.1 hm)
      exact .inr ((o2.1 k).1 hk)
  · rintro (rfl | rfl)
    · exact ⟨r, _, List.mem_cons_self .., (o1.1 _).2 rfl⟩
    · exact ⟨m, _, List.mem_cons_of_mem _ (List.mem_cons_self ..), (o2.1 _).2 rfl⟩
theorem bld_zero {r : Nat} {h : List (Nat × SObj)} (hL : (r, SObj.cells [.v (.pointer none), .v (.slice none 0 0)] 138) ∈ h) : Fold h ((r, .abs (bldA [])) :: restH [r] h) := by
  refine Fold.abs (L := [(r, SObj.cells [.v (.pointer none), .v (.slice none 0 0)] 138)]) (fun e he => by rw [List.mem_singleton.1 he]; exact hL) (by simp) fun ρ F m' w hh => ?_
  have o1 := hh.obj ρ (Ag.refl _ _) r _ (List.mem_cons_self ..)
  have c1 := o1.2
  simp only [denL_cons, denL_nil, den] at c1
  refine .inl ⟨rfl, fun k => ⟨?_, fun hk => ⟨r, _, List.mem_cons_self .., (o1.1 k).2 hk⟩⟩, c1⟩
  rintro ⟨j, o, hm, hk⟩
  obtain ⟨rfl, rfl⟩ := Prod.mk.inj (List.mem_singleton.1 hm)
  exact (o1.1 k).1 hk
theorem tWriteByte (bs : List UInt8) (c : UInt8) (hb : bs.length + 1 ≤ 140737488355328) : Tri Tryd.prog 109 [.p 0 0, .v (bv c)] [(0, .abs (bldA bs))] 1 [] (RetE (α := Unit) 1 (fun _ => True) (fun _ => .v .nilIface) (fun _ => [(0, .abs (bldA (bs ++ [c])))]) 1 (fun _ => [])) := by
  refine Tri.told (told_bld bs) (bld0 bs) 0 (List.mem_singleton.2 rfl) fun i => Tri.one ?_
  cases i with
  | fresh h =>
    show Tri _ 109 _ [(0, .cells [.v (.pointer none), .v (.slice none 0 0)] 138)] 2 [] _
    subst h
    refine Tri.of_code tok Tryd.func109 rfl rfl rfl (by decide) rfl (Nat.le_of_ble_eq_true rfl) ?_
    conv => whnf
    repeat' ((first | refine And.intro (by repeat' first | exact trivial | refine And.intro rfl ?_) (And.intro (by first | exact fun _ h => h | exact fun _ => List.mem_cons_of_mem _ | exact fun _ => List.mem_append_right _) ?_) | (refine And.intro (fun h => ?_) (fun h => ?_) <;> (try simp only [n1, n2, n3, n4, n5, n6] at h) <;> first | (exfalso; omega) | (cases h; done) | skip) | refine And.intro (by omega) ?_ | refine Exists.intro _ (And.intro (by first | exact And.intro rfl rfl | exact Pl.den (by repeat constructor) | with_reducible rfl | exact cast_succ _ | assumption | exact (Int.toNat_of_nonneg (by omega)).symm | rfl) ?_) | refine hD _ _ ?_ | refine hL _ _ ?_ | (intro h; (try simp only [n1, n2, n3, n4, n5, n6] at h); first | (exfalso; omega) | (cases h; done) | skip)) <;> (conv => whnf))
    refine Tri.use tCopyFresh [0] rfl (args_ren rfl rfl) ⟨OSub.ren rfl rfl, trivial⟩ (fun f hf => by first | exact hf | cases hf | simp_all) (fun u hu => ?_)
    conv => whnf
    repeat' ((first | refine And.intro (by repeat' first | exact trivial | refine And.intro rfl ?_) (And.intro (by first | exact fun _ h => h | exact fun _ => List.mem_cons_of_mem _ | exact fun _ => List.mem_append_right _) ?_) | (refine And.intro (fun h => ?_) (fun h => ?_) <;> (try simp only [n1, n2, n3, n4, n5, n6] at h) <;> first | (exfalso; omega) | (cases h; done) | skip) | refine And.intro (by omega) ?_ | refine Exists.intro _ (And.intro (by first | exact And.intro rfl rfl | exact Pl.den (by repeat constructor) | with_reducible rfl | exact cast_succ _ | assumption | exact (Int.toNat_of_nonneg (by omega)).symm | rfl) ?_) | refine hD _ _ ?_ | refine hL _ _ ?_ | (intro h; (try simp only [n1, n2, n3, n4, n5, n6] at h); first | (exfalso; omega) | (cases h; done) | skip)) <;> (conv => whnf))
    rename_i m sp
    have hsp := h
    rw [Nat.mul_one] at hsp
    refine Ret.mk [0] [(0, .abs (bldA [c]))] ((bld_close (bs := [c]) (r := 0) (m := 3) (n := 1) (cap := 1 + m) (xs := [bv c] ++ sp) (by decide) rfl (by simp [hsp]; omega) (by simp) (by simp) (by simp) ?_).trans (Fold.drop (by simp))) rfl (fun _ _ _ => rfl) ⟨OSub.ren rfl rfl, trivial⟩ (fun _ h => h)
    intro e he
    simp only [List.mem_cons, List.not_mem_nil, or_false] at he ⊢
    rcases he with rfl | rfl
    · exact .inr (.inr rfl)
    · exact .inl rfl
  | used xs h1 h2 h3 =>
    show Tri _ 109 _ [(0, .cells [.p 0 0, .s 1 0 bs.length xs.length] 138), (1, .row xs 5)] 2 [] _
    refine Tri.of_code tok Tryd.func109 rfl rfl rfl (by decide) rfl (Nat.le_of_ble_eq_true rfl) ?_
    conv => whnf
    repeat' ((first | refine And.intro (by repeat' first | exact trivial | refine And.intro rfl ?_) (And.intro (by first | exact fun _ h => h | exact fun _ => List.mem_cons_of_mem _ | exact fun _ => List.mem_append_right _) ?_) | (refine And.intro (fun h => ?_) (fun h => ?_) <;> (try simp only [n1, n2, n3, n4, n5, n6] at h) <;> first | (exfalso; omega) | (cases h; done) | skip) | refine And.intro (by omega) ?_ | refine Exists.intro _ (And.intro (by first | exact And.intro rfl rfl | exact Pl.den (by repeat constructor) | with_reducible rfl | exact cast_succ _ | assumption | exact (Int.toNat_of_nonneg (by omega)).symm | rfl) ?_) | refine hD _ _ ?_ | refine hL _ _ ?_ | (intro h; (try simp only [n1, n2, n3, n4, n5, n6] at h); first | (exfalso; omega) | (cases h; done) | skip)) <;> (conv => whnf))
    refine Tri.use (tCopyUsed bs.length xs) [0,1] rfl (args_ren rfl rfl) ⟨OSub.ren rfl rfl, OSub.ren rfl rfl, trivial⟩ (fun f hf => by first | exact hf | cases hf | simp_all) (fun u hu => ?_)
    conv => whnf
    repeat' ((first | refine And.intro (by repeat' first | exact trivial | refine And.intro rfl ?_) (And.intro (by first | exact fun _ h => h | exact fun _ => List.mem_cons_of_mem _ | exact fun _ => List.mem_append_right _) ?_) | (refine And.intro (fun h => ?_) (fun h => ?_) <;> (try simp only [n1, n2, n3, n4, n5, n6] at h) <;> first | (exfalso; omega) | (cases h; done) | skip) | refine And.intro (by omega) ?_ | refine Exists.intro _ (And.intro (by first | exact And.intro rfl rfl | exact Pl.den (by repeat constructor) | with_reducible rfl | exact cast_succ _ | assumption | exact (Int.toNat_of_nonneg (by omega)).symm | rfl) ?_) | refine hD _ _ ?_ | refine hL _ _ ?_ | (intro h; (try simp only [n1, n2, n3, n4, n5, n6] at h); first | (exfalso; omega) | (cases h; done) | skip)) <;> (conv => whnf))
    refine ⟨⟨by omega, h3, by omega, by simp [bv, Value.oneCell']⟩, ?_⟩
    intro m sp hsp
    simp only [Nat.mul_one] at hsp
    conv => whnf
    repeat' ((first | refine And.intro (by repeat' first | exact trivial | refine And.intro rfl ?_) (And.intro (by first | exact fun _ h => h | exact fun _ => List.mem_cons_of_mem _ | exact fun _ => List.mem_append_right _) ?_) | (refine And.intro (fun h => ?_) (fun h => ?_) <;> (try simp only [n1, n2, n3, n4, n5, n6] at h) <;> first | (exfalso; omega) | (cases h; done) | skip) | refine And.intro (by omega) ?_ | refine Exists.intro _ (And.intro (by first | exact And.intro rfl rfl | exact Pl.den (by repeat constructor) | with_reducible rfl | exact cast_succ _ | assumption | exact (Int.toNat_of_nonneg (by omega)).symm | rfl) ?_) | refine hD _ _ ?_ | refine hL _ _ ?_ | (intro h; (try simp only [n1, n2, n3, n4, n5, n6] at h); first | (exfalso; omega) | (cases h; done) | skip)) <;> (conv => whnf))
    have hlen : (bs ++ [c]).length = bs.length + 1 := by simp
    refine Ret.mk [0] [(0, .abs (bldA (bs ++ [c])))] ((bld_close (bs := bs ++ [c]) (r := 0) (m := 3) (n := bs.length + 1) (cap := bs.length + 1 + m) (xs := xs.take (bs.length * 1) ++ [bv c] ++ sp) (by decide) hlen.symm (by simp [hsp]; omega) ?_ (by simp) (by simp; omega) ?_).trans (Fold.drop (by simp))) rfl (fun _ _ _ => rfl) ⟨OSub.ren rfl rfl, trivial⟩ (fun _ h => h)
    · rw [Nat.mul_one, h1, hlen]
      rw [List.take_left' (by simp)]
      simp
    · intro e he
      simp only [List.mem_cons, List.not_mem_nil, or_false] at he ⊢
      rcases he with rfl | rfl
      · exact .inr (.inr rfl)
      · exact .inl rfl
theorem FzOk.cells {w : World} {b : Nat} {cs : List Value} {T : TypeId} (h : CellsAt w b cs T) : w.drew.shape? b = some (T, cs.length) := by
  obtain ⟨fz, h, _⟩ := h
  have e : w.drew.heap[b]? = _ := h
  simp [World.shape?, e]
set_option maxHeartbeats 2000000 in
theorem cStringNil (b : Nat) (p : Value) (w : World) (hc : CellsAt w b [p, .slice none 0 0] 138) :
    Calls Tryd.prog 110 #[.pointer (some ⟨b, 0, none⟩)] w fun e w' => e = .returned (.string ⟨#[]⟩) ∧ w' = w.drew := by
  have c1 : w.drew.cell? ⟨b, 1, none⟩ = some (.slice none 0 0) := by
    have : w.cell? ⟨b, 1, none⟩ = some (.slice none 0 0) := by rw [hc.cell]; rfl
    exact this
  have hSD : (Builtin.unsafeSliceData_ #[61] 165 #[.slice none 0 0]).run Tryd.prog w.drew = .ok (.pointer none) w.drew := rfl
  have hUS : ∀ W, (Builtin.unsafeString_ #[165, 3] 9 #[.pointer none, .int .i64 0]).run Tryd.prog W = .ok (.string .empty) W := fun W => Lib.run_unsafeString_none W _ _ _ none
  go_enter Tryd.func110, Tryd.ntmps110
  go_wp2
  go_region
  all_goals (go_wp2; go_ret; exact ⟨rfl, rfl⟩)
set_option maxHeartbeats 2000000 in
theorem cString (b g : Nat) (p : Value) (l : List UInt8) (cs : List Value) (w : World) (hc : CellsAt w b [p, .slice (some ⟨g, 0, none⟩) l.length cs.length] 138) (hg : CellsAt w g cs 5) (hl : cs.take l.length = l.map bv) (h0 : l ≠ []) (hle : l.length ≤ cs.length) (hb : l.length ≤ 140737488355328) :
    Calls Tryd.prog 110 #[.pointer (some ⟨b, 0, none⟩)] w fun e w' => e = .returned (.string ⟨l.toArray⟩) ∧ w' = w.drew.freeze ⟨g, 0, none⟩ l.length := by
  have hl0 : l.length ≠ 0 := by simpa using h0
  have c1 : w.drew.cell? ⟨b, 1, none⟩ = some (.slice (some ⟨g, 0, none⟩) l.length cs.length) := by
    have : w.cell? ⟨b, 1, none⟩ = some (.slice (some ⟨g, 0, none⟩) l.length cs.length) := by rw [hc.cell]; rfl
    exact this
  have hSD : (Builtin.unsafeSliceData_ #[61] 165 #[.slice (some ⟨g, 0, none⟩) l.length cs.length]).run Tryd.prog w.drew = .ok (.pointer (some ⟨g, 0, none⟩)) w.drew :=
    Lib.run_unsafeSliceData_row _ _ _ _ _ _ (by omega)
  have hUS : (Builtin.unsafeString_ #[165, 3] 9 #[.pointer (some ⟨g, 0, none⟩), .int .i64 l.length]).run Tryd.prog w.drew = .ok (.string ⟨l.toArray⟩) (w.drew.freeze ⟨g, 0, none⟩ l.length) := by
    refine Lib.run_unsafeString_row w.drew 165 3 9 5 Tryd.underlying165 (by kernel_rfl) g cs.length (FzOk.cells hg) l h0 hle (by omega) ?_
    intro j x hx
    have h1 : w.cell? ⟨g, j, none⟩ = cs[j]? := hg.cell j
    have h2 : cs[j]? = some (bv x) := by
      have h3 : (cs.take l.length)[j]? = some (bv x) := by rw [hl, List.getElem?_map, hx]; rfl
      have hj := (List.getElem?_eq_some_iff.1 hx).1
      rwa [List.getElem?_take, if_pos hj] at h3
    rw [add_at, Nat.zero_add]
    show w.cell? ⟨g, j, none⟩ = _
    rw [h1, h2]; rfl
  go_enter Tryd.func110, Tryd.ntmps110
  go_wp2
  go_region
  all_goals (go_wp2; go_ret; exact ⟨rfl, rfl⟩)
theorem keeps_freeze (w : World) (b n : Nat) : Keeps (fun k => k = b) w (w.freeze ⟨b, 0, none⟩ n) := by
  refine ⟨?_, ?_, ?_, ?_, fun k hk hn => ?_⟩
  · unfold World.freeze; split <;> rfl
  · unfold World.freeze; split <;> rfl
  · unfold World.freeze; split <;> rfl
  · unfold World.freeze; split <;> simp
  · unfold World.freeze
    split
    · rfl
    · simp only [Array.getElem?_modify]
      rw [if_neg (Ne.symm hn)]
/-- A call that hands back a plain value, and lets go of all that it was given. -/
theorem Tri.gone {P : Program} {n : Nat} {args : List SV} {hp : List (Nat × SObj)} {m : Nat} {fx : List Fact} {v : Value} (hen : ∀ xs w, (callFunc n xs).run P w = .ok (.enter n xs) w)
    (h : ∀ ρ F w, HpOk ρ F hp m fx w → Calls P n (denL ρ args).toArray w fun e w' => e = .returned v ∧ Keeps (Own hp F) w w') : Tri P n args hp m fx (Ret m (.v v) [] m []) :=
  ⟨trivial, fun ρ F w hh hrob => .inl ⟨hen _ _, (h ρ F w hh).mono fun e w' ⟨he, hk⟩ => ⟨.v v, [], m, [], ρ, F, Ret.none (by simp) (fun _ => rfl) (fun _ h => h), he, fun _ _ => rfl,
    ⟨fun _ _ r o hm => (by cases hm), fun r o hm => (by cases hm), fun r o r' o' hm => (by cases hm), fun r o hm => (by cases hm), fun f hf => (by cases hf)⟩, Ag.refl _ _, Nat.le_refl _, hk, fun k ⟨r, o, hm, _⟩ => (by cases hm), fun f hf => (by cases hf)⟩⟩⟩
/-- The builder's text: its buffer is let go. -/
theorem tString (bs : List UInt8) (hb : bs.length ≤ 140737488355328) : Tri Tryd.prog 110 [.p 0 0] [(0, .abs (bldA bs))] 1 [] (Ret 1 (.v (.string ⟨bs.toArray⟩)) [] 1 []) := by
  refine Tri.gone (fun xs w => by simp [callFunc, Tryd.func110, Tryd.f110]) fun ρ F w hh => ?_
  rcases hh.obj ρ (Ag.refl _ _) 0 _ (List.mem_singleton.2 rfl) with ⟨rfl, h2, h3⟩ | ⟨g, xs, h1, h2, h3, h4, h5, h6, h7⟩
  · exact (cStringNil (ρ 0) _ w h3).mono fun e w' ⟨he, hw⟩ => ⟨he, by subst hw; exact keeps_drew _ w⟩
  · refine (cString (ρ 0) g _ bs xs w h3 h4 h5 h6 h7 hb).mono fun e w' ⟨he, hw⟩ => ⟨he, ?_⟩
    subst hw
    refine (keeps_drew _ w).trans (keeps_freeze w.drew g bs.length) fun j hj => .inl ⟨0, _, List.mem_singleton.2 rfl, ?_⟩
    exact (h2 j).2 (.inr hj)
end Go.Proofs.YtekgjjanikicnaaDoor.Sx
