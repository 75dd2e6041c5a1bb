/- A symbolic executor for the model's code, part 20: bundles of regions, told as one and folded again. -/
import Derived.Test.YtekgjjanikicnaaSxG
namespace Go.Proofs.Ytekgjjanikicnaa.Sx
open Go
set_option linter.unusedVariables false
set_option linter.unusedSimpArgs false

theorem objOk_agA {n : Nat} {ρ ρ' : Nat → Nat} (h : ∀ i, i < n → ρ' i = ρ i) {o : SObj} (hs : idsA n o = true) {w : World} {b : Nat} {G : Nat → Prop} (ho : ObjOk ρ o w b G) : ObjOk ρ' o w b G := by
  cases o with
  | cells cs T => simp only [idsA] at hs; simp only [ObjOk, denL_ids (ρ := ρ) (ρ' := ρ') (fun i hi => h i hi) cs hs]; exact ho
  | row xs T => exact ho
  | map es clk => exact ho
  | iter mr since seen stepped => simp only [idsA, Nat.blt_eq] at hs; simp only [ObjOk, h mr hs]; exact ho
  | abs A => exact ho
/-- A bundle of regions: the first is 0. -/
def bun {ι : Type} (L : ι → List (Nat × SObj)) : AR where
  A w b F := ∃ (i : ι) (ρ : Nat → Nat) (G : Nat → Nat → Prop), ρ 0 = b ∧ (∀ j o, (j, o) ∈ L i → ObjOk ρ o w (ρ j) (G j)) ∧ (∀ j o j' o', (j, o) ∈ L i → (j', o') ∈ L i → j ≠ j' → ∀ k, G j k → ¬ G j' k) ∧ ∀ k, Own (L i) G k ↔ F k
  loc := by
    rintro w w' b F ⟨i, ρ, G, h1, h2, h3, h4⟩ e
    exact ⟨i, ρ, G, h1, fun j o hm => (h2 j o hm).loc fun k hk => e k ((h4 k).1 ⟨j, o, hm, hk⟩), h3, h4⟩
def nm (r m j : Nat) : Nat := match j with | 0 => r | j + 1 => m + j
theorem nm_inj {r m j j' : Nat} (hr : r < m) (h : nm r m j = nm r m j') : j = j' := by
  cases j <;> cases j' <;> simp only [nm] at h <;> omega
theorem told_bun {ι : Type} (L : ι → List (Nat × SObj)) (p : Nat) (hk : ∀ i j o, (j, o) ∈ L i → j < p + 1 ∧ idsA (p + 1) o = true) : Told (bun L) (fun i r m => renH (nm r m) (L i)) p := by
  refine ⟨fun ρ r m w F hr ⟨i, ρb, G, h1, h2, h3, h4⟩ hF => ?_⟩
  refine ⟨i, fun j => if m ≤ j ∧ j < m + p then ρb (j - m + 1) else ρ j, fun j => if j = r then G 0 else G (j - m + 1), fun j hj => ?_, fun ρ3 ha j o hm => ?_, fun j o hm => ?_, fun j o j' o' hm hm' hne k => ?_, fun k ⟨j, o, hm, hk'⟩ => ?_⟩
  · show (if m ≤ j ∧ j < m + p then ρb (j - m + 1) else ρ j) = ρ j
    rw [if_neg (by omega)]
  · obtain ⟨j0, o0, hm0, rfl, rfl⟩ := renH_mem hm
    obtain ⟨hj, hid⟩ := hk i j0 o0 hm0
    rw [objOk_ren]
    have ag : ∀ x, x < p + 1 → ρ3 (nm r m x) = ρb x := fun x hx => by
      cases x with
      | zero =>
        show ρ3 r = ρb 0
        rw [ha r (by omega), h1]
        show (if m ≤ r ∧ r < m + p then ρb (r - m + 1) else ρ r) = ρ r
        rw [if_neg (by omega)]
      | succ x =>
        show ρ3 (m + x) = ρb (x + 1)
        rw [ha (m + x) (by omega)]
        show (if m ≤ m + x ∧ m + x < m + p then ρb (m + x - m + 1) else ρ (m + x)) = ρb (x + 1)
        rw [if_pos (by omega), Nat.add_sub_cancel_left]
    have hG : (if nm r m j0 = r then G 0 else G (nm r m j0 - m + 1)) = G j0 := by
      cases j0 with
      | zero => exact if_pos rfl
      | succ x =>
        show (if m + x = r then G 0 else G (m + x - m + 1)) = G (x + 1)
        rw [if_neg (by omega), Nat.add_sub_cancel_left]
    have := objOk_agA (ρ := ρb) (ρ' := fun x => ρ3 (nm r m x)) ag hid (h2 j0 o0 hm0)
    rw [← ag j0 hj] at this
    show ObjOk _ o0 w _ (if nm r m j0 = r then G 0 else G (nm r m j0 - m + 1))
    rw [hG]
    exact this
  · obtain ⟨j0, o0, hm0, rfl, rfl⟩ := renH_mem hm
    obtain ⟨hj, _⟩ := hk i j0 o0 hm0
    cases j0 with
    | zero => exact .inl rfl
    | succ x => exact .inr ⟨Nat.le_add_right _ _, by show m + x < m + p; omega⟩
  · obtain ⟨j0, o0, hm0, rfl, rfl⟩ := renH_mem hm
    obtain ⟨j1, o1, hm1, rfl, rfl⟩ := renH_mem hm'
    have hG : ∀ x, (if nm r m x = r then G 0 else G (nm r m x - m + 1)) = G x := fun x => by
      cases x with
      | zero => exact if_pos rfl
      | succ x =>
        show (if m + x = r then G 0 else G (m + x - m + 1)) = G (x + 1)
        rw [if_neg (by omega), Nat.add_sub_cancel_left]
    simp only [hG]
    exact h3 j0 o0 j1 o1 hm0 hm1 (fun e => hne (by rw [e])) k
  · obtain ⟨j0, o0, hm0, rfl, rfl⟩ := renH_mem hm
    have hG : (if nm r m j0 = r then G 0 else G (nm r m j0 - m + 1)) = G j0 := by
      cases j0 with
      | zero => exact if_pos rfl
      | succ x =>
        show (if m + x = r then G 0 else G (m + x - m + 1)) = G (x + 1)
        rw [if_neg (by omega), Nat.add_sub_cancel_left]
    have hk' : (if nm r m j0 = r then G 0 else G (nm r m j0 - m + 1)) k := hk'
    rw [hG] at hk'
    exact (h4 k).1 ⟨j0, o0, hm0, hk'⟩
/-- The one is the other, by other names. -/
def OSame (σ : List Nat) (o' o : SObj) : Prop := ∀ ρ w b F, ObjOk ρ o' w b F → ObjOk (fun n => ρ (sg σ n)) o w b F
theorem OSame.ren {σ : List Nat} {o' o : SObj} (e : renO (sg σ) o = o') : OSame σ o' o := fun ρ w b F h => by rw [← objOk_ren, e]; exact h
theorem OSame.row {σ : List Nat} {xs ys : List Value} {T : TypeId} (e : xs = ys) : OSame σ (.row xs T) (.row ys T) := fun ρ w b F h => by subst e; exact h
theorem OSame.cells {σ : List Nat} {cs ds : List SV} {T : TypeId} (e : ∀ ρ, denL ρ cs = denL (fun n => ρ (sg σ n)) ds) : OSame σ (.cells cs T) (.cells ds T) := fun ρ w b F h => by
  simp only [ObjOk] at h ⊢; rw [← e]; exact h
theorem OSame.cellsRow {σ : List Nat} {cs : List SV} {xs : List Value} {T : TypeId} (e : ∀ ρ, denL ρ cs = xs) : OSame σ (.cells cs T) (.row xs T) := fun ρ w b F h => by
  simp only [ObjOk] at h ⊢; rw [e] at h; exact h
theorem OSame.abs {σ : List Nat} {A B : AR} (e : ∀ w b F, A.A w b F → B.A w b F) : OSame σ (.abs A) (.abs B) := fun ρ w b F h => e w b F h
def bunH (σ : List Nat) (h : List (Nat × SObj)) : List (Nat × SObj) → Prop
  | [] => True
  | (j, o) :: l => (∃ o', (sg σ j, o') ∈ h ∧ OSame σ o' o) ∧ bunH σ h l
theorem bunH_mem {σ : List Nat} {h : List (Nat × SObj)} : ∀ {l : List (Nat × SObj)}, bunH σ h l → ∃ K : List (Nat × SObj), K.map (·.1) = l.map (fun e => sg σ e.1) ∧ (∀ e, e ∈ K → e ∈ h) ∧ ∀ j o, (j, o) ∈ l → ∃ o', (sg σ j, o') ∈ K ∧ OSame σ o' o
  | [], _ => ⟨[], rfl, fun _ h => (by cases h), fun _ _ h => (by cases h)⟩
  | (j, o) :: l, ⟨⟨o', h1, h2⟩, h3⟩ => by
    obtain ⟨K, k1, k2, k3⟩ := bunH_mem h3
    refine ⟨(sg σ j, o') :: K, by simp [k1], fun e he => ?_, fun j' o1 hm => ?_⟩
    · rcases List.mem_cons.1 he with rfl | he
      · exact h1
      · exact k2 e he
    · rcases List.mem_cons.1 hm with e | hm
      · cases e; exact ⟨o', List.mem_cons_self .., h2⟩
      · obtain ⟨o2, k4, k5⟩ := k3 j' o1 hm
        exact ⟨o2, List.mem_cons_of_mem _ k4, k5⟩
/-- The names are one to one, and the first is among them. -/
def injB (σ : List Nat) (keys : List Nat) : Bool := keys.any (Nat.beq 0) && keys.all fun r => keys.all fun r' => Nat.beq r r' || !Nat.beq (sg σ r) (sg σ r')
theorem bun_fold {ι : Type} {L : ι → List (Nat × SObj)} (i : ι) (σ : List Nat) {h : List (Nat × SObj)} (hi : injB σ ((L i).map (·.1)) = true) (hb : bunH σ h (L i)) :
    Fold h ((sg σ 0, .abs (bun L)) :: restH ((L i).map fun e => sg σ e.1) h) := by
  obtain ⟨K, k1, k2, k3⟩ := bunH_mem hb
  simp only [injB, Bool.and_eq_true, List.any_eq_true, List.all_eq_true, Bool.or_eq_true, Nat.beq_eq, Bool.not_eq_true'] at hi
  obtain ⟨⟨z, hz, hz0⟩, hinj⟩ := hi
  subst hz0
  have inj : ∀ j o j' o', (j, o) ∈ L i → (j', o') ∈ L i → sg σ j = sg σ j' → j = j' := fun j o j' o' hm hm' e => by
    rcases hinj j (List.mem_map.2 ⟨_, hm, rfl⟩) j' (List.mem_map.2 ⟨_, hm', rfl⟩) with h1 | h1
    · exact h1
    · rw [e] at h1; simp at h1
  obtain ⟨⟨z, o0⟩, hm0, hz0⟩ := List.mem_map.1 hz
  simp only at hz0
  subst hz0
  have h0 : sg σ 0 ∈ K.map (·.1) := by rw [k1]; exact List.mem_map.2 ⟨_, hm0, rfl⟩
  rw [← k1]
  refine Fold.abs k2 h0 fun ρ F m w hh => ?_
  refine ⟨i, fun n => ρ (sg σ n), fun n => F (sg σ n), rfl, fun j o hm => ?_, fun j o j' o' hm hm' hne k => ?_, fun k => ⟨fun ⟨j, o, hm, hk⟩ => ?_, fun ⟨j, o, hm, hk⟩ => ?_⟩⟩
  · obtain ⟨o', k4, k5⟩ := k3 j o hm
    exact k5 ρ w _ _ (hh.obj ρ (Ag.refl _ _) _ _ k4)
  · obtain ⟨x, k4, _⟩ := k3 j o hm
    obtain ⟨y, k5, _⟩ := k3 j' o' hm'
    exact hh.shape.dis _ _ _ _ k4 k5 (fun e => hne (inj j o j' o' hm hm' e)) k
  · obtain ⟨x, k4, _⟩ := k3 j o hm
    exact ⟨_, x, k4, hk⟩
  · have : j ∈ K.map (·.1) := List.mem_map.2 ⟨_, hm, rfl⟩
    rw [k1] at this
    obtain ⟨⟨j0, o1⟩, hm1, e⟩ := List.mem_map.1 this
    simp only at e
    subst e
    exact ⟨j0, o1, hm1, hk⟩
/-- A region is told in parts, where it stands. -/
theorem HpOk.tell {A : AR} {ι : Type} {L : ι → Nat → Nat → List (Nat × SObj)} {p : Nat} (hA : Told A L p) {ρ : Nat → Nat} {F : Nat → Nat → Prop} {hp : List (Nat × SObj)} {m : Nat} {fx : List Fact} {w : World} (hh : HpOk ρ F hp m fx w) {r : Nat} (hr : (r, .abs A) ∈ hp) :
    ∃ i ρ2 F3, Ag m ρ ρ2 ∧ HpOk ρ2 F3 (L i r m ++ restH [r] hp) (m + p) fx w ∧ ∀ k, Own (L i r m ++ restH [r] hp) F3 k → Own hp F k := by
  have hobj := hh.obj ρ (Ag.refl _ _) r _ hr
  have hlt := hh.shape.lt r _ hr
  obtain ⟨i, ρ2, F2, ag, ho, hk, hd, hF⟩ := hA.out ρ r m w (F r) hlt hobj (fun k hk => hh.shape.bnd r _ hr k hk)
  have rest : ∀ j o, (j, o) ∈ restH [r] hp → j ≠ r ∧ (j, o) ∈ hp := fun j o hm => remH_mem hm
  let F3 : Nat → Nat → Prop := fun j => if j = r ∨ m ≤ j then F2 j else F j
  have f3L : ∀ j o, (j, o) ∈ L i r m → F3 j = F2 j := fun j o hm => if_pos ((hk j o hm).imp id fun h => h.1)
  have f3R : ∀ j o, (j, o) ∈ restH [r] hp → F3 j = F j := fun j o hm => if_neg fun e => by
    have h1 := rest j o hm
    have := hh.shape.lt j o h1.2
    rcases e with e | e
    · exact h1.1 e
    · omega
  have disR : ∀ j o j' o', (j, o) ∈ L i r m → (j', o') ∈ restH [r] hp → ∀ k, F2 j k → ¬ F j' k := by
    intro j o j' o' hm hm' k h1 h2
    obtain ⟨h3, h4⟩ := rest j' o' hm'
    exact hh.shape.dis r _ j' o' hr h4 (Ne.symm h3) k (hF k ⟨j, o, hm, h1⟩) h2
  have own3 : ∀ k, Own (L i r m ++ restH [r] hp) F3 k → Own hp F k := by
    rintro k ⟨j, o, hm, hk'⟩
    rcases List.mem_append.1 hm with hm | hm
    · rw [f3L j o hm] at hk'
      exact ⟨r, _, hr, hF k ⟨j, o, hm, hk'⟩⟩
    · rw [f3R j o hm] at hk'
      exact ⟨j, o, (rest j o hm).2, hk'⟩
  have hh3 : HpOk ρ2 F3 (L i r m ++ restH [r] hp) (m + p) fx w := by
    refine ⟨fun ρ3 ha j o hm => ?_, fun j o hm => ?_, fun j o j' o' hm hm' hne k hk1 hk2 => ?_, fun j o hm k hk1 => ?_, fun f hf => ?_⟩
    · rcases List.mem_append.1 hm with hm | hm
      · rw [f3L j o hm]; exact ho ρ3 ha j o hm
      · rw [f3R j o hm]; exact hh.obj ρ3 (ag.trans (ha.mono (Nat.le_add_right _ _)) (Nat.le_refl _)) j o (rest j o hm).2
    · rcases List.mem_append.1 hm with hm | hm
      · rcases hk j o hm with e | e
        · omega
        · exact e.2
      · have := hh.shape.lt j o (rest j o hm).2; omega
    · rcases List.mem_append.1 hm with hm | hm <;> rcases List.mem_append.1 hm' with hm' | hm'
      · rw [f3L j o hm] at hk1; rw [f3L j' o' hm'] at hk2; exact hd j o j' o' hm hm' hne k hk1 hk2
      · rw [f3L j o hm] at hk1; rw [f3R j' o' hm'] at hk2; exact disR j o j' o' hm hm' k hk1 hk2
      · rw [f3R j o hm] at hk1; rw [f3L j' o' hm'] at hk2; exact disR j' o' j o hm' hm k hk2 hk1
      · rw [f3R j o hm] at hk1; rw [f3R j' o' hm'] at hk2
        exact hh.shape.dis j o j' o' (rest j o hm).2 (rest j' o' hm').2 hne k hk1 hk2
    · rcases List.mem_append.1 hm with hm | hm
      · rw [f3L j o hm] at hk1; exact hh.shape.bnd r _ hr k (hF k ⟨j, o, hm, hk1⟩)
      · rw [f3R j o hm] at hk1; exact hh.shape.bnd j o (rest j o hm).2 k hk1
    · have := hh.shape.fact f hf
      exact ⟨this.1, fun k hk => ⟨fun ho => (this.2 k hk).1 (own3 k ho), (this.2 k hk).2⟩⟩
  exact ⟨i, ρ2, F3, ag, hh3, own3⟩
theorem Tri.tell {P : Program} {n : Nat} {args : List SV} {hp : List (Nat × SObj)} {m : Nat} {fx : List Fact} {post post' : SV → List (Nat × SObj) → Nat → List Fact → Prop} (T : Tri P n args hp m fx post)
    (hpost : ∀ y h m' f1, post y h m' f1 → ∃ (r : Nat) (A : AR) (ι : Type) (L : ι → Nat → Nat → List (Nat × SObj)) (p : Nat), (r, .abs A) ∈ h ∧ Told A L p ∧ ∀ i, post' y (L i r m' ++ restH [r] h) (m' + p) f1) : Tri P n args hp m fx post' := by
  refine ⟨T.enter, fun ρ F w hh hrob => (T.run ρ F w hh hrob).mono fun e w' ⟨y, h', m', fx', ρ', F', hp, he, hy, hh1, hag, hm, hk, ho, hf⟩ => ?_⟩
  obtain ⟨r, A, ι, L, p, hr, hA, hP⟩ := hpost _ _ _ _ hp
  obtain ⟨i, ρ2, F3, ag, hh3, own3⟩ := hh1.tell hA hr
  refine ⟨y, _, m' + p, fx', ρ2, F3, hP i, by rw [hy ρ2 ag]; exact he, fun ρ'' ha => ?_, hh3, hag.trans ag hm, by omega, hk, fun k hk' => ho k (own3 k hk'), hf⟩
  rw [hy ρ'' (ag.trans (ha.mono (Nat.le_add_right _ _)) (Nat.le_refl _)), hy ρ2 ag]
theorem OkAt.tell {A : AR} {ι : Type} {L : ι → Nat → Nat → List (Nat × SObj)} {p : Nat} (hA : Told A L p) {B : Bs} {ρ : Nat → Nat} {F : Nat → Nat → Prop} {sl : List (Nat × SV)} {hp : List (Nat × SObj)} {nx : Nat} {fx : List Fact} {sz : Nat} {a : Act} {w : World} (ho : OkAt B ρ F ⟨sl, hp, nx, fx⟩ sz a w) {r : Nat} (hr : (r, .abs A) ∈ hp) :
    ∃ i ρ2 F3, OkAt B ρ2 F3 ⟨sl, L i r nx ++ restH [r] hp, nx + p, fx⟩ sz a w := by
  obtain ⟨i, ρ2, F3, ag, hh3, own3⟩ := ho.heap.tell hA hr
  exact ⟨i, ρ2, F3, ho.step hh3 ag (Nat.le_add_right _ _) (Keeps.refl _ _) (fun k hk => .inl (own3 k hk)) (fun f hf => .inl hf)⟩
theorem LoopVC.tell {P : Program} {sz n0 : Nat} {body : Code} {sl : List (Nat × SV)} {hp : List (Nat × SObj)} {nx : Nat} {fx : List Fact} {K : Exit → SS → Prop} {A : AR} {ι : Type} {L : ι → Nat → Nat → List (Nat × SObj)} {p : Nat} (hA : Told A L p) (r : Nat) (hr : (r, .abs A) ∈ hp)
    (h : ∀ i, LoopVC P sz n0 body ⟨sl, L i r nx ++ restH [r] hp, nx + p, fx⟩ K) : LoopVC P sz n0 body ⟨sl, hp, nx, fx⟩ K := ⟨fun B ρ F a w hn ho => by
  obtain ⟨i, ρ2, F3, h1⟩ := ho.tell hA hr
  exact (h i).out B ρ2 F3 a w hn h1⟩
theorem DrawVC.tell {P : Program} {sz n0 id : Nat} {ops : List Oper} {sl : List (Nat × SV)} {hp : List (Nat × SObj)} {nx : Nat} {fx : List Fact} {K : Exit → SS → Prop} {A : AR} {ι : Type} {L : ι → Nat → Nat → List (Nat × SObj)} {p : Nat} (hA : Told A L p) (r : Nat) (hr : (r, .abs A) ∈ hp)
    (h : ∀ i, DrawVC P sz n0 id ops ⟨sl, L i r nx ++ restH [r] hp, nx + p, fx⟩ K) : DrawVC P sz n0 id ops ⟨sl, hp, nx, fx⟩ K := ⟨fun B ρ F a w hn ho => by
  obtain ⟨i, ρ2, F3, h1⟩ := ho.tell hA hr
  exact (h i).out B ρ2 F3 a w hn h1⟩
/-- The same, of a region that was folded where it stands. -/
theorem LoopVC.fold {P : Program} {sz n0 : Nat} {body : Code} {sl : List (Nat × SV)} {hp h2 : List (Nat × SObj)} {nx : Nat} {fx : List Fact} {K : Exit → SS → Prop} (hf : Fold hp h2) (h : LoopVC P sz n0 body ⟨sl, h2, nx, fx⟩ K) : LoopVC P sz n0 body ⟨sl, hp, nx, fx⟩ K := ⟨fun B ρ F a w hn ho => by
  obtain ⟨F2, h1⟩ := hf.ok ho
  exact h.out B ρ F2 a w hn h1⟩
theorem DrawVC.fold {P : Program} {sz n0 id : Nat} {ops : List Oper} {sl : List (Nat × SV)} {hp h2 : List (Nat × SObj)} {nx : Nat} {fx : List Fact} {K : Exit → SS → Prop} (hf : Fold hp h2) (h : DrawVC P sz n0 id ops ⟨sl, h2, nx, fx⟩ K) : DrawVC P sz n0 id ops ⟨sl, hp, nx, fx⟩ K := ⟨fun B ρ F a w hn ho => by
  obtain ⟨F2, h1⟩ := hf.ok ho
  exact h.out B ρ F2 a w hn h1⟩
/-- The one is the other. -/
theorem Fold.drop1 {a : Nat × SObj} {h : List (Nat × SObj)} (ha : a ∈ h) : Fold h [a] := Fold.drop fun e he => by
  obtain rfl := List.mem_singleton.1 he
  exact ha
theorem Fold.drop2 {a b : Nat × SObj} {h : List (Nat × SObj)} (ha : a ∈ h) (hb : b ∈ h) : Fold h [a, b] := Fold.drop fun e he => by
  rcases List.mem_cons.1 he with rfl | he
  · exact ha
  · obtain rfl := List.mem_singleton.1 he
    exact hb
theorem Fold.drop3 {a b c : Nat × SObj} {h : List (Nat × SObj)} (ha : a ∈ h) (hb : b ∈ h) (hc : c ∈ h) : Fold h [a, b, c] := Fold.drop fun e he => by
  rcases List.mem_cons.1 he with rfl | he
  · exact ha
  rcases List.mem_cons.1 he with rfl | he
  · exact hb
  · obtain rfl := List.mem_singleton.1 he
    exact hc
/-- A region of nothing, under a name that nobody uses. -/
def noA : AR where
  A w b F := ∀ k, ¬ F k
  loc := fun h _ => h
theorem Fold.nothing {h : List (Nat × SObj)} (r : Nat) (hr : noKey r h = true) (hlt : ∃ r' o', (r', o') ∈ h ∧ r ≤ r') : Fold h ((r, .abs noA) :: h) := fun ρ F m fx w hh => by
  have hne : ∀ j o, (j, o) ∈ h → j ≠ r := fun j o hm e => by subst e; exact noKey_mem hr o hm
  have own2 : ∀ k, Own ((r, SObj.abs noA) :: h) (updR F r fun _ => False) k → Own h F k := by
    rintro k ⟨j, o, hm, hk⟩
    rcases List.mem_cons.1 hm with e | hm
    · cases e; rw [updR_same] at hk; exact hk.elim
    · rw [updR_ne _ _ (hne j o hm)] at hk; exact ⟨j, o, hm, hk⟩
  refine ⟨updR F r (fun _ => False), ⟨fun ρ' ha j o hm => ?_, fun j o hm => ?_, fun j o j' o' hm hm' hd k hk1 hk2 => ?_, fun j o hm k hk1 => ?_, fun f hf => ?_⟩, own2⟩
  · rcases List.mem_cons.1 hm with e | hm
    · cases e; rw [updR_same]; exact fun k hk => hk
    · rw [updR_ne _ _ (hne j o hm)]; exact hh.obj ρ' ha j o hm
  · rcases List.mem_cons.1 hm with e | hm
    · cases e
      obtain ⟨r', o', h1, h2⟩ := hlt
      exact Nat.lt_of_le_of_lt h2 (hh.shape.lt r' o' h1)
    · exact hh.shape.lt j o hm
  · rcases List.mem_cons.1 hm with e | hm
    · cases e; rw [updR_same] at hk1; exact hk1
    · rcases List.mem_cons.1 hm' with e' | hm'
      · cases e'; rw [updR_same] at hk2; exact hk2
      · rw [updR_ne _ _ (hne j o hm)] at hk1; rw [updR_ne _ _ (hne j' o' hm')] at hk2
        exact hh.shape.dis j o j' o' hm hm' hd k hk1 hk2
  · rcases List.mem_cons.1 hm with e | hm
    · cases e; rw [updR_same] at hk1; exact hk1.elim
    · rw [updR_ne _ _ (hne j o hm)] at hk1; exact hh.shape.bnd j o hm k hk1
  · have := hh.shape.fact f hf
    exact ⟨this.1, fun k hk => ⟨fun hu => (this.2 k hk).1 (own2 k hu), (this.2 k hk).2⟩⟩
end Go.Proofs.Ytekgjjanikicnaa.Sx
