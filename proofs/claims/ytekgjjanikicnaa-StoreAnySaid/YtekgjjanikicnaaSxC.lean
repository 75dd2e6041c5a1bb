/- A symbolic executor for the model's code, part 12: a contract used where there is more around it. -/
import Derived.Test.YtekgjjanikicnaaSxB
namespace Go.Proofs.Ytekgjjanikicnaa.Sx
open Go
set_option linter.unusedVariables false
set_option linter.unusedSimpArgs false

mutual
def ren (s : Nat → Nat) : SV → SV
  | .v x => .v x
  | .b t => .b t
  | .k kd n => .k kd n
  | .p r o => .p (s r) o
  | .q r o => .q (s r) o
  | .s r o len cap => .s (s r) o len cap
  | .m r => .m (s r)
  | .agg cs => .agg (renL s cs)
  | .tup cs => .tup (renL s cs)
  | .fn f a c => .fn f (renL s a) (renL s c)
def renL (s : Nat → Nat) : List SV → List SV
  | [] => []
  | x :: r => ren s x :: renL s r
end
mutual
theorem den_ren (s ρ : Nat → Nat) : ∀ x, den ρ (ren s x) = den (fun i => ρ (s i)) x
  | .v x => rfl
  | .b t => rfl
  | .k kd n => rfl
  | .p r o => rfl
  | .q r o => rfl
  | .s r o len cap => rfl
  | .m r => rfl
  | .agg cs => by simp only [ren, den, denL_ren s ρ cs]
  | .tup cs => by simp only [ren, den, denL_ren s ρ cs]
  | .fn f a c => by simp only [ren, den, denL_ren s ρ a, denL_ren s ρ c]
theorem denL_ren (s ρ : Nat → Nat) : ∀ l, denL ρ (renL s l) = denL (fun i => ρ (s i)) l
  | [] => rfl
  | x :: r => by simp only [renL, denL_cons, den_ren s ρ x, denL_ren s ρ r]
end
def renO (s : Nat → Nat) : SObj → SObj
  | .cells cs T => .cells (renL s cs) T
  | .row xs T => .row xs T
  | .map es clk => .map es clk
  | .iter mr since seen stepped => .iter (s mr) since seen stepped
  | .abs A => .abs A
theorem objOk_ren (s ρ : Nat → Nat) (o : SObj) (w : World) (b : Nat) (F : Nat → Prop) : ObjOk ρ (renO s o) w b F ↔ ObjOk (fun i => ρ (s i)) o w b F := by
  cases o <;> simp only [renO, ObjOk, denL_ren]
def renH (s : Nat → Nat) : List (Nat × SObj) → List (Nat × SObj)
  | [] => []
  | (r, o) :: l => (s r, renO s o) :: renH s l
theorem renH_mem {s : Nat → Nat} : ∀ {h : List (Nat × SObj)} {r o}, (r, o) ∈ renH s h → ∃ i x, (i, x) ∈ h ∧ r = s i ∧ o = renO s x
  | [], r, o, h => by cases h
  | (i, x) :: l, r, o, h => by
    rcases List.mem_cons.1 h with e | h
    · cases e; exact ⟨i, x, List.mem_cons_self .., rfl, rfl⟩
    · obtain ⟨j, y, h1, h2, h3⟩ := renH_mem h
      exact ⟨j, y, List.mem_cons_of_mem _ h1, h2, h3⟩
/-- The regions that a contract does not name. -/
def restH (keys : List Nat) : List (Nat × SObj) → List (Nat × SObj)
  | [] => []
  | (r, o) :: l => match keys.any (Nat.beq r) with
    | true => restH keys l
    | false => (r, o) :: restH keys l
theorem restH_mem {keys : List Nat} : ∀ {h : List (Nat × SObj)} {r o}, (r, o) ∈ restH keys h → (r, o) ∈ h ∧ r ∉ keys
  | [], r, o, h => by cases h
  | (i, x) :: l, r, o, h => by
    unfold restH at h
    split at h
    · have := restH_mem h; exact ⟨List.mem_cons_of_mem _ this.1, this.2⟩
    · rename_i hk
      rcases List.mem_cons.1 h with e | h
      · cases e
        refine ⟨List.mem_cons_self .., fun hm => ?_⟩
        simp only [List.any_eq_false] at hk
        exact hk _ hm (by simp)
      · have := restH_mem h; exact ⟨List.mem_cons_of_mem _ this.1, this.2⟩
/-- The renaming: the contract's first m regions are the caller's by σ, those that it makes come behind the caller's. -/
def sh (m nx : Nat) (σ : List Nat) (i : Nat) : Nat := if i < m then sg σ i else nx + (i - m)
/-- σ has a name below nx for each of m, one to one; each of m is a region of the contract. -/
def callOk (m nx : Nat) (σ keys : List Nat) : Bool :=
  (List.range m).all (fun i => Nat.blt (sg σ i) nx) && keys.all (fun r => Nat.blt r m) && (List.range m).all (fun i => keys.any (Nat.beq i)) && (List.range m).all fun r => (List.range m).all fun r' => Nat.beq r r' || !Nat.beq (sg σ r) (sg σ r')
theorem callOk_spec {m nx : Nat} {σ keys : List Nat} (h : callOk m nx σ keys = true) : (∀ i, i < m → sg σ i < nx) ∧ (∀ r ∈ keys, r < m) ∧ (∀ i, i < m → i ∈ keys) ∧ (∀ r, r < m → ∀ r', r' < m → sg σ r = sg σ r' → r = r') := by
  simp only [callOk, Bool.and_eq_true, List.all_eq_true, List.mem_range, Bool.or_eq_true, Bool.not_eq_true', Nat.beq_eq, Nat.blt_eq, List.any_eq_true] at h
  obtain ⟨⟨⟨h1, h2⟩, h3⟩, h4⟩ := h
  refine ⟨h1, h2, fun i hi => ?_, fun r hr r' hr' he => ?_⟩
  · obtain ⟨x, h5, h6⟩ := h3 i hi
    rw [h6]; exact h5
  · rcases h4 r hr r' hr' with h5 | h5
    · exact h5
    · rw [he] at h5; simp at h5
/-- A contract, where there are more regions around, named otherwise. -/
theorem Tri.frame {P : Program} {n : Nat} {args : List SV} {hp : List (Nat × SObj)} {m : Nat} {fx : List Fact} {post : SV → List (Nat × SObj) → Nat → List Fact → Prop} (T : Tri P n args hp m fx post) (σ : List Nat)
    {args' : List SV} {H : List (Nat × SObj)} {nx : Nat} {FX : List Fact} {post' : SV → List (Nat × SObj) → Nat → List Fact → Prop} (hok : callOk m nx σ (hp.map (·.1)) = true)
    (hargs : ∀ ρ ρ'', AgS m σ ρ ρ'' → denL ρ'' args = denL ρ args') (hobj : heapSub m σ H hp) (hfx : ∀ f, f ∈ fx → f ∈ FX)
    (hpost : ∀ y h m1 f1, m ≤ m1 → post y h m1 f1 → post' (ren (sh m nx σ) y) (renH (sh m nx σ) h ++ restH (hp.map fun e => sg σ e.1) H) (nx + (m1 - m)) (f1 ++ FX)) : Tri P n args' H nx FX post' := by
  obtain ⟨k1, k2, k2', k3⟩ := callOk_spec hok
  have mk : ∀ r o, (r, o) ∈ hp → r ∈ hp.map (·.1) := fun r o hm => List.mem_map.2 ⟨_, hm, rfl⟩
  refine ⟨T.enter, fun ρ F w hh hr => ?_⟩
  have ag0 : AgS m σ ρ (fun i => ρ (sg σ i)) := fun _ _ => rfl
  have ownS : ∀ k, Own hp (fun r => F (sg σ r)) k → Own H F k := by
    rintro k ⟨r, o', hm, hF⟩
    obtain ⟨o, h5, _⟩ := heapSub_mem hobj r o' hm
    exact ⟨_, o, h5, hF⟩
  have hsm : HpOk (fun i => ρ (sg σ i)) (fun i => F (sg σ i)) hp m fx w := by
    refine ⟨fun ρ'' hr'' r o' hm => ?_, ⟨fun r o' hm => k2 r (mk r o' hm), ?_, ?_, ?_⟩⟩
    · obtain ⟨o, h5, h6⟩ := heapSub_mem hobj r o' hm
      have := h6 ρ ρ'' (fun i hi => hr'' i hi) w (ρ (sg σ r)) (F (sg σ r)) (hh.obj ρ (Ag.refl _ _) _ _ h5)
      rw [hr'' r (k2 r (mk r o' hm))]
      exact this
    · intro r o1 r' o2 hm hm' hne
      obtain ⟨o, h5, _⟩ := heapSub_mem hobj r o1 hm
      obtain ⟨o', h5', _⟩ := heapSub_mem hobj r' o2 hm'
      exact hh.shape.dis _ o _ o' h5 h5' (fun he => hne (k3 r (k2 r (mk r o1 hm)) r' (k2 r' (mk r' o2 hm')) he))
    · intro r o' hm
      obtain ⟨o, h5, _⟩ := heapSub_mem hobj r o' hm
      exact hh.shape.bnd _ o h5
    · intro f hf
      have := hh.shape.fact f (hfx f hf)
      exact ⟨this.1, fun k hk => ⟨fun hu => (this.2 k hk).1 (ownS k hu), (this.2 k hk).2⟩⟩
  have hrob : ∀ ρ'', Ag m (fun i => ρ (sg σ i)) ρ'' → denL ρ'' args = denL (fun i => ρ (sg σ i)) args := by
    intro ρ'' hr''
    rw [hargs ρ ρ'' (fun i hi => hr'' i hi), hargs ρ _ ag0]
  have hcall := T.run _ _ w hsm hrob
  rw [hargs ρ _ ag0] at hcall
  refine hcall.mono fun e w' hq => ?_
  obtain ⟨y, h, m1, f1, ρ1, F1, hp1, rfl, hy, hh1, hag, hm1, hkeep, hown, hfacts⟩ := hq
  have hR := hpost y h m1 f1 hm1 hp1
  -- the names behind the call
  let ρ2 : Nat → Nat := fun j => if j < nx then ρ j else ρ1 (m + (j - nx))
  have hρ2 : ∀ j, j < nx → ρ2 j = ρ j := fun j hj => if_pos hj
  have s_lt : ∀ i, i < m1 → sh m nx σ i < nx + (m1 - m) := by
    intro i hi
    unfold sh
    by_cases hlt : i < m
    · rw [if_pos hlt]; have := k1 i hlt; omega
    · rw [if_neg hlt]; omega
  have e2 : ∀ i, i < m1 → ρ2 (sh m nx σ i) = ρ1 i := by
    intro i hi
    simp only [ρ2, sh]
    by_cases hlt : i < m
    · rw [if_pos hlt, if_pos (k1 i hlt), hag i hlt]
    · rw [if_neg hlt, if_neg (by omega)]
      congr 1; omega
  have s_inj : ∀ i, i < m1 → ∀ j, j < m1 → sh m nx σ i = sh m nx σ j → i = j := by
    intro i hi j hj he
    simp only [sh] at he
    by_cases h1 : i < m <;> by_cases h2 : j < m
    · rw [if_pos h1, if_pos h2] at he; exact k3 i h1 j h2 he
    · rw [if_pos h1, if_neg h2] at he; have := k1 i h1; omega
    · rw [if_neg h1, if_pos h2] at he; have := k1 j h2; omega
    · rw [if_neg h1, if_neg h2] at he; omega
  have hF : ∃ F2 : Nat → Nat → Prop, (∀ i, i < m1 → F2 (sh m nx σ i) = F1 i) ∧ ∀ j, j < nx → (∀ i, i < m → sg σ i ≠ j) → F2 j = F j := by
    refine ⟨fun j => if hj : ∃ i, i < m1 ∧ sh m nx σ i = j then F1 (Classical.choose hj) else F j, fun i hi => ?_, fun j hj hne => ?_⟩
    · have hx : ∃ i', i' < m1 ∧ sh m nx σ i' = sh m nx σ i := ⟨i, hi, rfl⟩
      simp only [dif_pos hx]
      have hc := Classical.choose_spec hx
      rw [s_inj _ hc.1 _ hi hc.2]
    · have hx : ¬ ∃ i, i < m1 ∧ sh m nx σ i = j := by
        rintro ⟨i, h1, h2⟩
        simp only [sh] at h2
        by_cases hlt : i < m
        · rw [if_pos hlt] at h2; exact hne i hlt h2
        · rw [if_neg hlt] at h2; omega
      simp only [dif_neg hx]
  obtain ⟨F2, hF1, hF2⟩ := hF
  have keyσ : ∀ r, r ∉ (hp.map fun e => sg σ e.1) → ∀ i, i < m → sg σ i ≠ r := by
    intro r hr i hi he
    refine hr (List.mem_map.2 ?_)
    obtain ⟨e, h1, h2⟩ := List.mem_map.1 (k2' i hi)
    exact ⟨e, h1, by rw [h2]; exact he⟩
  -- what is owned behind the call
  have own1 : ∀ k, Own (renH (sh m nx σ) h) F2 k → Own h F1 k := by
    rintro k ⟨r, o, hm, hk⟩
    obtain ⟨i, x, h1, rfl, rfl⟩ := renH_mem hm
    rw [hF1 i (hh1.shape.lt i x h1)] at hk
    exact ⟨i, x, h1, hk⟩
  have own2 : ∀ k, Own (restH (hp.map fun e => sg σ e.1) H) F2 k → ∃ r o, (r, o) ∈ H ∧ (∀ i, i < m → sg σ i ≠ r) ∧ F r k := by
    rintro k ⟨r, o, hm, hk⟩
    obtain ⟨h1, h2⟩ := restH_mem hm
    have h3 := keyσ r h2
    rw [hF2 r (hh.shape.lt r o h1) h3] at hk
    exact ⟨r, o, h1, h3, hk⟩
  have rest_not : ∀ r o, (r, o) ∈ H → (∀ i, i < m → sg σ i ≠ r) → ∀ k, F r k → ¬ Own hp (fun i => F (sg σ i)) k := by
    rintro r o hm hne k hk ⟨i, x, hi, hFi⟩
    obtain ⟨o', h5, _⟩ := heapSub_mem hobj i x hi
    exact hh.shape.dis _ o' r o h5 hm (hne i (k2 i (mk i x hi))) k hFi hk
  have rest_not1 : ∀ r o, (r, o) ∈ H → (∀ i, i < m → sg σ i ≠ r) → ∀ k, F r k → ¬ Own h F1 k := by
    intro r o hm hne k hk ho
    rcases hown k ho with h1 | h1
    · exact rest_not r o hm hne k hk h1
    · have := hh.shape.bnd r o hm k hk; omega
  have own3 : ∀ k, Own (renH (sh m nx σ) h ++ restH (hp.map fun e => sg σ e.1) H) F2 k → Own H F k ∨ w.heap.size ≤ k := by
    rintro k ⟨r, o, hm, hk⟩
    rcases List.mem_append.1 hm with hm | hm
    · rcases hown k (own1 k ⟨r, o, hm, hk⟩) with h1 | h1
      · exact .inl (ownS k h1)
      · exact .inr h1
    · obtain ⟨r', o', h1, _, h2⟩ := own2 k ⟨r, o, hm, hk⟩
      exact .inl ⟨r', o', h1, h2⟩
  have hkeep' : Keeps (Own H F) w w' := hkeep.mono ownS
  have ag2 : Ag nx ρ ρ2 := fun j hj => hρ2 j hj
  have hHp : HpOk ρ2 F2 (renH (sh m nx σ) h ++ restH (hp.map fun e => sg σ e.1) H) (nx + (m1 - m)) (f1 ++ FX) w' := by
    refine ⟨fun ρ'' hr'' r o hm => ?_, fun r o hm => ?_, fun r o r' o' hm hm' hne k hk hk' => ?_, fun r o hm k hk => ?_, fun f hf => ?_⟩
    · rcases List.mem_append.1 hm with hm | hm
      · obtain ⟨i, x, h1, rfl, rfl⟩ := renH_mem hm
        have hi := hh1.shape.lt i x h1
        rw [objOk_ren, hF1 i hi]
        refine hh1.obj (fun i => ρ'' (sh m nx σ i)) (fun j hj => ?_) i x h1
        show ρ'' (sh m nx σ j) = ρ1 j
        rw [hr'' _ (s_lt j hj), e2 j hj]
      · obtain ⟨h1, h2⟩ := restH_mem hm
        have h3 := keyσ r h2
        have hlt := hh.shape.lt r o h1
        rw [hF2 r hlt h3]
        refine (hh.obj ρ'' (fun j hj => by rw [hr'' j (by omega), hρ2 j hj]) r o h1).loc fun k hk => ?_
        exact hkeep.block k (hh.shape.bnd r o h1 k hk) (rest_not r o h1 h3 k hk)
    · rcases List.mem_append.1 hm with hm | hm
      · obtain ⟨i, x, h1, rfl, rfl⟩ := renH_mem hm
        exact s_lt i (hh1.shape.lt i x h1)
      · obtain ⟨h1, h2⟩ := restH_mem hm
        have := hh.shape.lt r o h1; omega
    · rcases List.mem_append.1 hm with hm | hm <;> rcases List.mem_append.1 hm' with hm' | hm'
      · obtain ⟨i, x, h1, rfl, rfl⟩ := renH_mem hm
        obtain ⟨j, y', h2, rfl, rfl⟩ := renH_mem hm'
        rw [hF1 i (hh1.shape.lt i x h1)] at hk
        rw [hF1 j (hh1.shape.lt j y' h2)] at hk'
        exact hh1.shape.dis i x j y' h1 h2 (fun e => hne (by rw [e])) k hk hk'
      · obtain ⟨r2, o2, h1, h2, h3⟩ := own2 k ⟨r', o', hm', hk'⟩
        exact rest_not1 r2 o2 h1 h2 k h3 (own1 k ⟨r, o, hm, hk⟩)
      · obtain ⟨r2, o2, h1, h2, h3⟩ := own2 k ⟨r, o, hm, hk⟩
        exact rest_not1 r2 o2 h1 h2 k h3 (own1 k ⟨r', o', hm', hk'⟩)
      · obtain ⟨h1, h2⟩ := restH_mem hm
        obtain ⟨h1', h2'⟩ := restH_mem hm'
        rw [hF2 r (hh.shape.lt r o h1) (keyσ r h2)] at hk
        rw [hF2 r' (hh.shape.lt r' o' h1') (keyσ r' h2')] at hk'
        exact hh.shape.dis r o r' o' h1 h1' hne k hk hk'
    · rcases List.mem_append.1 hm with hm | hm
      · obtain ⟨i, x, h1, h2⟩ := own1 k ⟨r, o, hm, hk⟩
        exact hh1.shape.bnd i x h1 k h2
      · obtain ⟨r', o', h1, _, h2⟩ := own2 k ⟨r, o, hm, hk⟩
        have := hh.shape.bnd r' o' h1 k h2
        have := hkeep.size
        omega
    · have big : f ∈ FX → f.Holds w' (Own (renH (sh m nx σ) h ++ restH (hp.map fun e => sg σ e.1) H) F2) := fun hf => f.mono (hh.shape.fact f hf) hkeep' own3
      rcases List.mem_append.1 hf with hf | hf
      · rcases hfacts f hf with h1 | h1
        · exact big (hfx f h1)
        · have h2 := hh1.shape.fact f hf
          refine ⟨h2.1, fun k hG => ⟨fun ho => ?_, (h2.2 k hG).2⟩⟩
          obtain ⟨r, o, hm, hk⟩ := ho
          rcases List.mem_append.1 hm with hm | hm
          · exact (h2.2 k hG).1 (own1 k ⟨r, o, hm, hk⟩)
          · obtain ⟨r', o', h3, h4, h5⟩ := own2 k ⟨r, o, hm, hk⟩
            rcases h1 k hG with h6 | h6
            · exact rest_not r' o' h3 h4 k h5 h6
            · have := hh.shape.bnd r' o' h3 k h5; omega
      · exact big hf
  have hden : ∀ ρ'', Ag (nx + (m1 - m)) ρ2 ρ'' → den ρ'' (ren (sh m nx σ) y) = den ρ1 y := by
    intro ρ'' hr''
    rw [den_ren]
    exact hy _ fun i hi => by show ρ'' (sh m nx σ i) = ρ1 i; rw [hr'' _ (s_lt i hi), e2 i hi]
  refine ⟨_, _, _, _, ρ2, F2, hR, by rw [hden ρ2 (Ag.refl _ _)], fun ρ'' hr'' => by rw [hden ρ'' hr'', hden ρ2 (Ag.refl _ _)], hHp, ag2, by omega, hkeep', own3, fun f hf => ?_⟩
  rcases List.mem_append.1 hf with hf | hf
  · rcases hfacts f hf with h1 | h1
    · exact .inl (hfx f h1)
    · exact .inr fun k hk => (h1 k hk).imp (ownS k) id
  · exact .inl hf
end Go.Proofs.Ytekgjjanikicnaa.Sx
