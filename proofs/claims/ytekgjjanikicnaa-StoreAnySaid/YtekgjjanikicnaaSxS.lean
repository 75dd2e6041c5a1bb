/- A symbolic executor for the model's code: drawn regions in which new variables are made: such a plan is sound. -/
import Derived.Test.YtekgjjanikicnaaSxR
namespace Go.Proofs.Ytekgjjanikicnaa.Sx
open Go Go.Proofs.YtekgjjanikicnaaW.PrintLast
set_option linter.unusedVariables false
set_option linter.unusedSimpArgs false

theorem OkAt.allocE {B : Bs} {ρ : Nat → Nat} {F : Nat → Nat → Prop} {st : SS} {sz : Nat} {a : Act} {w : World} (h : OkAt B ρ F st sz a w) (ob : Obj) {t : Nat} (v : Value) (ht : ∀ x, (t, x) ∉ st.sl) : OkAt B ρ F st sz (a.put (some t) v) (w.alloc ob) := by
  refine ⟨fun ρ' hr t' x hm => ?_, ⟨fun ρ' hr r o hm => (h.heap.obj ρ' hr r o hm).loc fun k hk => heap_alloc_old w ob k (h.heap.shape.bnd r o hm k hk), ⟨h.heap.shape.lt, h.heap.shape.dis, fun r o hm k hk => ?_, fun f hf => ?_⟩⟩,
    by simp [Act.put, h.size], h.base, h.n0, h.keeps.trans (keeps_alloc (fun _ => False) w ob) (fun _ hu => hu.elim), h.own, h.facts, by simpa [Act.put] using h.defers⟩
  · have hne : t ≠ t' := fun e => ht x (e ▸ hm)
    have := h.slot ρ' hr t' x hm
    simp [Act.put, Array.getElem?_setIfInBounds, hne, this]
  · have := h.heap.shape.bnd r o hm k hk
    simp; omega
  · exact f.mono (h.heap.shape.fact f hf) ((keeps_alloc (fun _ => False) w ob).mono (fun _ hu => hu.elim)) (fun k hk => .inl hk)
theorem filter_more {e : Nat → Bool} {j : Nat} (he : e j = false) : ∀ {N : List Nat}, N.Nodup → j ∈ N →
    (N.filter fun k => k == j || e k).length = (N.filter e).length + 1 ∧ (N.filter fun k => !(k == j || e k)).length + 1 = (N.filter fun k => !e k).length
  | [], _, h => by cases h
  | x :: N, hn, h => by
    obtain ⟨h1, h2⟩ := List.nodup_cons.1 hn
    have other : j ∉ N → (N.filter fun k => k == j || e k) = N.filter e ∧ (N.filter fun k => !(k == j || e k)) = N.filter fun k => !e k := by
      intro hj
      constructor <;> refine List.filter_congr fun k hk => ?_ <;> (have : k ≠ j := fun e => hj (e ▸ hk)) <;> simp [this]
    rcases List.mem_cons.1 h with rfl | h
    · obtain ⟨h3, h4⟩ := other h1
      simp only [List.filter_cons, h3, h4, he, beq_self_eq_true, Bool.true_or, if_true, Bool.not_true, Bool.false_eq_true, if_false, Bool.not_false, List.length_cons]
      exact ⟨trivial, trivial⟩
    · have hx : x ≠ j := fun e => h1 (e ▸ h)
      obtain ⟨h3, h4⟩ := filter_more he h2 h
      have hb : (x == j) = false := by simp [hx]
      simp only [List.filter_cons, hb, Bool.false_or]
      constructor
      · split <;> simp only [List.length_cons, h3]
      · split <;> simp only [List.length_cons, ← h4]
theorem getD_mark {l : Array Bool} {E : List Nat} {d : Nat} (hd : d ∉ E) (v : Bool) : (mark l E).getD d v = l.getD d v := by
  rw [Array.getD_eq_getD_getElem?, Array.getD_eq_getD_getElem?, mark_get, if_neg (fun h => hd h.1)]
section
variable {P : Program} {tt : List (Option TI)} (ht : TOk P tt) {sz : Nat} {ops : List Oper} {hpS : List (Nat × SObj)} {fxS : List Fact} {ds : List Nat} {n : Nat} {ρ0 : Nat → Nat}
include ht
/-- A variable that is to be made later may be made here. -/
theorem early {B : Bs} {Q : Exit → Act → World → Prop} {fuel : Nat} {N : List Nat} (hN : N.Nodup) {e : Nat → Bool} {β : Nat → Nat} {l : Array Bool} {st : SS} {ρ F a w} (hfree : freeSl tt sz ops N st = true) (hnew : ∀ j ∈ N, j ∉ ds ∧ newOk ops.toArray j = true)
    (hds : ∀ i ∈ N, ∀ j ∈ N, i ≠ j → ∀ oi oj, ops[i]? = some oi → ops[j]? = some oj → oi.dst ≠ oj.dst)
    (ho : OkAt B ρ F st sz a w) (hg : Gh tt ops (N.filter e) β B F st a w) {j : Nat} (hj : j ∈ N) (he : e j = false)
    (next : ∀ (β : Nat → Nat) a w', (SHB ρ0 hpS fxS w → SHB ρ0 hpS fxS w') → OkAt B ρ F st sz a w' → Gh tt ops (N.filter fun k => k == j || e k) β B F st a w' → wpAnyLast P .any ops.toArray Q (SHB ρ0 hpS fxS) ds fuel (mark l (N.filter fun k => k == j || e k)) a w') :
    wpOp P ops.toArray Q j (fun a' w' => (j ∉ ds → SHB ρ0 hpS fxS w → SHB ρ0 hpS fxS w') ∧ wpAnyLast P .any ops.toArray Q (SHB ρ0 hpS fxS) ds fuel ((mark l (N.filter e)).setIfInBounds j true) a' w') a w := by
  obtain ⟨o, T, t, ti, h1, h2, h3, h4, h5, h6⟩ := freeSl_elim hfree hj
  have hgd : o.guard = none := by
    have := (hnew j hj).2
    simp only [newOk, List.getElem?_toArray, h1, Bool.and_eq_true, Option.isNone_iff_eq_none] at this
    exact this.2
  refine wpOp_step (o := o) (by simpa using h1) fun K' hK' => ?_
  rw [if_pos (by simp [Region.wanted, hgd])]
  obtain ⟨z, hz1, hz2⟩ := zero_den (tyFacts (ht T ti h4)) w
  have hrun : (execOp a.eval o).run P w = .ok (.value (.pointer (some ⟨w.heap.size, 0, none⟩))) (w.alloc (.cells z.cells T)) := by
    simp only [execOp, h2, Instr.alloc, Sem.run_bind, hz1, Result.andThen_ok, newVar, newRow, run_newObj, Sem.run_pure, World.alloc_eq]
  simp only [Oper.wp, hrun, Oper.upon, h3]
  refine hK' _ _ ⟨fun _ hs => hs.alloc _, ?_⟩
  have hE : (mark l (N.filter e)).setIfInBounds j true = mark l (N.filter fun k => k == j || e k) := by
    rw [mark_set]
    refine mark_eq fun k => ?_
    simp only [List.mem_cons, List.mem_filter, Bool.or_eq_true, beq_iff_eq]
    constructor
    · rintro (rfl | ⟨a1, a2⟩)
      · exact ⟨hj, .inl rfl⟩
      · exact ⟨a1, .inr a2⟩
    · rintro ⟨a1, rfl | a2⟩
      · exact .inl rfl
      · exact .inr ⟨a1, a2⟩
  rw [hE]
  have inv : ∀ k, k ∈ (N.filter fun k => k == j || e k) → k = j ∨ (k ≠ j ∧ k ∈ N.filter e) := fun k hk => by
    simp only [List.mem_filter, Bool.or_eq_true, beq_iff_eq] at hk ⊢
    by_cases e1 : k = j
    · exact .inl e1
    · exact .inr ⟨e1, hk.1, hk.2.resolve_left e1⟩
  refine next (updR β j w.heap.size) _ _ (fun hs => hs.alloc _) (ho.allocE _ _ h6) ⟨fun k hk => ?_, fun k hk => ?_, fun k hk hu => ?_, fun k hk f hf hgk => ?_, fun i hi k hk he' => ?_, fun k hk => ?_⟩
  · rcases inv k hk with rfl | ⟨hne, hk⟩
    · refine ⟨o, T, t, ti, h1, h2, h3, h4, ?_, fun ρ => ?_⟩
      · rw [updR_same]
        simp [Act.put, ho.size, h5]
      · rw [updR_same]
        have := cellsAt_alloc w (denL ρ ti.zero) T
        rw [← hz2 ρ, Array.toArray_toList] at this
        rw [← hz2 ρ]
        exact this
    · obtain ⟨o', T', t', ti', g1, g2, g3, g4, g5, g6⟩ := hg.at_ k hk
      refine ⟨o', T', t', ti', g1, g2, g3, g4, ?_, fun ρ => ?_⟩
      · have hne' : t ≠ t' := fun e1 => hds j hj k (List.mem_filter.1 hk).1 (Ne.symm hne) o o' h1 g1 (by rw [h3, g3, e1])
        rw [updR_ne _ _ hne]
        simp [Act.put, Array.getElem?_setIfInBounds, hne', g5]
      · rw [updR_ne _ _ hne]
        exact (g6 ρ).loc (heap_alloc_old w _ _ (hg.lt k hk))
  · rcases inv k hk with rfl | ⟨hne, hk⟩
    · rw [updR_same]; simp
    · rw [updR_ne _ _ hne]
      have := hg.lt k hk
      simp; omega
  · rcases inv k hk with rfl | ⟨hne, hk⟩
    · rw [updR_same] at hu
      obtain ⟨r, x, hm, hF⟩ := hu
      have := ho.heap.shape.bnd r x hm _ hF
      omega
    · rw [updR_ne _ _ hne] at hu
      exact hg.own k hk hu
  · rcases inv k hk with rfl | ⟨hne, hk⟩
    · rw [updR_same] at hgk
      have := ((ho.heap.shape.fact f hf).2 _ hgk).2
      omega
    · rw [updR_ne _ _ hne] at hgk
      exact hg.fx k hk f hf hgk
  · rcases inv i hi with rfl | ⟨hne, hi'⟩ <;> rcases inv k hk with rfl | ⟨hne', hk'⟩
    · rfl
    · rw [updR_same, updR_ne _ _ hne'] at he'
      have := hg.lt k hk'; omega
    · rw [updR_same, updR_ne _ _ hne] at he'
      have := hg.lt i hi'; omega
    · rw [updR_ne _ _ hne, updR_ne _ _ hne'] at he'
      exact hg.inj i hi' k hk' he'
  · rcases inv k hk with rfl | ⟨hne, hk⟩
    · rw [updR_same]; exact ho.keeps.size
    · rw [updR_ne _ _ hne]; exact hg.new k hk
omit ht in
/-- One operation of the code that may come up; or a variable that is made later. -/
theorem ready_one {Q : Exit → Act → World → Prop} {S : World → Prop} {ops : Array Oper} {fuel : Nat} {N E : List Nat} {l : Array Bool} {i : Nat} {a : Act} {w : World} (h : oneB ops N E l i = true)
    (hi : wpOp P ops Q i (fun a' w' => (i ∉ ds → S w → S w') ∧ wpAnyLast P .any ops Q S ds fuel (l.setIfInBounds i true) a' w') a w)
    (hj : ∀ j, j ∈ N → j ∉ E → wpOp P ops Q j (fun a' w' => (j ∉ ds → S w → S w') ∧ wpAnyLast P .any ops Q S ds fuel (l.setIfInBounds j true) a' w') a w) : wpAnyLast P .any ops Q S ds (fuel + 1) l a w := by
  simp only [oneB, Bool.and_eq_true, List.all_eq_true, Bool.or_eq_true, beq_iff_eq, Bool.not_eq_true', List.contains_iff_mem] at h
  refine ⟨fun h0 => ?_, fun j hr => ?_⟩
  · have := h.1; rw [h0] at this; cases this
  · rcases h.2 j hr with rfl | h2
    · exact hi
    · exact hj j h2.1 (by simpa using h2.2)
omit ht in
theorem ready_new {Q : Exit → Act → World → Prop} {S : World → Prop} {ops : Array Oper} {fuel : Nat} {N E : List Nat} {l : Array Bool} {a : Act} {w : World} (h : newB ops N E l = true)
    (hj : ∀ j, j ∈ N → j ∉ E → wpOp P ops Q j (fun a' w' => (j ∉ ds → S w → S w') ∧ wpAnyLast P .any ops Q S ds fuel (l.setIfInBounds j true) a' w') a w) : wpAnyLast P .any ops Q S ds (fuel + 1) l a w := by
  simp only [newB, Bool.and_eq_true, List.all_eq_true, Bool.not_eq_true', List.contains_iff_mem] at h
  refine ⟨fun h0 => ?_, fun j hr => ?_⟩
  · have := h.1; rw [h0] at this; simp at this
  · have h2 := h.2 j hr
    exact hj j h2.1 (by simpa using h2.2)
omit ht in
theorem OkAt.adopt {B : Bs} {ρ : Nat → Nat} {F : Nat → Nat → Prop} {st : SS} {sz : Nat} {a : Act} {w : World} (h : OkAt B ρ F st sz a w) {b : Nat} {T : TypeId} {cs : List SV} (hc : ∀ ρ, CellsAt w b (denL ρ cs) T) (hlt : b < w.heap.size) (hown : ¬ Own st.hp F b)
    (hfx : ∀ f ∈ st.fx, ¬ f.G b) (hnew : B.w0.heap.size ≤ b) : OkAt B (updR ρ st.nx b) (updR F st.nx (fun k => k = b)) ⟨st.sl, (st.nx, .cells cs T) :: st.hp, st.nx + 1, st.fx⟩ sz a w := by
  have lt1 : ∀ r x, (r, x) ∈ st.hp → r < st.nx := h.heap.shape.lt
  have hag : ∀ ρ', Ag (st.nx + 1) (updR ρ st.nx b) ρ' → Ag st.nx ρ ρ' := fun ρ' hr i hi => by rw [hr i (Nat.lt_succ_of_lt hi), updR_ne _ _ (Nat.ne_of_lt hi)]
  refine ⟨fun ρ' hr t x hm => h.slot ρ' (hag ρ' hr) t x hm, ⟨fun ρ' hr r o hm => ?_, ⟨fun r o hm => ?_, fun r o r' o' hm hm' hne k => ?_, fun r o hm k => ?_, fun f hf => ⟨(h.heap.shape.fact f hf).1, fun k hk => ⟨fun hu => ?_, ((h.heap.shape.fact f hf).2 k hk).2⟩⟩⟩⟩,
    h.size, fun r hr => by rw [updR_ne _ _ (by have := h.n0; omega)]; exact h.base r hr, Nat.le_trans h.n0 (Nat.le_succ _), h.keeps, fun k hk => ?_, h.facts, h.defers⟩
  · rcases List.mem_cons.1 hm with e | hm
    · cases e
      rw [hr st.nx (Nat.lt_succ_self _), updR_same, updR_same]
      exact ⟨fun _ => Iff.rfl, hc ρ'⟩
    · rw [updR_ne _ _ (by have := lt1 r o hm; omega)]
      exact h.heap.obj ρ' (hag ρ' hr) r o hm
  · rcases List.mem_cons.1 hm with e | hm
    · cases e; simp
    · have := lt1 r o hm; simp; omega
  · rcases List.mem_cons.1 hm with e | hm <;> rcases List.mem_cons.1 hm' with e' | hm'
    · cases e; cases e'; exact absurd rfl hne
    · cases e
      have hl := lt1 r' o' hm'
      rw [updR_same, updR_ne _ _ (by omega)]
      rintro rfl hf
      exact hown ⟨r', o', hm', hf⟩
    · cases e'
      have hl := lt1 r o hm
      rw [updR_same, updR_ne _ _ (by omega)]
      rintro hf rfl
      exact hown ⟨r, o, hm, hf⟩
    · have hl := lt1 r o hm
      have hl' := lt1 r' o' hm'
      rw [updR_ne _ _ (by omega), updR_ne _ _ (by omega)]
      exact h.heap.shape.dis r o r' o' hm hm' hne k
  · rcases List.mem_cons.1 hm with e | hm
    · cases e; rw [updR_same]; rintro rfl; exact hlt
    · have hl := lt1 r o hm
      rw [updR_ne _ _ (by omega)]
      exact h.heap.shape.bnd r o hm k
  · rcases own_new lt1 hu with rfl | h1
    · exact hfx f hf hk
    · exact ((h.heap.shape.fact f hf).2 k hk).1 h1
  · rcases own_new lt1 hk with rfl | h1
    · exact .inr hnew
    · exact h.own k h1
omit ht in
theorem news_length : ∀ pl : List NStep, (news pl).length ≤ pl.length
  | [] => Nat.le_refl _
  | s :: r => by
    have := news_length r
    cases s <;> simp only [news, List.length_cons] <;> omega
omit ht in
theorem dstNe_spec {N : List Nat} {i : Nat} (h : dstNe ops.toArray N i = true) {oi : Oper} (hi : ops[i]? = some oi) {j : Nat} (hj : j ∈ N) {oj : Oper} (ho : ops[j]? = some oj) : oj.dst ≠ oi.dst := by
  have := List.all_eq_true.1 h j hj
  simp only [List.getElem?_toArray, hi, ho, bne_iff_ne] at this
  exact this
omit ht in
theorem put_keeps {a : Act} {d : Option Tmp} {v : Value} {t : Tmp} (h : d ≠ some t) : (a.put d v).tmps[t]? = a.tmps[t]? := by
  cases d with
  | none => rfl
  | some d =>
    have : d ≠ t := fun e => h (by rw [e])
    simp [Act.put, Array.getElem?_setIfInBounds, this]
set_option maxHeartbeats 1000000 in
theorem planN_sound (hsc : idsH n hpS = true) {B : Bs} {K : Exit → SS → Prop} : ∀ (pl : List NStep), (news pl).Nodup → (∀ j ∈ news pl, j ∉ ds ∧ newOk ops.toArray j = true) →
    (∀ i ∈ news pl, ∀ j ∈ news pl, i ≠ j → ∀ oi oj, ops[i]? = some oi → ops[j]? = some oj → oi.dst ≠ oj.dst) → ∀ (l : Array Bool), planOkN ops.toArray ds pl l = true →
    ∀ (m : Nat) (e : Nat → Bool), ((news pl).filter fun k => !e k).length = m → ∀ {st : SS} {ρ F β a w}, planKN P tt sz ops hpS fxS pl st (K .normal) → OkAt B ρ F st sz a w → Gh tt ops ((news pl).filter e) β B F st a w → Ag n ρ0 ρ → n ≤ st.nx →
    ((∀ d ∈ ds, l.getD d false = false) → SHB ρ0 hpS fxS w) → wpAnyLast P .any ops.toArray (NoPanic (Lift B sz K)) (SHB ρ0 hpS fxS) ds (pl.length - ((news pl).filter e).length) (mark l ((news pl).filter e)) a w
  | [], _, _, _, l, hp, m, e, _, st, ρ, F, β, a, w, h, ho, hg, hag, hn, hS => done_ hp ⟨st, ρ, F, h, ho⟩
  | s :: r, hnd, hnw, hdd, l, hp, m, e, hm, st, ρ, F, β, a, w, h, ho, hg, hag, hn, hS => by
    induction m using Nat.strongRecOn generalizing e β a w with
    | _ m ihm =>
    have setD : ∀ (i d : Nat), (l.setIfInBounds i true).getD d false = false → l.getD d false = false := fun i d hd => by
      by_cases e : d = i
      · subst e
        by_cases hb : d < l.size
        · rw [Array.getD_eq_getD_getElem?, Array.getElem?_setIfInBounds_self_of_lt hb] at hd; simp at hd
        · rw [Array.getD_eq_getD_getElem?, Array.getElem?_eq_none (Nat.le_of_not_lt hb)]; rfl
      · rw [← getD_set_ne false (Ne.symm e)]; exact hd
    have hr0 := ho.rebase
    have hlen := news_length r
    have hEl : ((news r).filter e).length ≤ r.length := Nat.le_trans (List.length_filter_le _ _) hlen
    -- a variable that is made later, made here
    have earlyN : freeSl tt sz ops (news (s :: r)) st = true → ∀ j, j ∈ news (s :: r) → j ∉ (news (s :: r)).filter e →
        wpOp P ops.toArray (NoPanic (Lift B sz K)) j (fun a' w' => (j ∉ ds → SHB ρ0 hpS fxS w → SHB ρ0 hpS fxS w') ∧ wpAnyLast P .any ops.toArray (NoPanic (Lift B sz K)) (SHB ρ0 hpS fxS) ds ((s :: r).length - ((news (s :: r)).filter e).length - 1) ((mark l ((news (s :: r)).filter e)).setIfInBounds j true) a' w') a w := by
      intro hfree j hj hje
      have he : e j = false := by
        cases h0 : e j with
        | false => rfl
        | true => exact absurd (List.mem_filter.2 ⟨hj, h0⟩) hje
      obtain ⟨h1, h2⟩ := filter_more he hnd hj
      refine early ht hnd hfree hnw hdd ho hg hj he fun β' a' w' hs ho' hg' => ?_
      have := ihm ((news (s :: r)).filter fun k => !(k == j || e k)).length (by omega) (fun k => k == j || e k) rfl β' a' w' ho' hg' (fun hd => hs (hS hd))
      rw [h1] at this
      rw [Nat.sub_sub]
      exact this
    cases s with
    | any i =>
      simp only [planOkN, Bool.and_eq_true, List.all_eq_true] at hp
      obtain ⟨⟨hp1, hp2⟩, hp3⟩ := hp
      obtain ⟨hfree, h⟩ := checkK_elim h
      obtain ⟨oi, h1, h2⟩ := nthK_elim h
      have hi : ops.toArray[i]? = some oi := by simpa using h1
      have hany := hp1 _ (filter_subs e (news r))
      have hfu : (NStep.any i :: r).length - ((news (NStep.any i :: r)).filter e).length = (r.length - ((news r).filter e).length) + 1 := by
        simp only [news, List.length_cons]; omega
      rw [hfu]
      have go : ∀ (v : Value) (st' : SS), Yields P ops.toArray oi v a → planKN P tt sz ops hpS fxS r st' (K .normal) → OkAt ⟨st.nx, ρ, w, Own st.hp F, st.fx⟩ ρ F st' sz (a.put oi.dst v) w → wpAnyLast P .any ops.toArray (NoPanic (Lift B sz K)) (SHB ρ0 hpS fxS) ds (r.length - ((news r).filter e).length + 1) (mark l ((news r).filter e)) a w :=
        fun v st' hy h3 h4 => pure_ _ hi rfl hany (fun _ _ _ hq => hq) hy rfl (by
          rw [mark_set]
          exact planN_sound hsc r hnd hnw hdd _ hp3 _ e rfl h3 (ho.compose h4) (hg.step h4 (fun _ hj => hj) fun j hj o h5 t h6 => put_keeps fun h7 => dstNe_spec hp2 h1 (List.mem_filter.1 hj).1 h5 (h6.trans h7.symm)) hag (Nat.le_trans hn h4.n0) (fun hd => hS fun d hm => setD i d (hd d hm)))
      rcases guardK_sound (P := P) h2 hr0 with ⟨hw, st', h3, h4⟩ | ⟨hw, st', h3, h4⟩
      · obtain ⟨sl, hp', nx, fx⟩ := st'
        obtain ⟨y, h5, h6⟩ := pureK_elim (P := P) ht h3 rfl
        have hrun : ∀ w, (execOp a.eval oi).run P w = .ok (.value (den ρ y)) w := fun w =>
          h6 ρ (fun _ _ => False) a w ⟨h4.slot ρ (Ag.refl _ _), fun r o hm => by cases hm⟩ (fun f hf => by cases hf)
        have hrob : ∀ ρ', Ag nx ρ ρ' → den ρ' y = den ρ y := by
          intro ρ' hr
          have e1 := h6 ρ' (fun _ _ => False) a w ⟨h4.slot ρ' hr, fun r o hm => by cases hm⟩ (fun f hf => by cases hf)
          rw [hrun w] at e1
          simpa using e1.symm
        obtain ⟨st'', h7, h8⟩ := putK_elim h5 h4 hrob
        exact go _ st'' (.inl ⟨hw, hrun⟩) h7 h8
      · obtain ⟨st'', h7, h8⟩ := putK_elim h3 h4 (fun _ _ => rfl)
        exact go _ st'' (.inr ⟨hw, rfl⟩) h7 h8
    | load i =>
      simp only [planOkN, Bool.and_eq_true, List.all_eq_true, Bool.not_eq_true'] at hp
      obtain ⟨⟨⟨hp1, hpd⟩, hp2⟩, hp3⟩ := hp
      have hS0 := hS hpd
      obtain ⟨hfree, h⟩ := checkK_elim h
      obtain ⟨oi, h1, h2⟩ := nthK_elim h
      have hi : ops.toArray[i]? = some oi := by simpa using h1
      have hany := hp1 _ (filter_subs e (news r))
      have hfu : (NStep.load i :: r).length - ((news (NStep.load i :: r)).filter e).length = (r.length - ((news r).filter e).length) + 1 := by
        simp only [news, List.length_cons]; omega
      rw [hfu]
      have go : ∀ (v : Value) (st' : SS), YieldsIf P ops.toArray (SHB ρ0 hpS fxS) oi v a → planKN P tt sz ops hpS fxS r st' (K .normal) → OkAt ⟨st.nx, ρ, w, Own st.hp F, st.fx⟩ ρ F st' sz (a.put oi.dst v) w → wpAnyLast P .any ops.toArray (NoPanic (Lift B sz K)) (SHB ρ0 hpS fxS) ds (r.length - ((news r).filter e).length + 1) (mark l ((news r).filter e)) a w :=
        fun v st' hy h3 h4 => take_ _ hi rfl hany (fun _ _ _ hq => hq) hy hS0 rfl (by
          rw [mark_set]
          exact planN_sound hsc r hnd hnw hdd _ hp3 _ e rfl h3 (ho.compose h4) (hg.step h4 (fun _ hj => hj) fun j hj o h5 t h6 => put_keeps fun h7 => dstNe_spec hp2 h1 (List.mem_filter.1 hj).1 h5 (h6.trans h7.symm)) hag (Nat.le_trans hn h4.n0) (fun _ => hS0))
      rcases guardK_sound (P := P) h2 hr0 with ⟨hw, st', h3, h4⟩ | ⟨hw, st', h3, h4⟩
      · obtain ⟨sl, hp', nx, fx⟩ := st'
        obtain ⟨y, h5, h6⟩ := pureK_elim (P := P) ht h3 rfl
        have hle : n ≤ nx := Nat.le_trans hn h4.n0
        have hrun : ∀ ρ', Ag nx ρ ρ' → ∀ w', SHB ρ0 hpS fxS w' → (execOp a.eval oi).run P w' = .ok (.value (den ρ' y)) w' := fun ρ' hr w' hs =>
          h6 ρ' _ a w' (hs.1.base (hag.trans hr hle) hsc (h4.slot ρ' hr)) hs.1.2
        have hrob : ∀ ρ', Ag nx ρ ρ' → den ρ' y = den ρ y := by
          intro ρ' hr
          have e1 := hrun ρ' hr w hS0
          rw [hrun ρ (Ag.refl _ _) w hS0] at e1
          simpa using e1.symm
        obtain ⟨st'', h7, h8⟩ := putK_elim h5 h4 hrob
        exact go _ st'' (.inl ⟨hw, fun w' hs => hrun ρ (Ag.refl _ _) w' hs⟩) h7 h8
      · obtain ⟨st'', h7, h8⟩ := putK_elim h3 h4 (fun _ _ => rfl)
        exact go _ st'' (.inr ⟨hw, rfl⟩) h7 h8
    | one i =>
      simp only [planOkN, Bool.and_eq_true, List.all_eq_true, Bool.not_eq_true'] at hp
      obtain ⟨⟨⟨⟨hp1, hpn⟩, hpd⟩, hp2⟩, hp3⟩ := hp
      have hS0 := hS hpd
      obtain ⟨hfree, h⟩ := checkK_elim h
      obtain ⟨oi, h1, h2⟩ := nthK_elim h
      have hi : ops.toArray[i]? = some oi := by simpa using h1
      have hfu : (NStep.one i :: r).length - ((news (NStep.one i :: r)).filter e).length = (r.length - ((news r).filter e).length) + 1 := by
        simp only [news, List.length_cons]; omega
      have hea := earlyN hfree
      rw [hfu] at hea ⊢
      simp only [Nat.add_sub_cancel] at hea
      refine ready_one (hp1 _ (filter_subs e (news r))) (wpOp_step hi fun K' hK' => ?_) hea
      rcases guardK_sound (P := P) h2 hr0 with ⟨hw, st', h3, h4⟩ | ⟨hw, st', h3, h4⟩
      · rw [if_pos hw]
        refine Oper.wp_mono (fun a' w' hx => ?_) (Oper.wp_slots (opK_sound ht h3 h4))
        obtain ⟨⟨st2, ρ', F', ⟨k1, k2, k3⟩, h5⟩, hsl⟩ := hx
        have hag' : Ag n ρ0 ρ' := hag.trans h5.base hn
        have hs : SHB ρ0 hpS fxS w' := SHB.of_ok h5 hag' hsc (keepsH_mem k1) k2
        refine hK' _ _ ⟨fun _ _ => hs, ?_⟩
        rw [mark_set]
        exact planN_sound hsc r hnd hnw hdd _ hp3 _ e rfl k3 (ho.compose h5) (hg.step h5 (fun _ hj => hj) fun j hj o h6 t h7 => hsl t fun h8 => dstNe_spec hp2 h1 (List.mem_filter.1 hj).1 h6 (h7.trans h8.symm)) hag' (Nat.le_trans hn h5.n0) (fun _ => hs)
      · rw [if_neg (by rw [hw]; simp)]
        obtain ⟨st'', h7, h8⟩ := putK_elim h3 h4 (fun _ _ => rfl)
        refine hK' _ _ ⟨fun _ hs => hs, ?_⟩
        rw [mark_set]
        exact planN_sound hsc r hnd hnw hdd _ hp3 _ e rfl h7 (ho.compose h8) (hg.step h8 (fun _ hj => hj) fun j hj o h6 t h9 => put_keeps fun h10 => dstNe_spec hp2 h1 (List.mem_filter.1 hj).1 h6 (h9.trans h10.symm)) hag (Nat.le_trans hn h8.n0) (fun _ => hS0)
    | last i =>
      simp only [planOkN, Bool.and_eq_true, List.all_eq_true, List.contains_iff_mem] at hp
      obtain ⟨⟨⟨hp1, hds⟩, hp2⟩, hp3⟩ := hp
      obtain ⟨hfree, h⟩ := checkK_elim h
      obtain ⟨oi, h1, h2⟩ := nthK_elim h
      have hi : ops.toArray[i]? = some oi := by simpa using h1
      have hfu : (NStep.last i :: r).length - ((news (NStep.last i :: r)).filter e).length = (r.length - ((news r).filter e).length) + 1 := by
        simp only [news, List.length_cons]; omega
      have hea := earlyN hfree
      rw [hfu] at hea ⊢
      simp only [Nat.add_sub_cancel] at hea
      have hone := hp1 _ (filter_subs e (news r))
      have hlt : i < l.size := by
        simp only [oneB, Bool.and_eq_true, List.contains_iff_mem] at hone
        have h5 := (mem_ready.1 hone.1).1
        refine Nat.lt_of_not_le fun hle => ?_
        rw [Array.getD_eq_getD_getElem?, Array.getElem?_eq_none (by rw [mark_size]; exact hle)] at h5
        simp at h5
      have hno : ∀ w', (∀ d ∈ ds, (l.setIfInBounds i true).getD d false = false) → SHB ρ0 hpS fxS w' := fun w' hd => by
        have := hd i hds
        rw [Array.getD_eq_getD_getElem?, Array.getElem?_setIfInBounds_self_of_lt hlt] at this
        simp at this
      refine ready_one hone (wpOp_step hi fun K' hK' => ?_) hea
      rcases guardK_sound (P := P) h2 hr0 with ⟨hw, st', h3, h4⟩ | ⟨hw, st', h3, h4⟩
      · rw [if_pos hw]
        refine Oper.wp_mono (fun a' w' hx => ?_) (Oper.wp_slots (opK_sound ht h3 h4))
        obtain ⟨⟨st2, ρ', F', k3, h5⟩, hsl⟩ := hx
        refine hK' _ _ ⟨fun hn => absurd hds hn, ?_⟩
        rw [mark_set]
        exact planN_sound hsc r hnd hnw hdd _ hp3 _ e rfl k3 (ho.compose h5) (hg.step h5 (fun _ hj => hj) fun j hj o h6 t h7 => hsl t fun h8 => dstNe_spec hp2 h1 (List.mem_filter.1 hj).1 h6 (h7.trans h8.symm)) (hag.trans h5.base hn) (Nat.le_trans hn h5.n0) (hno w')
      · rw [if_neg (by rw [hw]; simp)]
        obtain ⟨st'', h7, h8⟩ := putK_elim h3 h4 (fun _ _ => rfl)
        refine hK' _ _ ⟨fun hn => absurd hds hn, ?_⟩
        rw [mark_set]
        exact planN_sound hsc r hnd hnw hdd _ hp3 _ e rfl h7 (ho.compose h8) (hg.step h8 (fun _ hj => hj) fun j hj o h6 t h9 => put_keeps fun h10 => dstNe_spec hp2 h1 (List.mem_filter.1 hj).1 h6 (h9.trans h10.symm)) hag (Nat.le_trans hn h8.n0) (hno w)
    | new i =>
      simp only [planOkN, Bool.and_eq_true, List.all_eq_true, Bool.not_eq_true', Bool.or_eq_true] at hp
      obtain ⟨⟨⟨⟨⟨hp1, hpo⟩, hpc⟩, hpd⟩, hp2⟩, hp3⟩ := hp
      obtain ⟨hfree, h⟩ := checkK_elim h
      cases hei : e i with
      | false =>
        have hea := earlyN hfree
        have hEi : (news (NStep.new i :: r)).filter e = (news r).filter e := by simp [news, hei]
        have hfu : (NStep.new i :: r).length - ((news (NStep.new i :: r)).filter e).length = (r.length - ((news r).filter e).length) + 1 := by
          rw [hEi]; simp only [List.length_cons]; omega
        rw [hfu] at hea ⊢
        simp only [Nat.add_sub_cancel] at hea
        refine ready_new ((hp1 _ (filter_subs e (i :: news r))).resolve_left fun h0 => ?_) hea
        have h0 : i ∈ (i :: news r).filter e := by simpa using h0
        have := (List.mem_filter.1 h0).2
        rw [hei] at this; cases this
      | true =>
        obtain ⟨oi, h1, h2⟩ := nthK_elim h
        split at h2
        · rename_i T hop
          obtain ⟨ti, hti, h3⟩ := tyK_elim h2
          have h4 := newK_elim h3
          have hiE : i ∈ (news (NStep.new i :: r)).filter e := List.mem_filter.2 ⟨by simp [news], hei⟩
          obtain ⟨o', T', t, ti', g1, g2, g3, g4, g5, g6⟩ := hg.at_ i hiE
          obtain rfl : o' = oi := Option.some.inj (g1.symm.trans h1)
          obtain rfl : T' = T := by rw [g2] at hop; cases hop; rfl
          obtain rfl : ti' = ti := by rw [g4] at hti; cases hti; rfl
          have had := ho.adopt g6 (hg.lt i hiE) (hg.own i hiE) (hg.fx i hiE) (hg.new i hiE)
          rw [g3] at h4
          obtain ⟨st', h7, h8⟩ := putK_elim h4 had.rebase (fun ρ' hr => by simp only [den]; rw [hr st.nx (Nat.lt_succ_self _)])
          rw [show den (updR ρ st.nx (β i)) (SV.p st.nx 0) = .pointer (some ⟨β i, 0, none⟩) by simp only [den, updR_same]] at h8
          rw [Act.put_same g5] at h8
          have hEi : (news (NStep.new i :: r)).filter e = i :: (news r).filter e := by simp [news, hei]
          have hfu : (NStep.new i :: r).length - ((news (NStep.new i :: r)).filter e).length = r.length - ((news r).filter e).length := by
            rw [hEi]; simp only [List.length_cons]; omega
          rw [hfu, hEi]
          have hnd' := List.nodup_cons.1 (show (i :: news r).Nodup from hnd)
          have mem' : ∀ j, j ∈ (news r).filter e → j ∈ (news (NStep.new i :: r)).filter e := fun j hj => by rw [hEi]; exact List.mem_cons_of_mem _ hj
          have hcomp : Gh tt ops ((news r).filter e) β B (updR F st.nx fun k => k = β i) ⟨st.sl, (st.nx, .cells ti'.zero T') :: st.hp, st.nx + 1, st.fx⟩ a w := by
            refine ⟨fun j hj => hg.at_ j (mem' j hj), fun j hj => hg.lt j (mem' j hj), fun j hj hu => ?_, fun j hj => hg.fx j (mem' j hj), fun x hx y hy => hg.inj x (mem' x hx) y (mem' y hy), fun j hj => hg.new j (mem' j hj)⟩
            rcases own_new ho.heap.shape.lt hu with h9 | h9
            · have := hg.inj j (mem' j hj) i hiE h9
              subst this
              exact hnd'.1 (List.mem_filter.1 hj).1
            · exact hg.own j (mem' j hj) h9
          have hgs : Gh tt ops ((news r).filter e) β B (updR F st.nx fun k => k = β i) st' a w := hcomp.step h8 (fun _ hj => hj) fun _ _ _ _ _ _ => rfl
          exact planN_sound hsc r hnd'.2 (fun j hj => hnw j (List.mem_cons_of_mem _ hj)) (fun x hx y hy => hdd x (List.mem_cons_of_mem _ hx) y (List.mem_cons_of_mem _ hy)) _ hp3 _ e rfl h7 (had.compose h8) hgs
            (hag.trans (Ag.updR ρ _) hn) (Nat.le_trans hn (Nat.le_trans (Nat.le_succ _) h8.n0)) (fun hd => hS fun d hm => setD i d (hd d hm))
        · exact h2.elim
omit ht in
theorem dropK_elim {k : SS → Prop} {B : Bs} {ρ : Nat → Nat} {F : Nat → Nat → Prop} {a : Act} {w : World} : ∀ {N : List Nat} {st : SS}, dropK sz ops N st k → OkAt B ρ F st sz a w → ∃ st', k st' ∧ OkAt B ρ F st' sz a w ∧ st'.hp = st.hp ∧ st'.nx = st.nx ∧ st'.fx = st.fx
  | [], st, h, ho => ⟨st, h, ho, rfl, rfl, rfl⟩
  | j :: N, st, h, ho => by
    obtain ⟨o, h1, h2⟩ := nthK_elim h
    cases hd : o.dst with
    | none => rw [hd] at h2; exact dropK_elim h2 ho
    | some t =>
      rw [hd] at h2
      unfold delK at h2
      simp only at h2
      split at h2
      · obtain ⟨sl, hp, nx, fx⟩ := st
        obtain ⟨sl', h3, h4⟩ := delK'_elim h2
        obtain ⟨st', g1, g2, g3, g4, g5⟩ := dropK_elim h3 (st := ⟨sl', hp, nx, fx⟩) ⟨fun ρ' hr t' x hm => ho.slot ρ' hr t' x (h4 _ _ hm).2, ho.heap, ho.size, ho.base, ho.n0, ho.keeps, ho.own, ho.facts, ho.defers⟩
        exact ⟨st', g1, g2, g3, g4, g5⟩
      · exact h2.elim
def dstsB (ops : List Oper) : List Nat → Bool
  | [] => true
  | i :: r => dstNe ops.toArray r i && dstsB ops r
omit ht in
theorem dstsB_spec : ∀ {N : List Nat}, dstsB ops N = true → ∀ i ∈ N, ∀ j ∈ N, i ≠ j → ∀ oi oj, ops[i]? = some oi → ops[j]? = some oj → oi.dst ≠ oj.dst
  | [], _, i, hi, _, _, _, _, _, _, _ => by cases hi
  | x :: N, h, i, hi, j, hj, hne, oi, oj, h1, h2 => by
    simp only [dstsB, Bool.and_eq_true] at h
    rcases List.mem_cons.1 hi with rfl | hi' <;> rcases List.mem_cons.1 hj with rfl | hj'
    · exact absurd rfl hne
    · exact fun e => dstNe_spec h.1 h1 hj' h2 e.symm
    · exact fun e => dstNe_spec h.1 h2 hi' h1 e
    · exact dstsB_spec h.2 i hi' j hj' hne oi oj h1 h2
def nodupB : List Nat → Bool
  | [] => true
  | x :: r => !r.contains x && nodupB r
omit ht in
theorem nodupB_spec : ∀ {l : List Nat}, nodupB l = true → l.Nodup
  | [], _ => List.nodup_nil
  | x :: r, h => by
    simp only [nodupB, Bool.and_eq_true, Bool.not_eq_true'] at h
    exact List.nodup_cons.2 ⟨by simpa using h.1, nodupB_spec h.2⟩
def allOkN (ops : List Oper) (ds : List Nat) (pl : List NStep) : Bool := nodupB (news pl) && dstsB ops (news pl) && (news pl).all (fun j => !ds.contains j && newOk ops.toArray j) && planOkN ops.toArray ds pl (Array.replicate ops.length false)
theorem draw_new (hm : P.follows .mixedOrders = true) {n0 id : Nat} {st : SS} {K : Exit → SS → Prop} (pl : List NStep) (ds : List Nat) (hpS : List (Nat × SObj))
    (hok : allOkN ops ds pl = true) (hlen : pl.length = ops.length) (hsc : idsH st.nx hpS = true) (hk : keepsH st.hp hpS) (h : dropK sz ops (news pl) st fun st' => planKN P tt sz ops hpS st.fx pl st' (K .normal)) : DrawVC P sz n0 id ops st K := by
  refine ⟨fun B ρ F a w hn ho => wp_region_noPanic ?_⟩
  simp only [allOkN, Bool.and_eq_true, List.all_eq_true, Bool.not_eq_true'] at hok
  obtain ⟨⟨⟨k1, k2⟩, k3⟩, k4⟩ := hok
  have hd := ho.drew
  obtain ⟨st', h1, h2, h3, h4, h5⟩ := dropK_elim h hd
  have hS : SHB ρ hpS st.fx w.drew := SHB.of_ok hd (Ag.refl _ _) hsc (keepsH_mem hk) (fun f hf => hf)
  refine start_ (ds := ds) (Array.replicate ops.length false) hm (by simp) rfl hS fun _ => ?_
  have := planN_sound ht hsc pl (nodupB_spec k1) (fun j hj => ⟨by have := (k3 j hj).1; simpa using this, (k3 j hj).2⟩) (dstsB_spec k2) _ k4 _ (fun _ => false) rfl h1 h2 (β := fun _ => 0)
    ⟨fun j hj => by simp at hj, fun j hj => by simp at hj, fun j hj => by simp at hj, fun j hj => by simp at hj, fun j hj => by simp at hj, fun j hj => by simp at hj⟩ (Ag.refl _ _) (by rw [h4]; exact Nat.le_refl _) (fun _ => hS)
  rw [show (news pl).filter (fun _ => false) = [] by simp] at this
  simp only [List.length_nil, Nat.sub_zero, mark] at this
  rw [hlen] at this
  exact this
/-- The same; every region may be loaded from. -/
theorem draw_all (hm : P.follows .mixedOrders = true) {n0 id : Nat} {st : SS} {K : Exit → SS → Prop} (pl : List NStep) (ds : List Nat)
    (hok : allOkN ops ds pl = true) (hlen : pl.length = ops.length) (hsc : idsH st.nx st.hp = true) (hk : keepsH st.hp st.hp) (h : dropK sz ops (news pl) st fun st' => planKN P tt sz ops st.hp st.fx pl st' (K .normal)) : DrawVC P sz n0 id ops st K :=
  draw_new ht hm pl ds st.hp hok hlen hsc hk h
/-- The regions that are no bundles. -/
def solid : List (Nat × SObj) → List (Nat × SObj)
  | [] => []
  | (r, o) :: l => match o with | .abs _ => solid l | o => (r, o) :: solid l
theorem draw_solid (hm : P.follows .mixedOrders = true) {n0 id : Nat} {st : SS} {K : Exit → SS → Prop} (pl : List NStep) (ds : List Nat)
    (hok : allOkN ops ds pl = true) (hlen : pl.length = ops.length) (hsc : idsH st.nx (solid st.hp) = true) (hk : keepsH st.hp (solid st.hp)) (h : dropK sz ops (news pl) st fun st' => planKN P tt sz ops (solid st.hp) st.fx pl st' (K .normal)) : DrawVC P sz n0 id ops st K :=
  draw_new ht hm pl ds (solid st.hp) hok hlen hsc hk h
omit ht in
theorem draw_opaque {n0 id : Nat} {st : SS} {K : Exit → SS → Prop} (h : ∀ K' : Exit → SS → Prop, (∀ e st, K e st → K' e st) → DrawVC P sz n0 id ops st K') : DrawVC P sz n0 id ops st K := h K fun _ _ h => h
omit ht in
theorem loop_opaque {n0 : Nat} {body : Code} {st : SS} {K : Exit → SS → Prop} (h : ∀ K' : Exit → SS → Prop, (∀ e st, K e st → K' e st) → LoopVC P sz n0 body st K') : LoopVC P sz n0 body st K := h K fun _ _ h => h
omit ht in
/-- A region that draws its order: wherever it ends, that is told in the same way. -/
theorem draw_join {n0 id : Nat} {st : SS} {K : Exit → SS → Prop} {α : Type} (Inv : α → SS) (Pr : α → Prop) (h2 : ∀ K' : Exit → SS → Prop, (∀ st x σ, Pr x → Sub n0 σ st (Inv x) → K' .normal st) → DrawVC P sz n0 id ops st K')
    (h1 : ∀ x, Pr x → K .normal (Inv x)) : DrawVC P sz n0 id ops st K := by
  refine ⟨fun B ρ F a w hn ho => ?_⟩
  refine wp_mono ((h2 (fun e st => match e with | .normal => ∃ x σ, Pr x ∧ Sub n0 σ st (Inv x) | _ => False) (fun st x σ hx hs => ⟨x, σ, hx, hs⟩)).out B ρ F a w hn ho) fun e a' w' hq => ?_
  obtain ⟨st', ρ', F', h3, h4⟩ := hq
  cases e with
  | normal =>
    obtain ⟨x, σ, hx, hs⟩ := h3
    obtain ⟨ρ2, F2, h5⟩ := hs.ok hn h4
    exact ⟨_, ρ2, F2, h1 x hx, h5⟩
  | exit id => exact h3.elim
  | goto l => exact h3.elim
  | ret => exact h3.elim
  | panic c => exact h3.elim
  | outgrown => exact h3.elim
end
end Go.Proofs.Ytekgjjanikicnaa.Sx
