/- A symbolic executor for the model's code: drawn regions in which new variables are made, too: each may be made at any time ahead of its use. -/
import Derived.Test.YtekgjjanikicnaaSxE
namespace Go.Proofs.Ytekgjjanikicnaa.Sx
open Go Go.Proofs.YtekgjjanikicnaaW.PrintLast
set_option linter.unusedVariables false
set_option linter.unusedSimpArgs false

inductive NStep where
  | any (i : Nat)
  | load (i : Nat)
  | one (i : Nat)
  | last (i : Nat)
  | new (i : Nat)
def news : List NStep → List Nat
  | [] => []
  | .new i :: r => i :: news r
  | .any _ :: r => news r
  | .load _ :: r => news r
  | .one _ :: r => news r
  | .last _ :: r => news r
def mark (l : Array Bool) : List Nat → Array Bool
  | [] => l
  | j :: E => mark (l.setIfInBounds j true) E
theorem mark_get (k : Nat) : ∀ (E : List Nat) (l : Array Bool), (mark l E)[k]? = if k ∈ E ∧ k < l.size then some true else l[k]?
  | [], l => by simp [mark]
  | j :: E, l => by
    rw [mark, mark_get k E]
    simp only [Array.size_setIfInBounds, List.mem_cons, Array.getElem?_setIfInBounds]
    by_cases h1 : k < l.size <;> by_cases h2 : k ∈ E <;> by_cases h3 : j = k
    all_goals first
      | (subst h3; simp [h1, h2]; done)
      | (simp [h1, h2, h3, Ne.symm h3]; done)
theorem mark_size : ∀ (E : List Nat) (l : Array Bool), (mark l E).size = l.size
  | [], l => rfl
  | j :: E, l => by rw [mark, mark_size E]; simp
theorem mark_eq {l : Array Bool} {E E' : List Nat} (h : ∀ k, k ∈ E ↔ k ∈ E') : mark l E = mark l E' := by
  apply Array.ext_getElem?
  intro k
  rw [mark_get, mark_get]
  simp [h k]
theorem mark_set (l : Array Bool) (i : Nat) (E : List Nat) : (mark l E).setIfInBounds i true = mark l (i :: E) := by
  apply Array.ext_getElem?
  intro k
  rw [Array.getElem?_setIfInBounds, mark_get, mark_get, mark_size]
  by_cases h : i = k
  · subst h
    by_cases h1 : i < l.size
    · simp [h1]
    · simp [h1, Array.getElem?_eq_none (Nat.le_of_not_lt h1)]
  · rw [if_neg h]; simp [Ne.symm h]
def subs : List Nat → List (List Nat)
  | [] => [[]]
  | x :: r => subs r ++ (subs r).map (x :: ·)
theorem filter_subs (e : Nat → Bool) : ∀ l : List Nat, l.filter e ∈ subs l
  | [] => by simp [subs]
  | x :: r => by
    simp only [subs, List.mem_append, List.mem_map, List.filter_cons]
    split
    · exact .inr ⟨_, filter_subs e r, rfl⟩
    · exact .inl (filter_subs e r)
/-- What may come up here is this one, or a variable that is still to be made. -/
def oneB (ops : Array Oper) (N E : List Nat) (l : Array Bool) (i : Nat) : Bool := (Region.ready .any ops l).contains i && (Region.ready .any ops l).all fun j => j == i || (N.contains j && !E.contains j)
def newB (ops : Array Oper) (N E : List Nat) (l : Array Bool) : Bool := !(Region.ready .any ops l).isEmpty && (Region.ready .any ops l).all fun j => N.contains j && !E.contains j
def dstNe (ops : Array Oper) (N : List Nat) (i : Nat) : Bool := N.all fun j => match ops[j]?, ops[i]? with
  | some oj, some oi => oj.dst != oi.dst
  | _, _ => false
def newOk (ops : Array Oper) (j : Nat) : Bool := match ops[j]? with
  | some o => (match o.op with | .alloc _ => true | _ => false) && o.dst.isSome && o.guard.isNone
  | none => false
def planOkN (ops : Array Oper) (ds : List Nat) : List NStep → Array Bool → Bool
  | [], l => Region.ready .any ops l == []
  | .any i :: r, l => (subs (news r)).all (fun E => anyB .any ops (mark l E) ((mark l E).setIfInBounds i true) i) && dstNe ops (news r) i && planOkN ops ds r (l.setIfInBounds i true)
  | .load i :: r, l => (subs (news r)).all (fun E => takeB .any ops ds (mark l E) ((mark l E).setIfInBounds i true) i) && ds.all (fun d => !l.getD d false) && dstNe ops (news r) i && planOkN ops ds r (l.setIfInBounds i true)
  | .one i :: r, l => (subs (news r)).all (fun E => oneB ops (news r) E (mark l E) i) && !ds.contains i && ds.all (fun d => !l.getD d false) && dstNe ops (news r) i && planOkN ops ds r (l.setIfInBounds i true)
  | .last i :: r, l => (subs (news r)).all (fun E => oneB ops (news r) E (mark l E) i) && ds.contains i && dstNe ops (news r) i && planOkN ops ds r (l.setIfInBounds i true)
  | .new i :: r, l => (subs (i :: news r)).all (fun E => E.contains i || newB ops (i :: news r) E (mark l E)) && newOk ops i && !(news r).contains i && !ds.contains i && dstNe ops (news r) i && planOkN ops ds r (l.setIfInBounds i true)
def tyB : List (Option TI) → Nat → Bool
  | [], _ => false
  | x :: _, 0 => x.isSome
  | _ :: r, n + 1 => tyB r n
theorem tyB_elim : ∀ {tt : List (Option TI)} {T : Nat}, tyB tt T = true → ∃ ti, tt[T]? = some (some ti)
  | [], _, h => by simp [tyB] at h
  | x :: _, 0, h => by
    cases x with
    | none => simp [tyB] at h
    | some ti => exact ⟨ti, rfl⟩
  | _ :: r, n + 1, h => by
    obtain ⟨ti, h1⟩ := tyB_elim (tt := r) (T := n) h
    exact ⟨ti, by simpa using h1⟩
/-- The slots that are to be filled are not looked at. -/
def freeSl (tt : List (Option TI)) (sz : Nat) (ops : List Oper) (N : List Nat) (st : SS) : Bool := N.all fun j => match ops[j]? with
  | some o => (match o.op, o.dst with
    | .alloc T, some t => tyB tt T && Nat.blt t sz && st.sl.all fun e => !Nat.beq e.1 t
    | _, _ => false)
  | none => false
theorem freeSl_elim {tt : List (Option TI)} {sz : Nat} {ops : List Oper} {N : List Nat} {st : SS} (h : freeSl tt sz ops N st = true) {j : Nat} (hj : j ∈ N) :
    ∃ o T t ti, ops[j]? = some o ∧ o.op = .alloc T ∧ o.dst = some t ∧ tt[T]? = some (some ti) ∧ t < sz ∧ ∀ x, (t, x) ∉ st.sl := by
  have h1 := List.all_eq_true.1 h j hj
  split at h1
  · rename_i o ho
    split at h1
    · rename_i T t h2 h3
      simp only [Bool.and_eq_true, Nat.blt_eq] at h1
      obtain ⟨⟨h4, h5⟩, h6⟩ := h1
      obtain ⟨ti, h7⟩ := tyB_elim h4
      refine ⟨o, T, t, ti, ho, h2, h3, h7, h5, fun x hx => ?_⟩
      have := List.all_eq_true.1 h6 _ hx
      simp at this
    · cases h1
  · cases h1
def checkK (b : Bool) (p : Prop) : Prop := match b with
  | true => p
  | false => False
theorem checkK_elim {b : Bool} {p : Prop} (h : checkK b p) : b = true ∧ p := by
  cases b
  · exact h.elim
  · exact ⟨rfl, h⟩
def dropK (sz : Nat) (ops : List Oper) : List Nat → SS → (SS → Prop) → Prop
  | [], st, k => k st
  | j :: N, st, k => nthK ops j fun o => delK sz o.dst st fun st => dropK sz ops N st k
def planKN (P : Program) (tt : List (Option TI)) (sz : Nat) (ops : List Oper) (hpS : List (Nat × SObj)) (fxS : List Fact) : List NStep → SS → (SS → Prop) → Prop
  | [], st, k => k st
  | .any i :: r, st, k => checkK (freeSl tt sz ops (news r) st) <| nthK ops i fun o => guardK sz ops o st (fun st => match st with
      | ⟨sl, hp, nx, fx⟩ => pureK tt ⟨sl, [], nx, []⟩ o.op fun y => putK sz o.dst y ⟨sl, hp, nx, fx⟩ fun st => planKN P tt sz ops hpS fxS r st k)
      (fun st => putK sz o.dst (.tup []) st fun st => planKN P tt sz ops hpS fxS r st k)
  | .load i :: r, st, k => checkK (freeSl tt sz ops (news r) st) <| nthK ops i fun o => guardK sz ops o st (fun st => match st with
      | ⟨sl, hp, nx, fx⟩ => pureK tt ⟨sl, hpS, nx, fxS⟩ o.op fun y => putK sz o.dst y ⟨sl, hp, nx, fx⟩ fun st => planKN P tt sz ops hpS fxS r st k)
      (fun st => putK sz o.dst (.tup []) st fun st => planKN P tt sz ops hpS fxS r st k)
  | .one i :: r, st, k => checkK (freeSl tt sz ops (news r) st) <| nthK ops i fun o => guardK sz ops o st (fun st => opK P tt sz st o fun st => keepsH st.hp hpS ∧ (∀ f, f ∈ fxS → f ∈ st.fx) ∧ planKN P tt sz ops hpS fxS r st k)
      (fun st => putK sz o.dst (.tup []) st fun st => planKN P tt sz ops hpS fxS r st k)
  | .last i :: r, st, k => checkK (freeSl tt sz ops (news r) st) <| nthK ops i fun o => guardK sz ops o st (fun st => opK P tt sz st o fun st => planKN P tt sz ops hpS fxS r st k)
      (fun st => putK sz o.dst (.tup []) st fun st => planKN P tt sz ops hpS fxS r st k)
  | .new i :: r, st, k => checkK (freeSl tt sz ops (i :: news r) st) <| nthK ops i fun o => (match o.op with
      | .alloc T => tyK tt T fun ti => newK (.cells ti.zero T) st fun r' st => putK sz o.dst (.p r' 0) st fun st => planKN P tt sz ops hpS fxS r st k
      | _ => False)

theorem Oper.wp_slots {P : Program} {o : Oper} {a : Act} {w : World} {K : Act → World → Prop} {Q : Exit → Act → World → Prop} (hh : o.wp P a w K Q) : o.wp P a w (fun a' w' => K a' w' ∧ ∀ t, o.dst ≠ some t → a'.tmps[t]? = a.tmps[t]?) Q := by
  have put : ∀ (b : Act) (v : Value), b.tmps = a.tmps → ∀ t, o.dst ≠ some t → (b.put o.dst v).tmps[t]? = a.tmps[t]? := by
    intro b v hb t ht
    cases hd : o.dst with
    | none => simp [Act.put, hb]
    | some d =>
      have : d ≠ t := fun e => ht (by rw [hd, e])
      simp [Act.put, hb, Array.getElem?_setIfInBounds, this]
  unfold Oper.wp at *
  generalize (execOp a.eval o).run P w = r at *
  cases r with
  | ok n w' =>
    cases n <;> simp only [Oper.upon] at hh ⊢ <;>
      first
        | exact ⟨hh, put _ _ rfl⟩
        | exact Calls.mono hh (fun e w'' he => by cases e <;> first | exact ⟨he, put _ _ rfl⟩ | exact he)
        | exact Rows.mono hh (fun _ _ he => ⟨he, put _ _ rfl⟩)
  | halt x w' => cases x <;> simp only [Oper.upon] at hh ⊢ <;> exact hh
/-- Variables that are made already, of those that a plan makes later. -/
structure Gh (tt : List (Option TI)) (ops : List Oper) (G : List Nat) (β : Nat → Nat) (B : Bs) (F : Nat → Nat → Prop) (st : SS) (a : Act) (w : World) : Prop where
  at_ : ∀ j ∈ G, ∃ o T t ti, ops[j]? = some o ∧ o.op = .alloc T ∧ o.dst = some t ∧ tt[T]? = some (some ti) ∧ a.tmps[t]? = some (.pointer (some ⟨β j, 0, none⟩)) ∧ ∀ ρ, CellsAt w (β j) (denL ρ ti.zero) T
  lt : ∀ j ∈ G, β j < w.heap.size
  own : ∀ j ∈ G, ¬ Own st.hp F (β j)
  fx : ∀ j ∈ G, ∀ f ∈ st.fx, ¬ f.G (β j)
  inj : ∀ i ∈ G, ∀ j ∈ G, β i = β j → i = j
  new : ∀ j ∈ G, B.w0.heap.size ≤ β j
theorem Gh.step {tt : List (Option TI)} {ops : List Oper} {G G' : List Nat} {β : Nat → Nat} {B : Bs} {F F' : Nat → Nat → Prop} {st st' : SS} {a a' : Act} {w w' : World} {ρ ρ' : Nat → Nat} {sz : Nat} (h : Gh tt ops G β B F st a w)
    (ho : OkAt ⟨st.nx, ρ, w, Own st.hp F, st.fx⟩ ρ' F' st' sz a' w') (hG : ∀ j, j ∈ G' → j ∈ G) (ha : ∀ j ∈ G', ∀ o, ops[j]? = some o → ∀ t, o.dst = some t → a'.tmps[t]? = a.tmps[t]?) : Gh tt ops G' β B F' st' a' w' := by
  have blk : ∀ j ∈ G', w'.heap[β j]? = w.heap[β j]? := fun j hj => ho.keeps.block _ (h.lt j (hG j hj)) (h.own j (hG j hj))
  refine ⟨fun j hj => ?_, fun j hj => Nat.lt_of_lt_of_le (h.lt j (hG j hj)) ho.keeps.size, fun j hj hu => ?_, fun j hj f hf hg => ?_, fun i hi j hj e => h.inj i (hG i hi) j (hG j hj) e, fun j hj => h.new j (hG j hj)⟩
  · obtain ⟨o, T, t, ti, h1, h2, h3, h4, h5, h6⟩ := h.at_ j (hG j hj)
    exact ⟨o, T, t, ti, h1, h2, h3, h4, by rw [ha j hj o h1 t h3]; exact h5, fun ρ => (h6 ρ).loc (blk j hj)⟩
  · rcases ho.own _ hu with h1 | h1
    · exact h.own j (hG j hj) h1
    · have := h.lt j (hG j hj); simp at h1; omega
  · rcases ho.facts f hf with h1 | h1
    · exact h.fx j (hG j hj) f h1 hg
    · rcases h1 _ hg with h2 | h2
      · exact h.own j (hG j hj) h2
      · have := h.lt j (hG j hj); simp at h2; omega
/-- What a load may lean on, where variables are made, too. -/
def SHB (ρ : Nat → Nat) (hpS : List (Nat × SObj)) (fx : List Fact) (w : World) : Prop := SH ρ hpS fx w ∧ (∀ r o, (r, o) ∈ hpS → ρ r < w.heap.size) ∧ ∀ f, f ∈ fx → ∀ k, f.G k → k < w.heap.size
theorem SHB.of_ok {B : Bs} {ρ ρ0 : Nat → Nat} {F : Nat → Nat → Prop} {st : SS} {sz : Nat} {a : Act} {w : World} (h : OkAt B ρ F st sz a w) {hpS : List (Nat × SObj)} {n : Nat} {fxS : List Fact} (hag : Ag n ρ0 ρ) (hsc : idsH n hpS = true)
    (hm : ∀ r o, (r, o) ∈ hpS → (r, o) ∈ st.hp) (hf : ∀ f, f ∈ fxS → f ∈ st.fx) : SHB ρ0 hpS fxS w := by
  have h1 := SH.of_ok h hag hsc hm hf
  refine ⟨h1, fun r o ho => ?_, fun f hf' k hk => ((h.heap.shape.fact f (hf f hf')).2 k hk).2⟩
  have h3 := h.heap.obj ρ (Ag.refl _ _) r o (hm r o ho)
  have h2 := (idsH_mem hsc ho)
  rw [← hag r h2.1]
  refine h.heap.shape.bnd r o (hm r o ho) _ ?_
  cases o with
  | abs A => simp [idsO] at h2
  | cells cs T => exact (h3.1 _).2 rfl
  | row cs T => exact (h3.1 _).2 rfl
  | map es clk => exact (h3.1 _).2 rfl
  | iter mr since seen stepped => exact (h3.1 _).2 rfl
theorem SHB.alloc {ρ : Nat → Nat} {hpS : List (Nat × SObj)} {fx : List Fact} {w : World} (h : SHB ρ hpS fx w) (ob : Obj) : SHB ρ hpS fx (w.alloc ob) := by
  refine ⟨⟨fun r o ho => (h.1.1 r o ho).loc fun k hk => ?_, fun f hf => f.loc (h.1.2 f hf) fun k hk => heap_alloc_old w ob k (h.2.2 f hf k hk)⟩, fun r o ho => ?_, fun f hf k hk => ?_⟩
  · have hk : k = ρ r := hk
    subst hk
    exact heap_alloc_old w ob _ (h.2.1 r o ho)
  · have := h.2.1 r o ho; simp; omega
  · have := h.2.2 f hf k hk; simp; omega
end Go.Proofs.Ytekgjjanikicnaa.Sx
