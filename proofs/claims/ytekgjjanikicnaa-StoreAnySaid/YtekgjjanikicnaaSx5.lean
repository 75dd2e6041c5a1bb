/- A symbolic executor for the model's code, part 5: how a state of slots and regions is carried from world to world. -/
import Derived.Test.YtekgjjanikicnaaSx4
namespace Go.Proofs.Ytekgjjanikicnaa.Sx
open Go
set_option linter.unusedVariables false
set_option linter.unusedSimpArgs false

def Ag (n : Nat) (ρ ρ' : Nat → Nat) : Prop := ∀ r, r < n → ρ' r = ρ r
theorem Ag.refl (n : Nat) (ρ : Nat → Nat) : Ag n ρ ρ := fun _ _ => rfl
theorem Ag.trans {n m : Nat} {a b c : Nat → Nat} (h : Ag n a b) (k : Ag m b c) (hn : n ≤ m) : Ag n a c := fun r hr => (k r (by omega)).trans (h r hr)
theorem Ag.mono {n m : Nat} {a b : Nat → Nat} (h : Ag m a b) (hn : n ≤ m) : Ag n a b := fun r hr => h r (by omega)
structure HpOk (ρ : Nat → Nat) (F : Nat → Nat → Prop) (hp : List (Nat × SObj)) (nx : Nat) (fx : List Fact) (w : World) : Prop where
  obj : ∀ ρ', Ag nx ρ ρ' → ∀ r o, (r, o) ∈ hp → ObjOk ρ' o w (ρ' r) (F r)
  shape : Shape F hp nx fx w
structure Bs where
  n0 : Nat
  ρ0 : Nat → Nat
  w0 : World
  U0 : Nat → Prop
  fx0 : List Fact
structure OkAt (B : Bs) (ρ : Nat → Nat) (F : Nat → Nat → Prop) (st : SS) (sz : Nat) (a : Act) (w : World) : Prop where
  slot : ∀ ρ', Ag st.nx ρ ρ' → ∀ t x, (t, x) ∈ st.sl → a.tmps[t]? = some (den ρ' x)
  heap : HpOk ρ F st.hp st.nx st.fx w
  size : a.tmps.size = sz
  base : Ag B.n0 B.ρ0 ρ
  n0 : B.n0 ≤ st.nx
  keeps : Keeps B.U0 B.w0 w
  own : ∀ k, Own st.hp F k → B.U0 k ∨ B.w0.heap.size ≤ k
  facts : ∀ f, f ∈ st.fx → f ∈ B.fx0 ∨ ∀ k, f.G k → B.U0 k ∨ B.w0.heap.size ≤ k
  defers : a.defers = []
theorem OkAt.toBase {B : Bs} {ρ : Nat → Nat} {F : Nat → Nat → Prop} {st : SS} {sz : Nat} {a : Act} {w : World} (h : OkAt B ρ F st sz a w) {ρ' : Nat → Nat} (hr : Ag st.nx ρ ρ') : Base ρ' F st a w :=
  ⟨h.slot ρ' hr, h.heap.obj ρ' hr⟩
/-- What is yielded does not hang on regions that are not there yet. -/
theorem Yl.robust {P : Program} {st : SS} {o : Oper} {y : SV} (hy : Yl P st o y) {B : Bs} {ρ : Nat → Nat} {F : Nat → Nat → Prop} {sz : Nat} {a : Act} {w : World} (h : OkAt B ρ F st sz a w) {ρ' : Nat → Nat} (hr : Ag st.nx ρ ρ') : den ρ' y = den ρ y := by
  have h1 := hy ρ' F a w (h.toBase hr) h.heap.shape.fok
  have h2 := hy ρ F a w (h.toBase (Ag.refl _ _)) h.heap.shape.fok
  rw [h1] at h2
  simpa using h2

def updR {α : Type} (ρ : Nat → α) (n : Nat) (b : α) : Nat → α := fun r => if r = n then b else ρ r
theorem updR_same {α : Type} (ρ : Nat → α) (n : Nat) (b : α) : updR ρ n b n = b := if_pos rfl
theorem updR_ne {α : Type} (ρ : Nat → α) {n r : Nat} (b : α) (h : r ≠ n) : updR ρ n b r = ρ r := if_neg h
theorem Ag.updR {n : Nat} (ρ : Nat → Nat) (b : Nat) : Ag n ρ (updR ρ n b) := fun _ hr => updR_ne ρ b (by omega)
theorem CellsAt.loc {w w' : World} {b : Nat} {cs : List Value} {T : TypeId} (h : CellsAt w b cs T) (e : w'.heap[b]? = w.heap[b]?) : CellsAt w' b cs T := by
  obtain ⟨fz, h1, h2⟩ := h; exact ⟨fz, by rw [e]; exact h1, h2⟩
theorem ObjOk.loc {ρ : Nat → Nat} {o : SObj} {w w' : World} {b : Nat} {F : Nat → Prop} (h : ObjOk ρ o w b F) (e : ∀ k, F k → w'.heap[k]? = w.heap[k]?) : ObjOk ρ o w' b F := by
  cases o with
  | cells cs T => exact ⟨h.1, h.2.loc (e b ((h.1 b).2 rfl))⟩
  | row cs T => exact ⟨h.1, h.2.loc (e b ((h.1 b).2 rfl))⟩
  | map es clk => exact ⟨h.1, by rw [e b ((h.1 b).2 rfl)]; exact h.2⟩
  | iter mr since seen stepped => exact ⟨h.1, by rw [e b ((h.1 b).2 rfl)]; exact h.2⟩
  | abs A => exact A.loc h e

theorem Own.mono {hp hp' : List (Nat × SObj)} {F : Nat → Nat → Prop} (h : ∀ e, e ∈ hp → e ∈ hp') {k : Nat} (ho : Own hp F k) : Own hp' F k := by
  obtain ⟨r, o, h1, h2⟩ := ho; exact ⟨r, o, h _ h1, h2⟩

/-- A world in which only blocks that are not owned any more have turned, and a new region. -/
theorem HpOk.new {ρ : Nat → Nat} {F : Nat → Nat → Prop} {hp hp1 : List (Nat × SObj)} {nx : Nat} {fx : List Fact} {w w' : World} (h : HpOk ρ F hp nx fx w)
    (hsub : ∀ e, e ∈ hp1 → e ∈ hp) {U : Nat → Prop} (hk : Keeps U w w') (hU : ∀ k, U k → Own hp F k) (hU1 : ∀ k, U k → ¬ Own hp1 F k)
    {o : SObj} {b : Nat} {G : Nat → Prop} (ho : ∀ ρ', Ag nx ρ ρ' → ObjOk ρ' o w' b G) (hG : ∀ k, G k → (Own hp F k ∧ ¬ Own hp1 F k) ∨ w.heap.size ≤ k) (hG' : ∀ k, G k → k < w'.heap.size) :
    HpOk (updR ρ nx b) (updR F nx G) ((nx, o) :: hp1) (nx + 1) fx w' := by
  have lt1 : ∀ r x, (r, x) ∈ hp1 → r < nx := fun r x hm => h.shape.lt r x (hsub _ hm)
  have own1 : ∀ r x, (r, x) ∈ hp1 → ∀ k, F r k → Own hp1 F k := fun r x hm k hF => ⟨r, x, hm, hF⟩
  refine ⟨fun ρ' hr r x hm => ?_, ?_, ?_, ?_, ?_⟩
  · have hag : Ag nx ρ ρ' := fun j hj => by rw [hr j (by omega), updR_ne _ _ (by omega)]
    rcases List.mem_cons.1 hm with e | hm
    · cases e
      have hb : ρ' nx = b := by rw [hr nx (by omega), updR_same]
      rw [hb, updR_same]
      exact ho ρ' hag
    · rw [updR_ne _ _ (by have := lt1 r x hm; omega)]
      refine (h.obj ρ' hag r x (hsub _ hm)).loc fun k hF => hk.block k (h.shape.bnd r x (hsub _ hm) k hF) fun hu => hU1 k hu (own1 r x hm k hF)
  · intro r x hm
    rcases List.mem_cons.1 hm with e | hm
    · cases e; omega
    · have := lt1 r x hm; omega
  · intro r x r' x' hm hm' hne k
    rcases List.mem_cons.1 hm with e | hm <;> rcases List.mem_cons.1 hm' with e' | hm'
    · cases e; cases e'; exact absurd rfl hne
    · cases e
      have hlt := lt1 r' x' hm'
      rw [updR_same, updR_ne _ _ (by omega)]
      intro hg hf
      rcases hG k hg with h1 | h1
      · exact h1.2 (own1 r' x' hm' k hf)
      · have := h.shape.bnd r' x' (hsub _ hm') k hf; omega
    · cases e'
      have hlt := lt1 r x hm
      rw [updR_same, updR_ne _ _ (by omega)]
      intro hf hg
      rcases hG k hg with h1 | h1
      · exact h1.2 (own1 r x hm k hf)
      · have := h.shape.bnd r x (hsub _ hm) k hf; omega
    · have hlt := lt1 r x hm
      have hlt' := lt1 r' x' hm'
      rw [updR_ne _ _ (by omega), updR_ne _ _ (by omega)]
      exact h.shape.dis r x r' x' (hsub _ hm) (hsub _ hm') hne k
  · intro r x hm k
    rcases List.mem_cons.1 hm with e | hm
    · cases e; rw [updR_same]; exact hG' k
    · have hlt := lt1 r x hm
      rw [updR_ne _ _ (by omega)]
      intro hf
      have := h.shape.bnd r x (hsub _ hm) k hf
      have := hk.size
      omega
  · intro f hf
    refine f.mono (h.shape.fact f hf) (hk.mono hU) fun k hk' => ?_
    obtain ⟨r, x, hm, hF⟩ := hk'
    rcases List.mem_cons.1 hm with e | hm
    · cases e
      rw [updR_same] at hF
      exact (hG k hF).imp (fun h1 => h1.1) id
    · have hlt := lt1 r x hm
      rw [updR_ne _ _ (by omega)] at hF
      exact .inl ⟨r, x, hsub _ hm, hF⟩
theorem own_new {F : Nat → Nat → Prop} {hp1 : List (Nat × SObj)} {nx : Nat} {o : SObj} {G : Nat → Prop} (lt1 : ∀ r x, (r, x) ∈ hp1 → r < nx) {k : Nat}
    (h : Own ((nx, o) :: hp1) (updR F nx G) k) : G k ∨ Own hp1 F k := by
  obtain ⟨r, x, hm, hF⟩ := h
  rcases List.mem_cons.1 hm with e | hm
  · cases e; rw [updR_same] at hF; exact .inl hF
  · have hlt := lt1 r x hm
    rw [updR_ne _ _ (by omega)] at hF
    exact .inr ⟨r, x, hm, hF⟩

/-- One region has turned, in its own blocks alone. -/
theorem HpOk.upd {ρ : Nat → Nat} {F : Nat → Nat → Prop} {hp hp1 : List (Nat × SObj)} {nx : Nat} {fx : List Fact} {w w' : World} (h : HpOk ρ F hp nx fx w) {r0 : Nat} {o : SObj}
    (hm1 : ∀ r x, (r, x) ∈ hp1 → (r ≠ r0 ∧ (r, x) ∈ hp) ∨ (r = r0 ∧ x = o ∧ ∃ y, (r0, y) ∈ hp)) (hk : Keeps (F r0) w w') (hex : ∃ y, (r0, y) ∈ hp)
    (ho : ∀ ρ', Ag nx ρ ρ' → ObjOk ρ' o w' (ρ' r0) (F r0)) :
    HpOk ρ F hp1 nx fx w' ∧ ∀ k, Own hp1 F k → Own hp F k := by
  have hown : ∀ k, Own hp1 F k → Own hp F k := by
    intro k hk
    obtain ⟨r, x, hm, hF⟩ := hk
    rcases hm1 r x hm with ⟨_, h2⟩ | ⟨rfl, rfl, y, h2⟩
    · exact ⟨r, x, h2, hF⟩
    · exact ⟨r, y, h2, hF⟩
  obtain ⟨y0, hy0⟩ := hex
  have hk' : Keeps (Own hp F) w w' := hk.mono fun k hF => ⟨r0, y0, hy0, hF⟩
  refine ⟨⟨fun ρ' hr r x hm => ?_, ?_, ?_, ?_, ?_⟩, hown⟩
  · rcases hm1 r x hm with ⟨h1, h2⟩ | ⟨rfl, rfl, _⟩
    · exact (h.obj ρ' hr r x h2).loc fun k hF => hk.block k (h.shape.bnd r x h2 k hF) (h.shape.dis r x r0 y0 h2 hy0 h1 k hF)
    · exact ho ρ' hr
  · intro r x hm
    rcases hm1 r x hm with ⟨_, h2⟩ | ⟨rfl, _, y, h2⟩
    · exact h.shape.lt r x h2
    · exact h.shape.lt r y h2
  · intro r x r' x' hm hm' hne
    rcases hm1 r x hm with ⟨_, h2⟩ | ⟨rfl, _, y, h2⟩ <;> rcases hm1 r' x' hm' with ⟨_, h2'⟩ | ⟨rfl, _, y', h2'⟩
    · exact h.shape.dis r x r' x' h2 h2' hne
    · exact h.shape.dis r x r' y' h2 h2' hne
    · exact h.shape.dis r y r' x' h2 h2' hne
    · exact absurd rfl hne
  · intro r x hm k hF
    have := hk.size
    rcases hm1 r x hm with ⟨_, h2⟩ | ⟨rfl, _, y, h2⟩
    · have := h.shape.bnd r x h2 k hF; omega
    · have := h.shape.bnd r y h2 k hF; omega
  · exact fun f hf => f.mono (h.shape.fact f hf) hk' fun k hk => .inl (hown k hk)

/-! ### Slots that are written -/
def insK (t : Nat) (x : SV) : List (Nat × SV) → (List (Nat × SV) → Prop) → Prop
  | [], k => k [(t, x)]
  | (t', y) :: r, k => match Nat.beq t t' with
    | true => delK' t r fun r => k ((t, x) :: r)
    | false => insK t x r fun r => k ((t', y) :: r)
where
  delK' (t : Nat) : List (Nat × SV) → (List (Nat × SV) → Prop) → Prop
  | [], k => k []
  | (t', y) :: r, k => match Nat.beq t t' with
    | true => delK' t r k
    | false => delK' t r fun r => k ((t', y) :: r)
theorem delK'_elim {t : Nat} : ∀ {sl : List (Nat × SV)} {k : List (Nat × SV) → Prop}, insK.delK' t sl k → ∃ sl', k sl' ∧ ∀ u y, (u, y) ∈ sl' → u ≠ t ∧ (u, y) ∈ sl
  | [], k, h => ⟨[], h, fun u y hm => by cases hm⟩
  | (t', y) :: r, k, h => by
    unfold insK.delK' at h
    split at h
    · obtain ⟨l, h1, h2⟩ := delK'_elim h
      exact ⟨l, h1, fun u z hm => ⟨(h2 u z hm).1, List.mem_cons_of_mem _ (h2 u z hm).2⟩⟩
    · rename_i hne
      obtain ⟨l, h1, h2⟩ := delK'_elim h
      refine ⟨_, h1, fun u z hm => ?_⟩
      rcases List.mem_cons.1 hm with e | hm
      · cases e
        exact ⟨fun e => by subst e; simp at hne, List.mem_cons_self ..⟩
      · exact ⟨(h2 u z hm).1, List.mem_cons_of_mem _ (h2 u z hm).2⟩
theorem insK_elim {t : Nat} {x : SV} : ∀ {sl : List (Nat × SV)} {k : List (Nat × SV) → Prop}, insK t x sl k → ∃ sl', k sl' ∧ ∀ u y, (u, y) ∈ sl' → (u = t ∧ y = x) ∨ (u ≠ t ∧ (u, y) ∈ sl)
  | [], k, h => ⟨_, h, fun u y hm => by simp at hm; exact .inl hm⟩
  | (t', y) :: r, k, h => by
    unfold insK at h
    split at h
    · rename_i he
      have : t = t' := Nat.eq_of_beq_eq_true he
      subst this
      obtain ⟨l, h1, h2⟩ := delK'_elim h
      refine ⟨_, h1, fun u z hm => ?_⟩
      rcases List.mem_cons.1 hm with e | hm
      · cases e; exact .inl ⟨rfl, rfl⟩
      · exact .inr ⟨(h2 u z hm).1, List.mem_cons_of_mem _ (h2 u z hm).2⟩
    · rename_i hne
      obtain ⟨l, h1, h2⟩ := insK_elim h
      refine ⟨_, h1, fun u z hm => ?_⟩
      rcases List.mem_cons.1 hm with e | hm
      · cases e
        exact .inr ⟨fun e => by subst e; simp at hne, List.mem_cons_self ..⟩
      · exact (h2 u z hm).imp id (fun h => ⟨h.1, List.mem_cons_of_mem _ h.2⟩)
def putK (sz : Nat) (d : Option Tmp) (x : SV) (st : SS) (k : SS → Prop) : Prop :=
  match d with
  | none => k st
  | some t => match Nat.blt t sz with
    | true => match st with
      | ⟨sl, hp, nx, fx⟩ => insK t x sl fun sl => k ⟨sl, hp, nx, fx⟩
    | false => False
def delK (sz : Nat) (d : Option Tmp) (st : SS) (k : SS → Prop) : Prop :=
  match d with
  | none => k st
  | some t => match Nat.blt t sz with
    | true => match st with
      | ⟨sl, hp, nx, fx⟩ => insK.delK' t sl fun sl => k ⟨sl, hp, nx, fx⟩
    | false => False
theorem putK_elim {sz : Nat} {d : Option Tmp} {x : SV} {st : SS} {k : SS → Prop} (h : putK sz d x st k) {B : Bs} {ρ : Nat → Nat} {F : Nat → Nat → Prop} {a : Act} {w : World}
    (ho : OkAt B ρ F st sz a w) (hx : ∀ ρ', Ag st.nx ρ ρ' → den ρ' x = den ρ x) : ∃ st', k st' ∧ OkAt B ρ F st' sz (a.put d (den ρ x)) w := by
  cases d with
  | none => exact ⟨st, h, ho⟩
  | some t =>
    unfold putK at h
    simp only at h
    split at h
    · rename_i hlt
      have hlt : t < sz := by simpa [Nat.blt_eq] using hlt
      obtain ⟨sl, hp, nx, fx⟩ := st
      obtain ⟨sl', h1, h2⟩ := insK_elim h
      refine ⟨_, h1, ?_, ho.heap, by simp [Act.put, ho.size], ho.base, ho.n0, ho.keeps, ho.own, ho.facts, by simpa [Act.put] using ho.defers⟩
      intro ρ' hr u y hm
      rcases h2 u y hm with ⟨rfl, rfl⟩ | ⟨h3, h4⟩
      · simp [Act.put, ho.size, hlt, hx ρ' hr]
      · have := ho.slot ρ' hr u y h4
        simp only [Act.put]
        rw [Array.getElem?_setIfInBounds_ne (Ne.symm h3)]
        exact this
    · exact h.elim
theorem delK_elim {sz : Nat} {d : Option Tmp} {x : Value} {st : SS} {k : SS → Prop} (h : delK sz d st k) {B : Bs} {ρ : Nat → Nat} {F : Nat → Nat → Prop} {a : Act} {w : World}
    (ho : OkAt B ρ F st sz a w) : ∃ st', k st' ∧ OkAt B ρ F st' sz (a.put d x) w := by
  cases d with
  | none => exact ⟨st, h, ho⟩
  | some t =>
    unfold delK at h
    simp only at h
    split at h
    · obtain ⟨sl, hp, nx, fx⟩ := st
      obtain ⟨sl', h1, h2⟩ := delK'_elim h
      refine ⟨_, h1, ?_, ho.heap, by simp [Act.put, ho.size], ho.base, ho.n0, ho.keeps, ho.own, ho.facts, by simpa [Act.put] using ho.defers⟩
      intro ρ' hr u y hm
      obtain ⟨h3, h4⟩ := h2 u y hm
      have := ho.slot ρ' hr u y h4
      simp only [Act.put]
      rw [Array.getElem?_setIfInBounds_ne (Ne.symm h3)]
      exact this
    · exact h.elim

/-! ### What an operation that turns the world is shown to do -/
/-- From whatever fits st: it yields y and leaves what fits st', with Kf y st'. -/
def Stp (P : Program) (st : SS) (o : Oper) (Kf : SV → SS → Prop) : Prop :=
  ∀ ρ F a w, (∀ ρ', Ag st.nx ρ ρ' → Base ρ' F st a w) → HpOk ρ F st.hp st.nx st.fx w →
    ∃ y hp' nx' ρ' F' w', Kf y ⟨st.sl, hp', nx', st.fx⟩ ∧ ((execOp a.eval o).run P w = .ok (.value (den ρ' y)) w' ∨ (o.dst = none ∧ (execOp a.eval o).run P w = .ok .skip w')) ∧
      (∀ ρ'', Ag nx' ρ' ρ'' → den ρ'' y = den ρ' y) ∧ HpOk ρ' F' hp' nx' st.fx w' ∧ Ag st.nx ρ ρ' ∧ st.nx ≤ nx' ∧ Keeps (Own st.hp F) w w' ∧ (∀ k, Own hp' F' k → Own st.hp F k ∨ w.heap.size ≤ k)
theorem OkAt.step {B : Bs} {ρ : Nat → Nat} {F : Nat → Nat → Prop} {st : SS} {sz : Nat} {a : Act} {w : World} (h : OkAt B ρ F st sz a w) {hp' : List (Nat × SObj)} {nx' : Nat} {fx' : List Fact} {ρ' : Nat → Nat} {F' : Nat → Nat → Prop} {w' : World}
    (h1 : HpOk ρ' F' hp' nx' fx' w') (h2 : Ag st.nx ρ ρ') (h3 : st.nx ≤ nx') (h4 : Keeps (Own st.hp F) w w') (h5 : ∀ k, Own hp' F' k → Own st.hp F k ∨ w.heap.size ≤ k)
    (h6 : ∀ f, f ∈ fx' → f ∈ st.fx ∨ ∀ k, f.G k → Own st.hp F k ∨ w.heap.size ≤ k) :
    OkAt B ρ' F' ⟨st.sl, hp', nx', fx'⟩ sz a w' := by
  refine ⟨fun ρ'' hr t x hm => h.slot ρ'' (h2.trans hr h3) t x hm, h1, h.size, fun r hr => (h2 r (Nat.lt_of_lt_of_le hr h.n0)).trans (h.base r hr), Nat.le_trans h.n0 h3, ?_, ?_, ?_, h.defers⟩
  · exact h.keeps.trans h4 h.own
  · intro k hk
    rcases h5 k hk with h6 | h6
    · exact h.own k h6
    · have := h.keeps.size; exact .inr (by omega)
  · intro f hf
    rcases h6 f hf with h7 | h7
    · exact h.facts f h7
    · refine .inr fun k hk => ?_
      rcases h7 k hk with h8 | h8
      · exact h.own k h8
      · have := h.keeps.size; exact .inr (by omega)
end Go.Proofs.Ytekgjjanikicnaa.Sx
