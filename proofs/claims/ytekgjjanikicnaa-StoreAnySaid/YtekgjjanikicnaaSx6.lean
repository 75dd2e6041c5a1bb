/- A symbolic executor for the model's code, part 6: new blocks, stores, values that are built of parts. -/
import Derived.Test.YtekgjjanikicnaaSx5
namespace Go.Proofs.Ytekgjjanikicnaa.Sx
open Go
set_option linter.unusedVariables false
set_option linter.unusedSimpArgs false

/-! ### A new block -/
theorem heap_alloc_old (w : World) (o : Obj) (i : Nat) (h : i < w.heap.size) : (w.alloc o).heap[i]? = w.heap[i]? := by
  show (w.heap.push o)[i]? = w.heap[i]?
  rw [Array.getElem?_push, if_neg (Nat.ne_of_lt h)]
theorem keeps_alloc (U : Nat → Prop) (w : World) (o : Obj) : Keeps U w (w.alloc o) :=
  ⟨rfl, rfl, rfl, by simp, fun k hk _ => heap_alloc_old w o k hk⟩
theorem HpOk.alloc {ρ : Nat → Nat} {F : Nat → Nat → Prop} {hp : List (Nat × SObj)} {nx : Nat} {fx : List Fact} {w : World} (h : HpOk ρ F hp nx fx w) {o : SObj} {ob : Obj}
    (ho : ∀ ρ', Ag nx ρ ρ' → ObjOk ρ' o (w.alloc ob) w.heap.size (fun k => k = w.heap.size)) :
    HpOk (updR ρ nx w.heap.size) (updR F nx (fun k => k = w.heap.size)) ((nx, o) :: hp) (nx + 1) fx (w.alloc ob) ∧
      ∀ k, Own ((nx, o) :: hp) (updR F nx (fun k => k = w.heap.size)) k → Own hp F k ∨ w.heap.size ≤ k := by
  refine ⟨h.new (hp1 := hp) (fun _ he => he) (keeps_alloc (fun _ => False) w ob) (fun _ hk => hk.elim) (fun _ hk => hk.elim) ho (fun k hk => .inr (Nat.le_of_eq hk.symm)) (fun k hk => by simp [hk]), fun k hk => ?_⟩
  rcases own_new h.shape.lt hk with h1 | h1
  · exact .inr (Nat.le_of_eq h1.symm)
  · exact .inl h1
theorem cellsAt_alloc (w : World) (cs : List Value) (T : TypeId) : CellsAt (w.alloc (.cells cs.toArray T)) w.heap.size cs T :=
  ⟨(0, 0), heap_alloc_new w _, .inl rfl⟩
def newK (o : SObj) (st : SS) (k : Nat → SS → Prop) : Prop :=
  match st with
  | ⟨sl, hp, nx, fx⟩ => forceN (nx + 1) fun n1 => k nx ⟨sl, (nx, o) :: hp, n1, fx⟩
theorem newK_elim {o : SObj} {st : SS} {k : Nat → SS → Prop} (h : newK o st k) : k st.nx ⟨st.sl, (st.nx, o) :: st.hp, st.nx + 1, st.fx⟩ := by
  cases st; simp only [newK] at h; exact forceN_elim (k := fun n1 => k _ ⟨_, _, n1, _⟩) h
/-- A new block of cells: what is yielded is at it. -/
theorem Stp.alloc {P : Program} {st : SS} {o : Oper} {Kf : SV → SS → Prop} {ob : SObj} {y : SV} (h : Kf y ⟨st.sl, (st.nx, ob) :: st.hp, st.nx + 1, st.fx⟩)
    (hr : ∀ ρ F a w, (∀ ρ', Ag st.nx ρ ρ' → Base ρ' F st a w) → HpOk ρ F st.hp st.nx st.fx w → ∃ cs T, (∀ ρ', Ag st.nx ρ ρ' → ObjOk ρ' ob (w.alloc (.cells cs T)) w.heap.size (fun k => k = w.heap.size)) ∧
      ∃ A, (∀ ρ', ρ' st.nx = w.heap.size → den ρ' y = A) ∧ (execOp a.eval o).run P w = .ok (.value A) (w.alloc (.cells cs T))) : Stp P st o Kf := by
  intro ρ F a w hb hh
  obtain ⟨cs, T, h1, A, h2, h3⟩ := hr ρ F a w hb hh
  obtain ⟨h4, h5⟩ := hh.alloc h1
  refine ⟨y, _, _, updR ρ st.nx w.heap.size, _, _, h, .inl ?_, ?_, h4, Ag.updR ρ _, by omega, keeps_alloc _ w _, h5⟩
  · rw [h3, h2 _ (updR_same ..)]
  · intro ρ'' hr
    rw [h2 _ (updR_same ..), h2 _ (by rw [hr st.nx (by omega), updR_same])]

/-! ### Splices -/
def splice {α : Type} (l : List α) (o : Nat) (n : List α) : List α := l.take o ++ n ++ l.drop (o + n.length)
theorem splice_length {α : Type} (l : List α) (o : Nat) (n : List α) (h : o + n.length ≤ l.length) : (splice l o n).length = l.length := by
  simp [splice]; omega
theorem splice_map {α β : Type} (f : α → β) (l : List α) (o : Nat) (n : List α) : (splice l o n).map f = splice (l.map f) o (n.map f) := by
  simp [splice, List.map_take, List.map_drop]
theorem splice_cons {α : Type} (l : List α) (o : Nat) (x : α) (r : List α) (h : o < l.length) : splice (l.set o x) (o + 1) r = splice l o (x :: r) := by
  unfold splice
  have h1 : (l.set o x).take (o + 1) = l.take o ++ [x] := by
    rw [List.take_succ_eq_append_getElem (by simpa using h), List.take_set_of_le (Nat.le_refl o)]
    simp
  have h2 : (l.set o x).drop (o + 1 + r.length) = l.drop (o + (x :: r).length) := by
    rw [List.drop_set_of_lt (by omega)]
    congr 1
    simp; omega
  rw [h1, h2]
  simp
theorem splice_nil {α : Type} (l : List α) (o : Nat) : splice l o [] = l := by simp [splice]
def overS : List SV → List SV → (List SV → Prop) → Prop
  | cs, [], k => k cs
  | _ :: cs, n :: new, k => overS cs new fun l => k (n :: l)
  | [], _ :: _, _ => False
def spliceS : List SV → Nat → List SV → (List SV → Prop) → Prop
  | cs, 0, new, k => overS cs new k
  | c :: cs, o + 1, new, k => spliceS cs o new fun l => k (c :: l)
  | [], _ + 1, _, _ => False
theorem overS_elim : ∀ {cs new : List SV} {k : List SV → Prop}, overS cs new k → new.length ≤ cs.length ∧ k (splice cs 0 new)
  | cs, [], k, h => ⟨Nat.zero_le _, by rw [splice_nil]; simpa [overS] using h⟩
  | c :: cs, n :: new, k, h => by
    obtain ⟨h1, h2⟩ := overS_elim (cs := cs) (new := new) h
    exact ⟨by simpa using h1, by simpa [splice] using h2⟩
  | [], _ :: _, k, h => h.elim
theorem spliceS_elim : ∀ {cs : List SV} {o : Nat} {new : List SV} {k : List SV → Prop}, spliceS cs o new k → o + new.length ≤ cs.length ∧ k (splice cs o new)
  | cs, 0, new, k, h => by
    obtain ⟨h1, h2⟩ := overS_elim (cs := cs) (by simpa [spliceS] using h)
    exact ⟨by omega, h2⟩
  | c :: cs, o + 1, new, k, h => by
    obtain ⟨h1, h2⟩ := spliceS_elim (cs := cs) (o := o) h
    refine ⟨by simp; omega, ?_⟩
    have : splice (c :: cs) (o + 1) new = c :: splice cs o new := by
      simp [splice, Nat.add_right_comm o 1]
    rw [this]; exact h2
  | [], _ + 1, _, k, h => h.elim

/-! ### store -/
theorem addr_add_at (b o i : Nat) : (⟨b, o, none⟩ : Addr).add i = ⟨b, o + i, none⟩ := add_at b o i
theorem run_storeCells_row {P : Program} {g : Nat} {e : TypeId} {fz : Nat × Nat} : ∀ (news : List Value) (o i : Nat) (cur : List Value) (w : World), w.heap[g]? = some (.cells cur.toArray e fz) → o + i + news.length ≤ cur.length →
    (∀ j, j < cur.length → ¬ (fz.1 ≤ j ∧ j < fz.2)) → (∀ u ∈ news, u.oneCell' = true) →
    ∃ w', (storeCells ⟨g, o, none⟩ news i).run P w = .ok () w' ∧ w'.heap[g]? = some (.cells (splice cur (o + i) news).toArray e fz) ∧ Keeps (fun k => k = g) w w'
  | [], o, i, cur, w, hg, hl, hf, h1 => ⟨w, by simp [storeCells], by rw [splice_nil]; exact hg, Keeps.refl _ _⟩
  | x :: r, o, i, cur, w, hg, hl, hf, h1 => by
    have hlt : o + i < cur.length := by simp at hl; omega
    have hc : w.cell? ((⟨g, o, none⟩ : Addr).add i) = some cur[o + i] := by
      rw [add_at, cell_of_row w g _ _ e fz hg]; simp [hlt]
    have hfz : w.frozen? ((⟨g, o, none⟩ : Addr).add i) = false := by
      rw [add_at]
      have := hf (o + i) hlt
      simp only [World.frozen?, hg]
      simp only [Bool.and_eq_false_iff, decide_eq_false_iff_not]
      by_cases hh : fz.1 ≤ o + i
      · exact .inr (fun h => this ⟨hh, h⟩)
      · exact .inl hh
    have hx := h1 x (List.mem_cons_self ..)
    have hst := run_store P w ((⟨g, o, none⟩ : Addr).add i) x .plain hx
    rw [hc] at hst
    simp only [hfz] at hst
    have hg' : (w.setCell ((⟨g, o, none⟩ : Addr).add i) x).heap[g]? = some (.cells (cur.set (o + i) x).toArray e fz) := by
      rw [add_at]
      simp only [World.setCell, Array.getElem?_modify, if_true, hg]
      simp
    obtain ⟨w', h2, h3, h4⟩ := run_storeCells_row r o (i + 1) (cur.set (o + i) x) _ hg' (by simp at hl ⊢; omega) (by simpa using hf) (fun u hu => h1 u (List.mem_cons_of_mem _ hu))
    refine ⟨w', ?_, ?_, ?_⟩
    · simp only [storeCells, Sem.run_bind]
      rw [hst]
      exact h2
    · rw [h3]
      congr 2
      have := splice_cons cur (o + i) x r hlt
      rw [← this]; rfl
    · have hk1 : Keeps (fun k => k = g) w (w.setCell ((⟨g, o, none⟩ : Addr).add i) x) := ⟨rfl, rfl, rfl, by simp, fun k _ hk => by
        rw [add_at]
        exact heap_setCell_other w _ k x (fun e => hk e)⟩
      exact hk1.trans h4 (fun j hj => .inl hj)
def oneK (x : SV) (k : Prop) : Prop :=
  match x with
  | .agg _ => False
  | .tup _ => False
  | .v (.agg _) => False
  | .v (.tuple _) => False
  | .v (.bool _) => k
  | .v (.int _ _) => k
  | .v (.string _) => k
  | .v (.pointer _) => k
  | .v (.slice _ _ _) => k
  | .v (.map _) => k
  | .v (.iface _ _) => k
  | .v .nilIface => k
  | .v .nilFunc => k
  | .v (.func _ _ _) => k
  | .v _ => False
  | _ => k
theorem oneK_elim {x : SV} {k : Prop} (h : oneK x k) : k ∧ ∀ ρ, (den ρ x).oneCell' = true := by
  unfold oneK at h
  split at h <;> first | exact h.elim | exact ⟨h, fun _ => rfl⟩ | skip
  rename_i h1 h2 h3 h4 h5 h6 h7 h8 h9 h10 h11 h12 h13 h14 h15
  refine ⟨h, fun ρ => ?_⟩
  cases x <;> first | rfl | simp_all
def onesK : List SV → Prop → Prop
  | [], k => k
  | x :: r, k => oneK x (onesK r k)
theorem onesK_elim : ∀ {l : List SV} {k : Prop}, onesK l k → k ∧ ∀ ρ, ∀ u ∈ denL ρ l, u.oneCell' = true
  | [], k, h => ⟨h, fun ρ u hu => by simp at hu⟩
  | x :: r, k, h => by
    obtain ⟨h1, h2⟩ := oneK_elim h
    obtain ⟨h3, h4⟩ := onesK_elim h1
    refine ⟨h3, fun ρ u hu => ?_⟩
    rcases List.mem_cons.1 hu with rfl | hu
    · exact h2 ρ
    · exact h4 ρ u hu
/-- The cells of a value. -/
def cellsK (x : SV) (k : List SV → Prop) : Prop :=
  match x with
  | .agg cs => onesK cs (k cs)
  | .v (.agg ⟨l⟩) => onesK (l.map SV.v) (k (l.map SV.v))
  | x => oneK x (k [x])
theorem cellsK_elim {x : SV} {k : List SV → Prop} (h : cellsK x k) : ∃ l, k l ∧ (∀ ρ, (den ρ x).cells.toList = denL ρ l) ∧ ∀ ρ, ∀ u ∈ denL ρ l, u.oneCell' = true := by
  unfold cellsK at h
  split at h
  · rename_i cs
    obtain ⟨h1, h2⟩ := onesK_elim h
    exact ⟨cs, h1, fun ρ => by simp [den, Value.cells], h2⟩
  · rename_i l
    obtain ⟨h1, h2⟩ := onesK_elim h
    exact ⟨l.map SV.v, h1, fun ρ => by simp [den, Value.cells, denL_mapv], h2⟩
  · obtain ⟨h1, h2⟩ := oneK_elim h
    refine ⟨_, h1, fun ρ => ?_, fun ρ u hu => by simp at hu; rw [hu]; exact h2 ρ⟩
    have h3 := h2 ρ
    simp only [denL_cons, denL_nil]
    generalize den ρ x = y at h3
    cases y <;> first | rfl | (simp [Value.oneCell'] at h3)
/-- A symbolic value that says itself what it is. -/
def setOK (r : Nat) (o : SObj) : List (Nat × SObj) → (List (Nat × SObj) → Prop) → Prop
  | [], k => k []
  | (r', x) :: l, k => match Nat.beq r r' with
    | true => setOK r o l fun l => k ((r, o) :: l)
    | false => setOK r o l fun l => k ((r', x) :: l)
theorem setOK_elim {r : Nat} {o : SObj} : ∀ {hp : List (Nat × SObj)} {k : List (Nat × SObj) → Prop}, setOK r o hp k → ∃ hp', k hp' ∧ ∀ j x, (j, x) ∈ hp' → (j ≠ r ∧ (j, x) ∈ hp) ∨ (j = r ∧ x = o ∧ ∃ y, (r, y) ∈ hp)
  | [], k, h => ⟨[], h, fun j x hm => by cases hm⟩
  | (r', y) :: l, k, h => by
    unfold setOK at h
    split at h
    · rename_i he
      have : r = r' := Nat.eq_of_beq_eq_true he
      subst this
      obtain ⟨l', h1, h2⟩ := setOK_elim h
      refine ⟨_, h1, fun j x hm => ?_⟩
      rcases List.mem_cons.1 hm with e | hm
      · cases e; exact .inr ⟨rfl, rfl, y, List.mem_cons_self ..⟩
      · exact (h2 j x hm).imp (fun h => ⟨h.1, List.mem_cons_of_mem _ h.2⟩) (fun h => ⟨h.1, h.2.1, h.2.2.imp fun _ h => List.mem_cons_of_mem _ h⟩)
    · rename_i hne
      obtain ⟨l', h1, h2⟩ := setOK_elim h
      refine ⟨_, h1, fun j x hm => ?_⟩
      rcases List.mem_cons.1 hm with e | hm
      · cases e; exact .inl ⟨fun e => by subst e; simp at hne, List.mem_cons_self ..⟩
      · exact (h2 j x hm).imp (fun h => ⟨h.1, List.mem_cons_of_mem _ h.2⟩) (fun h => ⟨h.1, h.2.1, h.2.2.imp fun _ h => List.mem_cons_of_mem _ h⟩)
def withO (r : Nat) (o : SObj) (st : SS) (k : SS → Prop) : Prop :=
  match st with
  | ⟨sl, hp, nx, fx⟩ => setOK r o hp fun hp => k ⟨sl, hp, nx, fx⟩
/-- An operation that turns one region, in its own blocks. -/
theorem Stp.upd {P : Program} {st : SS} {o : Oper} {Kf : SV → SS → Prop} {r : Nat} {ob ob' : SObj} {y : SV} (hm : (r, ob) ∈ st.hp) (h : withO r ob' st (Kf y))
    (hr : ∀ ρ F a w, (∀ ρ', Ag st.nx ρ ρ' → Base ρ' F st a w) → HpOk ρ F st.hp st.nx st.fx w → ∃ w', Keeps (F r) w w' ∧ (∀ ρ', Ag st.nx ρ ρ' → ObjOk ρ' ob' w' (ρ' r) (F r)) ∧
      (∀ ρ', Ag st.nx ρ ρ' → den ρ' y = den ρ y) ∧ ((execOp a.eval o).run P w = .ok (.value (den ρ y)) w' ∨ (o.dst = none ∧ (execOp a.eval o).run P w = .ok .skip w'))) : Stp P st o Kf := by
  intro ρ F a w hb hh
  obtain ⟨w', h1, h2, h3, h4⟩ := hr ρ F a w hb hh
  obtain ⟨sl, hp, nx, fx⟩ := st
  obtain ⟨hp', h5, h6⟩ := setOK_elim h
  obtain ⟨h7, h8⟩ := hh.upd h6 h1 ⟨_, hm⟩ h2
  exact ⟨y, hp', nx, ρ, F, w', h5, h4, h3, h7, Ag.refl _ _, Nat.le_refl _, h1.mono fun k hk => ⟨r, ob, hm, hk⟩, fun k hk => .inl (h8 k hk)⟩
def aggOk (a : Array Value) (n : Nat) : Prop := a.size = n ∧ ∀ u ∈ a.toList, u.oneCell' = true
/-- A whole struct, or array, laid into a region's cells. -/
def storeAggK (st : SS) (r o n : Nat) (a : Array Value) (k : SS → Prop) : Prop :=
  objK r st.hp fun ob => match ob with
    | .cells cs U => (match Nat.beq cs.length n with
      | true => aggOk a n ∧ (o = 0 ∧ cs.length = n) ∧ withO r (.row a.toList U) st k
      | false => aggOk a n ∧ spliceS cs o (a.toList.map SV.v) fun cs => withO r (.cells cs U) st k)
    | .row xs U => aggOk a n ∧ (o + n ≤ xs.length) ∧ withO r (.row (splice xs o a.toList) U) st k
    | _ => False
def storeK (tt : List (Option TI)) (st : SS) (T : TypeId) (p x : SV) (k : SS → Prop) : Prop :=
  tyK tt T fun ti => match x with
    | .v (.agg a) => (match p with
      | .p r o => storeAggK st r o ti.size a k
      | .q r o => storeAggK st r o ti.size a k
      | _ => False)
    | x => cellsK x fun l => match Nat.beq l.length ti.size with
      | true => (match p with
        | .p r o => objK r st.hp fun ob => (match ob with
          | .cells cs U => spliceS cs o l fun cs => withO r (.cells cs U) st k
          | .row xs U => plainsK l fun vs => (o + vs.length ≤ xs.length) ∧ withO r (.row (splice xs o vs) U) st k
          | _ => False)
        | .q r o => objK r st.hp fun ob => (match ob with
          | .row xs U => plainsK l fun vs => (o + vs.length ≤ xs.length) ∧ withO r (.row (splice xs o vs) U) st k
          | .cells cs U => (o + l.length ≤ cs.length) ∧ withO r (.cells (splice cs o l) U) st k
          | _ => False)
        | _ => False)
      | false => False
theorem cellsAt_store {P : Program} {w : World} {b o : Nat} {cs news : List Value} {U : TypeId} (h : CellsAt w b cs U) (hl : o + news.length ≤ cs.length) (h1 : ∀ u ∈ news, u.oneCell' = true) :
    ∃ w', (storeCells ⟨b, o, none⟩ news).run P w = .ok () w' ∧ CellsAt w' b (splice cs o news) U ∧ Keeps (fun k => k = b) w w' := by
  obtain ⟨fz, h2, h3⟩ := h
  obtain ⟨w', h4, h5, h6⟩ := run_storeCells_row (P := P) news o 0 cs w h2 (by omega) (fun j hj hh => by omega) h1
  exact ⟨w', h4, ⟨fz, h5, by rw [splice_length _ _ _ (by omega)]; exact h3⟩, h6⟩
theorem storeK_elim {P : Program} {tt : List (Option TI)} (ht : TOk P tt) {st : SS} {T : TypeId} {p x : SV} {k : SS → Prop} (h : storeK tt st T p x k) {o : Oper} {X Y : Operand} (ho : o.op = .store T X Y) (hd : o.dst = none)
    (hX : ∀ ρ F a w, Base ρ F st a w → a.eval X = den ρ p) (hY : ∀ ρ F a w, Base ρ F st a w → a.eval Y = den ρ x) : Stp P st o (fun _ => k) := by
  obtain ⟨ti, hti, h0⟩ := tyK_elim h
  clear h
  have hT := tyFacts (ht T ti hti)
  split at h0
  · rename_i ag
    have main : ∀ (r o' : Nat), (∀ ρ, den ρ p = .pointer (some ⟨ρ r, o', none⟩)) → storeAggK st r o' ti.size ag k → Stp P st o (fun _ => k) := by
      intro r o' hp hk
      have run : ∀ ρ F a w w', Base ρ F st a w → (storeCells ⟨ρ r, o', none⟩ ag.toList).run P w = .ok () w' → ag.size = ti.size → (execOp a.eval o).run P w = .ok .skip w' := by
        intro ρ F a w w' hb hs hsz
        simp only [execOp, ho, Instr.storeAt, hX ρ F a w hb, hY ρ F a w hb, hp, den, Value.cells, Instr.sureAddr, storeVar, Sem.run_bind, Sem.run_pure, Result.andThen_ok, hT.run_sizeOf, hsz, ne_eq, not_true_eq_false, if_false, hs]
      unfold storeAggK at hk
      obtain ⟨ob, hm, h1⟩ := objK_elim hk
      have go : ∀ (xs : List Value) (U : TypeId) (ys : List Value), (∀ ρ w b F, ObjOk ρ ob w b F → (∀ k, F k ↔ k = b) ∧ ∃ cs, cs.length = xs.length ∧ CellsAt w b cs U ∧ splice cs o' ag.toList = ys) → aggOk ag ti.size → o' + ti.size ≤ xs.length → withO r (.row ys U) st k → Stp P st o (fun _ => k) := by
        intro xs U ys hob hag hle hw
        refine Stp.upd (y := .b true) (ob' := .row ys U) hm hw fun ρ F a w hb hh => ?_
        have hobj := (hb ρ (Ag.refl _ _)).obj r _ hm
        obtain ⟨hF, cs, hl, hc, hys⟩ := hob _ _ _ _ hobj
        have hlen : ag.toList.length = ti.size := by rw [Array.length_toList]; exact hag.1
        obtain ⟨w', h5, h6, h7⟩ := cellsAt_store (P := P) (news := ag.toList) (o := o') hc (by rw [hl, hlen]; exact hle) hag.2
        refine ⟨w', h7.mono fun k hk => (hF k).2 hk, fun ρ' hr => ?_, fun _ _ => rfl, .inr ⟨hd, run ρ F a w w' (hb ρ (Ag.refl _ _)) h5 hag.1⟩⟩
        have hrr : ρ' r = ρ r := hr r (hh.shape.lt r _ hm)
        rw [hrr]
        rw [hys] at h6
        exact ⟨hF, h6⟩
      split at h1
      · rename_i cs U
        split at h1
        · obtain ⟨hag, ⟨rfl, hlen⟩, hw⟩ := h1
          have hl2 : ag.toList.length = ti.size := by rw [Array.length_toList]; exact hag.1
          refine go (ag.toList) U ag.toList (fun ρ w b F hob => ⟨hob.1, denL ρ cs, by rw [denL_length, hlen, hl2], hob.2, ?_⟩) hag (by rw [hl2]; omega) hw
          simp only [splice, List.take_zero, List.nil_append, Nat.zero_add]
          rw [List.drop_of_length_le (by rw [denL_length, hlen, hl2]; exact Nat.le_refl _), List.append_nil]
        · obtain ⟨hag, h1⟩ := h1
          obtain ⟨hle, hw⟩ := spliceS_elim h1
          refine Stp.upd (y := .b true) (ob' := .cells (splice cs o' (ag.toList.map SV.v)) U) hm hw fun ρ F a w hb hh => ?_
          have hobj := (hb ρ (Ag.refl _ _)).obj r _ hm
          obtain ⟨w', h5, h6, h7⟩ := cellsAt_store (P := P) (news := ag.toList) (o := o') hobj.2 (by simpa using hle) hag.2
          refine ⟨w', h7.mono fun k hk => (hobj.1 k).2 hk, fun ρ' hr => ?_, fun _ _ => rfl, .inr ⟨hd, run ρ F a w w' (hb ρ (Ag.refl _ _)) h5 hag.1⟩⟩
          have hobj' := (hb ρ' hr).obj r _ hm
          have hrr : ρ' r = ρ r := hr r (hh.shape.lt r _ hm)
          refine ⟨hobj'.1, ?_⟩
          rw [hrr]
          have he : denL ρ' (splice cs o' (ag.toList.map SV.v)) = splice (denL ρ cs) o' ag.toList := by
            have e1 : denL ρ' cs = denL ρ cs := by
              obtain ⟨fz, e1, _⟩ := hobj'.2
              obtain ⟨fz', e2, _⟩ := hobj.2
              rw [hrr, e2] at e1
              simp only [Option.some.injEq, Obj.cells.injEq] at e1
              have := congrArg Array.toList e1.1
              simpa using this.symm
            rw [denL_eq, splice_map, ← denL_eq, ← denL_eq, e1, denL_mapv]
          rw [he]
          exact h6
      · rename_i xs U
        obtain ⟨hag, hle, hw⟩ := h1
        exact go xs U _ (fun ρ w b F hob => ⟨hob.1, xs, rfl, hob.2, rfl⟩) hag hle hw
      · exact h1.elim
    split at h0
    · exact main _ _ (fun _ => rfl) h0
    · exact main _ _ (fun _ => rfl) h0
    · exact h0.elim
  rename_i hnotagg
  have h1 := h0
  clear h0
  obtain ⟨l, h2, h3, h4⟩ := cellsK_elim h1
  clear h1
  split at h2
  · rename_i hlen
    have hlen : l.length = ti.size := Nat.eq_of_beq_eq_true hlen
    have run : ∀ ρ F a w (ad : Addr) w', Base ρ F st a w → den ρ p = .pointer (some ad) → (storeCells ad (denL ρ l)).run P w = .ok () w' → (execOp a.eval o).run P w = .ok .skip w' := by
      intro ρ F a w ad w' hb hp hs
      have hsz : (den ρ x).cells.size = ti.size := by
        rw [← hlen, ← denL_length ρ l, ← h3 ρ, Array.length_toList]
      simp only [execOp, ho, Instr.storeAt, hX ρ F a w hb, hY ρ F a w hb, hp, Instr.sureAddr, storeVar, Sem.run_bind, Sem.run_pure, Result.andThen_ok, hT.run_sizeOf, hsz, ne_eq, not_true_eq_false, if_false, h3 ρ, hs]
    have cellsC : ∀ (r o' : Nat) (cs : List SV) (U : TypeId), (r, SObj.cells cs U) ∈ st.hp → (∀ ρ, den ρ p = .pointer (some ⟨ρ r, o', none⟩)) → o' + l.length ≤ cs.length → withO r (.cells (splice cs o' l) U) st k → Stp P st o (fun _ => k) := by
      intro r o' cs U hm hp hle hw
      refine Stp.upd (y := .b true) (ob' := .cells (splice cs o' l) U) hm hw fun ρ F a w hb hh => ?_
      have hobj := (hb ρ (Ag.refl _ _)).obj r _ hm
      obtain ⟨w', h5, h6, h7⟩ := cellsAt_store (P := P) (news := denL ρ l) (o := o') hobj.2 (by simpa using hle) (h4 ρ)
      refine ⟨w', h7.mono fun k hk => (hobj.1 k).2 hk, fun ρ' hr => ?_, fun _ _ => rfl, .inr ⟨hd, run ρ F a w _ w' (hb ρ (Ag.refl _ _)) (hp ρ) h5⟩⟩
      have hobj' := (hb ρ' hr).obj r _ hm
      have hrr : ρ' r = ρ r := hr r (hh.shape.lt r _ hm)
      refine ⟨hobj'.1, ?_⟩
      rw [hrr]
      have he : denL ρ' (splice cs o' l) = splice (denL ρ cs) o' (denL ρ l) := by
        have e1 : denL ρ' cs = denL ρ cs := by
          obtain ⟨fz, e1, _⟩ := hobj'.2
          obtain ⟨fz', e2, _⟩ := hobj.2
          rw [hrr, e2] at e1
          simp only [Option.some.injEq, Obj.cells.injEq] at e1
          have := congrArg Array.toList e1.1
          simpa using this.symm
        have e2 : denL ρ' l = denL ρ l := by
          rw [← h3 ρ', ← h3 ρ, ← hY ρ' F a w (hb ρ' hr), ← hY ρ F a w (hb ρ (Ag.refl _ _))]
        rw [denL_eq, splice_map, ← denL_eq, ← denL_eq, e1, e2]
      rw [he]
      exact h6
    have rowC : ∀ (r o' : Nat) (xs vs : List Value) (U : TypeId), (r, SObj.row xs U) ∈ st.hp → (∀ ρ, den ρ p = .pointer (some ⟨ρ r, o', none⟩)) → (∀ ρ, denL ρ l = vs) → o' + vs.length ≤ xs.length → withO r (.row (splice xs o' vs) U) st k → Stp P st o (fun _ => k) := by
      intro r o' xs vs U hm hp hv hle hw
      refine Stp.upd (y := .b true) (ob' := .row (splice xs o' vs) U) hm hw fun ρ F a w hb hh => ?_
      have hobj := (hb ρ (Ag.refl _ _)).obj r _ hm
      obtain ⟨w', h5, h6, h7⟩ := cellsAt_store (P := P) (news := denL ρ l) (o := o') hobj.2 (by rw [hv ρ]; exact hle) (h4 ρ)
      refine ⟨w', h7.mono fun k hk => (hobj.1 k).2 hk, fun ρ' hr => ?_, fun _ _ => rfl, .inr ⟨hd, run ρ F a w _ w' (hb ρ (Ag.refl _ _)) (hp ρ) h5⟩⟩
      have hobj' := (hb ρ' hr).obj r _ hm
      have hrr : ρ' r = ρ r := hr r (hh.shape.lt r _ hm)
      refine ⟨hobj'.1, ?_⟩
      rw [hrr]
      rw [hv ρ] at h6
      exact h6
    split at h2
    · obtain ⟨ob, h5, h6⟩ := objK_elim h2
      split at h6
      · obtain ⟨h7, h8⟩ := spliceS_elim h6
        exact cellsC _ _ _ _ h5 (fun ρ => rfl) h7 h8
      · obtain ⟨vs, ⟨h7, h8⟩, h9⟩ := plainsK_elim h6
        exact rowC _ _ _ _ _ h5 (fun ρ => rfl) h9 h7 h8
      · exact h6.elim
    · obtain ⟨ob, h5, h6⟩ := objK_elim h2
      split at h6
      · obtain ⟨vs, ⟨h7, h8⟩, h9⟩ := plainsK_elim h6
        exact rowC _ _ _ _ _ h5 (fun ρ => rfl) h9 h7 h8
      · exact cellsC _ _ _ _ h5 (fun ρ => rfl) h6.1 h6.2
      · exact h6.elim
    · exact h2.elim
  · exact h2.elim
end Go.Proofs.Ytekgjjanikicnaa.Sx
