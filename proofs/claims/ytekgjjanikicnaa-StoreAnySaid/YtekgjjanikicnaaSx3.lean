/- A symbolic executor for the model's code, part 3: memory that is read; addresses; slices; parts of values. -/
import Derived.Test.YtekgjjanikicnaaSx2
import Derived.Laws.BytesString
import Derived.Laws.BytesArg
namespace Go.Proofs.Ytekgjjanikicnaa.Sx
open Go
set_option linter.unusedVariables false
set_option linter.unusedSimpArgs false

theorem add_at (b o j : Nat) : (⟨b, o, none⟩ : Addr).add j = ⟨b, o + j, none⟩ := by unfold Addr.add; split <;> simp_all
def dropS : List SV → Nat → (List SV → Prop) → Prop
  | l, 0, k => k l
  | [], _ + 1, _ => False
  | _ :: r, n + 1, k => dropS r n k
theorem dropS_elim {k : List SV → Prop} : ∀ {l : List SV} {n : Nat}, dropS l n k → n ≤ l.length ∧ k (l.drop n)
  | l, 0, h => ⟨Nat.zero_le _, by simpa [dropS] using h⟩
  | [], n + 1, h => h.elim
  | _ :: r, n + 1, h => by
    obtain ⟨h1, h2⟩ := dropS_elim (l := r) (n := n) h
    exact ⟨by simp; omega, by simpa using h2⟩
def takeS : List SV → Nat → (List SV → Prop) → Prop
  | _, 0, k => k []
  | [], _ + 1, _ => False
  | x :: r, n + 1, k => takeS r n fun l => k (x :: l)
theorem takeS_elim : ∀ {l : List SV} {n : Nat} {k : List SV → Prop}, takeS l n k → n ≤ l.length ∧ k (l.take n)
  | l, 0, k, h => ⟨Nat.zero_le _, by simpa [takeS] using h⟩
  | [], n + 1, k, h => h.elim
  | x :: r, n + 1, k, h => by
    obtain ⟨h1, h2⟩ := takeS_elim (l := r) (n := n) h
    exact ⟨by simp; omega, by simpa using h2⟩
def nthS : List SV → Nat → (SV → Prop) → Prop
  | [], _, _ => False
  | x :: _, 0, k => k x
  | _ :: r, n + 1, k => nthS r n k
theorem nthS_elim {k : SV → Prop} : ∀ {l : List SV} {n : Nat}, nthS l n k → ∃ x, l[n]? = some x ∧ k x
  | [], n, h => h.elim
  | x :: _, 0, h => ⟨x, rfl, h⟩
  | _ :: r, n + 1, h => by
    obtain ⟨x, h1, h2⟩ := nthS_elim (l := r) (n := n) h
    exact ⟨x, by simpa using h1, h2⟩

/-- A cell that a standing fact tells. -/
def FC (fx : List Fact) (ad : Addr) (x : Value) : Prop := ∃ f, f ∈ fx ∧ ∀ w, f.φ w → w.cell? ad = some x
theorem FC.cell {fx : List Fact} {ad : Addr} {x : Value} (h : FC fx ad x) {w : World} (hs : FOk fx w) : w.cell? ad = some x := by
  obtain ⟨f, hf, h⟩ := h
  exact h w (hs f hf)
/-- A row of cells from an address on, told by facts; of no address there are none. -/
def RowAt (fx : List Fact) (A : Option Addr) (l : List Value) : Prop := (A = none → l = []) ∧ ∀ ad, A = some ad → ∀ j y, l[j]? = some y → FC fx (ad.add j) y
theorem CellsAt.cell {w : World} {b : Nat} {cs : List Value} {T : TypeId} (h : CellsAt w b cs T) (o : Nat) : w.cell? ⟨b, o, none⟩ = cs[o]? := by
  obtain ⟨fz, h, _⟩ := h
  rw [cell_of_row w b o _ T fz h]; simp

/-- The n cells from a symbolic place on. -/
def readK (st : SS) (x : SV) (n : Nat) (k : List SV → Prop) : Prop :=
  match x with
  | .v (.slice A _ _) => ∃ l : List Value, (l.length = n ∧ RowAt st.fx A l) ∧ k (l.map SV.v)
  | .s r o _ _ => objK r st.hp fun ob => match ob with
    | .cells cs _ => ∃ l : List SV, ((cs.drop o).take n = l ∧ l.length = n) ∧ k l
    | .row xs _ => ∃ l : List Value, ((xs.drop o).take n = l ∧ l.length = n) ∧ k (l.map SV.v)
    | _ => False
  | _ => False
theorem run_cells_sub {P : Program} {w : World} {b o n : Nat} {cs : List Value} {T : TypeId} (h : CellsAt w b cs T) {l : List Value} (hl : (cs.drop o).take n = l) (hn : l.length = n) :
    (loadCells ⟨b, o, none⟩ n).run P w = .ok l.toArray w := by
  rw [← hn]
  refine run_loadCells_list w _ l fun j v hj => ?_
  rw [add_at, h.cell, ← hj, ← hl]
  have hjn : j < n := by
    have := List.getElem?_eq_some_iff.1 hj
    obtain ⟨h1, _⟩ := this
    omega
  rw [List.getElem?_take_of_lt hjn, List.getElem?_drop]
theorem readK_elim {P : Program} {st : SS} {x : SV} {n : Nat} {k : List SV → Prop} (h : readK st x n k) :
    ∃ l, k l ∧ l.length = n ∧ ∀ ρ F a w, Base ρ F st a w → FOk st.fx w → ∃ A L C, den ρ x = .slice A L C ∧
      (A = none → n = 0) ∧ ∀ ad, A = some ad → (loadCells ad n).run P w = .ok (denL ρ l).toArray w := by
  unfold readK at h
  split at h
  · obtain ⟨l, ⟨h1, h2⟩, h3⟩ := h
    refine ⟨_, h3, by simpa using h1, fun ρ F a w hb hs => ⟨_, _, _, rfl, fun hA => (by rw [← h1, h2.1 hA]; rfl), fun ad hA => ?_⟩⟩
    rw [denL_mapv, ← h1]
    exact run_loadCells_list w _ l fun j v hj => (h2.2 ad hA j v hj).cell hs
  · rename_i r o len cap
    obtain ⟨ob, h1, h2⟩ := objK_elim h
    split at h2
    · rename_i cs T
      obtain ⟨l, ⟨h3, h4⟩, h5⟩ := h2
      refine ⟨l, h5, h4, fun ρ F a w hb hs => ⟨_, _, _, rfl, fun hA => (by cases hA), fun ad hA => ?_⟩⟩
      cases hA
      have hc := (hb.obj _ _ h1).2
      refine run_cells_sub hc ?_ (by simpa using h4)
      rw [← h3]; simp [denL_eq, List.map_drop, List.map_take]
    · rename_i xs T
      obtain ⟨l, ⟨h3, h4⟩, h5⟩ := h2
      refine ⟨_, h5, by simpa using h4, fun ρ F a w hb hs => ⟨_, _, _, rfl, fun hA => (by cases hA), fun ad hA => ?_⟩⟩
      cases hA
      have hc := (hb.obj _ _ h1).2
      rw [denL_mapv]
      exact run_cells_sub hc h3 h4
    · exact h2.elim
  · exact h.elim

/-! ### load -/
def plainK (x : SV) (k : Value → Prop) : Prop :=
  match x with
  | .v x => k x
  | .b t => k (.bool t)
  | .k kd n => k (.int kd n)
  | _ => False
theorem plainK_elim {x : SV} {k : Value → Prop} (h : plainK x k) : ∃ y, k y ∧ ∀ ρ, den ρ x = y := by
  unfold plainK at h
  split at h <;> first | exact h.elim | exact ⟨_, h, fun _ => rfl⟩
def plainsK : List SV → (List Value → Prop) → Prop
  | [], k => k []
  | x :: r, k => plainK x fun y => plainsK r fun l => k (y :: l)
theorem plainsK_elim : ∀ {l : List SV} {k : List Value → Prop}, plainsK l k → ∃ vs, k vs ∧ ∀ ρ, denL ρ l = vs
  | [], k, h => ⟨[], h, fun _ => rfl⟩
  | x :: r, k, h => by
    obtain ⟨y, h1, h2⟩ := plainK_elim h
    obtain ⟨vs, h3, h4⟩ := plainsK_elim h1
    exact ⟨y :: vs, h3, fun ρ => by simp [h2 ρ, h4 ρ]⟩
theorem objK_mono {r : Nat} {f g : SObj → Prop} (hfg : ∀ ob, f ob → g ob) : ∀ {hp : List (Nat × SObj)}, objK r hp f → objK r hp g
  | [], h => h.elim
  | (r', x) :: l, h => by
    unfold objK at h ⊢
    split at h
    · exact hfg _ h
    · exact objK_mono hfg h
/-- The same, of cells that hang on no names. -/
def readPK (st : SS) (x : SV) (n : Nat) (k : List Value → Prop) : Prop :=
  match x with
  | .v (.slice A _ _) => ∃ l : List Value, (l.length = n ∧ RowAt st.fx A l) ∧ k l
  | .s r o _ _ => objK r st.hp fun ob => match ob with
    | .cells cs _ => dropS cs o fun l => takeS l n fun l => plainsK l k
    | .row xs _ => ∃ l : List Value, ((xs.drop o).take n = l ∧ l.length = n) ∧ k l
    | _ => False
  | _ => False
theorem readPK_elim {P : Program} {st : SS} {x : SV} {n : Nat} {k : List Value → Prop} (h : readPK st x n k) :
    ∃ l : List SV, (∃ vs : List Value, (∀ ρ, denL ρ l = vs) ∧ k vs) ∧ l.length = n ∧ ∀ ρ F a w, Base ρ F st a w → FOk st.fx w → ∃ A L C, den ρ x = .slice A L C ∧ (A = none → n = 0) ∧ ∀ ad, A = some ad → (loadCells ad n).run P w = .ok (denL ρ l).toArray w := by
  refine readK_elim ?_
  unfold readPK at h
  unfold readK
  split at h
  · obtain ⟨l, h1, h2⟩ := h
    exact ⟨l, h1, l, fun ρ => denL_mapv ρ l, h2⟩
  · refine objK_mono (fun ob h => ?_) h
    split at h
    · obtain ⟨h1, h2⟩ := dropS_elim h
      obtain ⟨h3, h4⟩ := takeS_elim h2
      obtain ⟨vs, h5, h6⟩ := plainsK_elim h4
      exact ⟨_, ⟨rfl, by rw [List.length_take]; omega⟩, vs, h6, h5⟩
    · obtain ⟨l, h1, h2⟩ := h
      exact ⟨l, h1, l, fun ρ => denL_mapv ρ l, h2⟩
    · exact h.elim
  · exact h.elim
def loadK (tt : List (Option TI)) (st : SS) (T : TypeId) (x : SV) (k : SV → Prop) : Prop :=
  tyK tt T fun ti => match isAggD ti.und with
    | true => (match x with
      | .p r o => objK r st.hp fun ob => (match ob with
        | .cells cs _ => dropS cs o fun l => takeS l ti.size fun l => k (.agg l)
        | .row xs _ => ∃ l : List Value, ((xs.drop o).take ti.size = l ∧ l.length = ti.size) ∧ k (.v (.agg ⟨l⟩))
        | _ => False)
      | .q r o => objK r st.hp fun ob => (match ob with
        | .cells cs _ => ∃ l : List SV, ((cs.drop o).take ti.size = l ∧ l.length = ti.size) ∧ k (.agg l)
        | .row xs _ => ∃ l : List Value, ((xs.drop o).take ti.size = l ∧ l.length = ti.size) ∧ k (.v (.agg ⟨l⟩))
        | _ => False)
      | .v (.pointer (some ad)) => ∃ l : List Value, (l.length = ti.size ∧ ∀ j y, l[j]? = some y → FC st.fx (ad.add j) y) ∧ k (.v (.agg ⟨l⟩))
      | _ => False)
    | false => (match x with
      | .p r o => objK r st.hp fun ob => (match ob with
        | .cells cs _ => nthS cs o k
        | .row xs _ => ∃ y, xs[o]? = some y ∧ k (.v y)
        | _ => False)
      | .q r o => objK r st.hp fun ob => (match ob with
        | .cells cs _ => ∃ y, cs[o]? = some y ∧ k y
        | .row xs _ => ∃ y, xs[o]? = some y ∧ k (.v y)
        | _ => False)
      | .v (.pointer (some ad)) => ∃ y, FC st.fx ad y ∧ k (.v y)
      | _ => False)
section
variable {P : Program} {T : TypeId} {ti : TI} (hT : TyFacts P T ti) {w : World}
include hT
theorem run_loadAt_agg (hg : isAggD ti.und = true) (ad : Addr) {l : List Value} (h : (loadCells ad ti.size).run P w = .ok l.toArray w) :
    (Instr.loadAt T (.pointer (some ad))).run P w = .ok (.agg l.toArray) w := by
  simp only [Instr.loadAt, Instr.sureAddr, loadVar, Sem.run_bind, Sem.run_pure, Result.andThen_ok, hT.run_isAgg, hg, if_true, hT.run_sizeOf, h]
theorem run_loadAt_one (hg : isAggD ti.und = false) (ad : Addr) {y : Value} (h : w.cell? ad = some y) :
    (Instr.loadAt T (.pointer (some ad))).run P w = .ok y w := by
  simp [Instr.loadAt, Instr.sureAddr, loadVar, hT.run_isAgg, hg, h]
end
theorem loadK_elim {P : Program} {tt : List (Option TI)} (ht : TOk P tt) {st : SS} {T : TypeId} {x : SV} {k : SV → Prop} (h : loadK tt st T x k) :
    ∃ y, k y ∧ ∀ ρ F a w, Base ρ F st a w → FOk st.fx w → (Instr.loadAt T (den ρ x)).run P w = .ok (den ρ y) w := by
  obtain ⟨ti, hti, h⟩ := tyK_elim h
  have hT := tyFacts (ht T ti hti)
  have aggC : ∀ (r o : Nat) (cs : List SV) (U : TypeId) (l : List SV), (r, SObj.cells cs U) ∈ st.hp → isAggD ti.und = true → (cs.drop o).take ti.size = l → l.length = ti.size →
      ∀ ρ F a w, Base ρ F st a w → FOk st.fx w → (Instr.loadAt T (.pointer (some ⟨ρ r, o, none⟩))).run P w = .ok (den ρ (.agg l)) w := by
    intro r o cs U l hm hg h1 h2 ρ F a w hb hs
    refine run_loadAt_agg hT hg _ (run_cells_sub (hb.obj _ _ hm).2 ?_ (by simpa using h2))
    rw [← h1]; simp [denL_eq, List.map_drop, List.map_take]
  have aggR : ∀ (r o : Nat) (xs : List Value) (U : TypeId) (l : List Value), (r, SObj.row xs U) ∈ st.hp → isAggD ti.und = true → (xs.drop o).take ti.size = l → l.length = ti.size →
      ∀ ρ F a w, Base ρ F st a w → FOk st.fx w → (Instr.loadAt T (.pointer (some ⟨ρ r, o, none⟩))).run P w = .ok (den ρ (.v (.agg ⟨l⟩))) w := by
    intro r o xs U l hm hg h1 h2 ρ F a w hb hs
    simp only [den]
    exact run_loadAt_agg hT hg _ (run_cells_sub (hb.obj _ _ hm).2 h1 h2)
  split at h
  · rename_i hg
    split at h
    · obtain ⟨ob, h1, h2⟩ := objK_elim h
      split at h2
      · obtain ⟨h3, h4⟩ := dropS_elim h2
        obtain ⟨h5, h6⟩ := takeS_elim h4
        exact ⟨_, h6, aggC _ _ _ _ _ h1 hg rfl (by simp at h5 ⊢; omega)⟩
      · obtain ⟨l, ⟨h3, h4⟩, h5⟩ := h2
        exact ⟨_, h5, aggR _ _ _ _ _ h1 hg h3 h4⟩
      · exact h2.elim
    · obtain ⟨ob, h1, h2⟩ := objK_elim h
      split at h2
      · obtain ⟨l, ⟨h3, h4⟩, h5⟩ := h2
        exact ⟨_, h5, aggC _ _ _ _ _ h1 hg h3 h4⟩
      · obtain ⟨l, ⟨h3, h4⟩, h5⟩ := h2
        exact ⟨_, h5, aggR _ _ _ _ _ h1 hg h3 h4⟩
      · exact h2.elim
    · obtain ⟨l, ⟨h3, h4⟩, h5⟩ := h
      refine ⟨_, h5, fun ρ F a w hb hs => ?_⟩
      simp only [den]
      refine run_loadAt_agg hT hg _ ?_
      rw [← h3]
      exact run_loadCells_list w _ l fun j v hj => (h4 j v hj).cell hs
    · exact h.elim
  · rename_i hg
    split at h
    · obtain ⟨ob, h1, h2⟩ := objK_elim h
      split at h2
      · obtain ⟨y, h3, h4⟩ := nthS_elim h2
        refine ⟨y, h4, fun ρ F a w hb hs => run_loadAt_one hT hg _ ?_⟩
        rw [(hb.obj _ _ h1).2.cell, denL_get, h3]; rfl
      · obtain ⟨y, h3, h4⟩ := h2
        refine ⟨_, h4, fun ρ F a w hb hs => run_loadAt_one hT hg _ ?_⟩
        rw [(hb.obj _ _ h1).2.cell, h3]; rfl
      · exact h2.elim
    · obtain ⟨ob, h1, h2⟩ := objK_elim h
      split at h2
      · obtain ⟨y, h3, h4⟩ := h2
        refine ⟨y, h4, fun ρ F a w hb hs => run_loadAt_one hT hg _ ?_⟩
        rw [(hb.obj _ _ h1).2.cell, denL_get, h3]; rfl
      · obtain ⟨y, h3, h4⟩ := h2
        refine ⟨_, h4, fun ρ F a w hb hs => run_loadAt_one hT hg _ ?_⟩
        rw [(hb.obj _ _ h1).2.cell, h3]; rfl
      · exact h2.elim
    · obtain ⟨y, h3, h4⟩ := h
      exact ⟨_, h4, fun ρ F a w hb hs => run_loadAt_one hT hg _ (h3.cell hs)⟩
    · exact h.elim

/-! ### addresses -/
/-- An address, moved on. -/
def moveK (x : SV) (n : Nat) (k : SV → Prop) : Prop :=
  match x with
  | .p r o => forceN (o + n) fun o => k (.p r o)
  | .q r o => k (.q r (o + n))
  | .v (.pointer (some ad)) => k (.v (.pointer (some (ad.add n))))
  | _ => False
theorem moveK_elim {x : SV} {n : Nat} {k : SV → Prop} (h : moveK x n k) : ∃ y, k y ∧ ∀ ρ, ∃ ad, den ρ x = .pointer (some ad) ∧ den ρ y = .pointer (some (ad.add n)) := by
  unfold moveK at h
  split at h
  · exact ⟨_, forceN_elim (k := fun o => k (.p _ o)) h, fun ρ => ⟨_, rfl, by rw [add_at]; rfl⟩⟩
  · exact ⟨_, h, fun ρ => ⟨_, rfl, by rw [add_at]; rfl⟩⟩
  · exact ⟨_, h, fun ρ => ⟨_, rfl, rfl⟩⟩
  · exact h.elim
def nthK {α : Type} : List α → Nat → (α → Prop) → Prop
  | [], _, _ => False
  | x :: _, 0, k => k x
  | _ :: r, n + 1, k => nthK r n k
theorem nthK_elim {α : Type} {k : α → Prop} : ∀ {l : List α} {n : Nat}, nthK l n k → ∃ x, l[n]? = some x ∧ k x
  | [], n, h => h.elim
  | x :: _, 0, h => ⟨x, rfl, h⟩
  | _ :: r, n + 1, h => by
    obtain ⟨x, h1, h2⟩ := nthK_elim (l := r) (n := n) h
    exact ⟨x, by simpa using h1, h2⟩
/-- A field of a struct: its place and its size, which is not nought. -/
def fieldK (tt : List (Option TI)) (S : TypeId) (f : Nat) (k : Nat → TI → Prop) : Prop :=
  tyK tt S fun si => match si.und with
    | .struct ⟨fs⟩ => nthK fs f fun fd => tyK tt fd.type fun fi => (match fi.size with | 0 => False | _ + 1 => k fd.offset fi)
    | _ => False
theorem fieldK_elim {P : Program} {tt : List (Option TI)} (ht : TOk P tt) {S : TypeId} {f : Nat} {k : Nat → TI → Prop} (h : fieldK tt S f k) :
    ∃ (fs : Array Field) (fd : Field) (fi : TI), P.underlying S = some (.struct fs) ∧ fs[f]? = some fd ∧ TyFacts P fd.type fi ∧ fi.size ≠ 0 ∧ k fd.offset fi := by
  obtain ⟨si, hsi, h⟩ := tyK_elim h
  have hS := tyFacts (ht S si hsi)
  split at h
  · rename_i fs hd
    obtain ⟨fd, h1, h2⟩ := nthK_elim h
    obtain ⟨fi, hfi, h3⟩ := tyK_elim h2
    split at h3
    · exact h3.elim
    · rename_i n hn
      exact ⟨⟨fs⟩, fd, fi, by rw [hS.und, hd], by simpa using h1, tyFacts (ht _ fi hfi), by omega, h3⟩
  · exact h.elim
theorem run_fieldAt {P : Program} {S : TypeId} {fs : Array Field} {fd : Field} {fi : TI} {f : Nat} (hS : P.underlying S = some (.struct fs)) (hf : fs[f]? = some fd) (hT : TyFacts P fd.type fi) (h0 : fi.size ≠ 0) (ad : Addr) (w : World) :
    (Instr.fieldAt S (.pointer (some ad)) f).run P w = .ok (.pointer (some (ad.add fd.offset))) w := by
  simp [Instr.fieldAt, Instr.sureAddr, underlying, hS, hf, fieldPlace, hT.run_sizeOf, h0]
/-- An index within bounds. -/
def inK (kn : Bool) (i : Int) (n : Nat) (k : Prop) : Prop :=
  match kn with
  | true => match decide (0 ≤ i ∧ i < (n : Int)) with
    | true => k
    | false => False
  | false => (0 ≤ i ∧ i < (n : Int)) ∧ k
theorem inK_elim {kn : Bool} {i : Int} {n : Nat} {k : Prop} (h : inK kn i n k) : (0 ≤ i ∧ i < (n : Int)) ∧ k := by
  unfold inK at h
  split at h
  · split at h
    · rename_i hd; exact ⟨of_decide_eq_true hd, h⟩
    · exact h.elim
  · exact h
/-- An index, or a bound, as a natural number. -/
def natK (kn : Bool) (i : Int) (k : Nat → Prop) : Prop :=
  match kn with
  | true => match decide (0 ≤ i) with
    | true => forceN i.toNat k
    | false => False
  | false => ∃ n : Nat, i = (n : Int) ∧ k n
theorem natK_elim {kn : Bool} {i : Int} {k : Nat → Prop} (h : natK kn i k) : 0 ≤ i ∧ k i.toNat := by
  unfold natK at h
  split at h
  · split at h
    · rename_i hd; exact ⟨of_decide_eq_true hd, forceN_elim h⟩
    · exact h.elim
  · obtain ⟨n, rfl, h1⟩ := h
    exact ⟨by omega, by rw [Int.toNat_natCast]; exact h1⟩
def idxK (kn : Bool) (i : Int) (len : Nat) (k : Nat → Prop) : Prop := natK kn i fun n => n < len ∧ k n
def leK (kn : Bool) (i : Int) (len : Nat) (k : Nat → Prop) : Prop := natK kn i fun n => n ≤ len ∧ k n
theorem idxK_elim {kn : Bool} {i : Int} {len : Nat} {k : Nat → Prop} (h : idxK kn i len k) : (0 ≤ i ∧ i < (len : Int)) ∧ k i.toNat := by
  obtain ⟨h0, h1, h2⟩ := natK_elim h
  exact ⟨⟨h0, by omega⟩, h2⟩
theorem leK_elim {kn : Bool} {i : Int} {len : Nat} {k : Nat → Prop} (h : leK kn i len k) : (0 ≤ i ∧ i ≤ (len : Int)) ∧ k i.toNat := by
  obtain ⟨h0, h1, h2⟩ := natK_elim h
  exact ⟨⟨h0, by omega⟩, h2⟩
theorem cast_succ (n : Nat) : (n : Int) + 1 = ((n + 1 : Nat) : Int) := rfl
def indexAtK (tt : List (Option TI)) (T : TypeId) (x ix : SV) (k : SV → Prop) : Prop :=
  intK ix fun _ i kn => tyK tt T fun ti => match ti.und with
    | .array n e => tyK tt e fun ei => (match kn with
      | true => inK true i n (forceN (i.toNat * ei.size) fun d => moveK x d k)
      | false => idxK kn i n fun m => forceN ei.size fun z => (match x with
        | .p r o => k (.q r (o + m * z))
        | .q r o => k (.q r (o + m * z))
        | .v (.pointer (some ad)) => k (.v (.pointer (some (ad.add (m * z)))))
        | _ => False))
    | .slice e => tyK tt e fun ei => forceN ei.size fun z => (match x with
      | .s r o len _ => idxK kn i len fun m => k (.q r (o + m * z))
      | .v (.slice A len _) => idxK kn i len fun m => ∃ ad, A = some ad ∧ k (.v (.pointer (some (ad.add (m * z)))))
      | _ => False)
    | _ => False
theorem indexAtK_elim {P : Program} {tt : List (Option TI)} (ht : TOk P tt) {T : TypeId} {x ix : SV} {k : SV → Prop} (h : indexAtK tt T x ix k) :
    ∃ y, k y ∧ ∀ ρ w, (Instr.indexAt T (den ρ x) (den ρ ix)).run P w = .ok (den ρ y) w := by
  obtain ⟨kd, i, kn, h, hi⟩ := intK_elim h
  obtain ⟨ti, hti, h⟩ := tyK_elim h
  have hT := tyFacts (ht T ti hti)
  split at h
  · rename_i n e hd
    obtain ⟨ei, hei, h⟩ := tyK_elim h
    have hE := tyFacts (ht e ei hei)
    have hu : ∀ w, (underlying T).run P w = .ok (.array n e) w := fun w => by rw [← hd]; exact hT.run_underlying w
    have fin : ∀ ad w (j : Value), (0 ≤ i ∧ i < (n : Int)) → (∃ kk, j = .int kk i) → (Instr.indexAt T (.pointer (some ad)) j).run P w = .ok (.pointer (some (ad.add (i.toNat * ei.size)))) w := by
      intro ad w j hb hj
      obtain ⟨kk, rfl⟩ := hj
      simp [Instr.indexAt, asIntOf, hu, Instr.sureAddr, hE.run_sizeOf, hb]
    split at h
    · obtain ⟨hb, h⟩ := inK_elim h
      have h := forceN_elim h
      obtain ⟨y, h1, h2⟩ := moveK_elim h
      refine ⟨y, h1, fun ρ w => ?_⟩
      obtain ⟨ad, h3, h4⟩ := h2 ρ
      rw [h3, h4]
      exact fin ad w _ hb ⟨kd, hi ρ⟩
    · obtain ⟨hb, h⟩ := idxK_elim h
      have h := forceN_elim h
      split at h
      · exact ⟨_, h, fun ρ w => by simp only [den]; rw [← add_at]; exact fin _ w _ hb ⟨kd, hi ρ⟩⟩
      · exact ⟨_, h, fun ρ w => by simp only [den]; rw [← add_at]; exact fin _ w _ hb ⟨kd, hi ρ⟩⟩
      · exact ⟨_, h, fun ρ w => fin _ w _ hb ⟨kd, hi ρ⟩⟩
      · exact h.elim
  · rename_i e hd
    obtain ⟨ei, hei, h⟩ := tyK_elim h
    have hE := tyFacts (ht e ei hei)
    have hu : ∀ w, (underlying T).run P w = .ok (.slice e) w := fun w => by rw [← hd]; exact hT.run_underlying w
    have fin : ∀ ad (len cap : Nat) w (j : Value), (0 ≤ i ∧ i < (len : Int)) → (∃ kk, j = .int kk i) → (Instr.indexAt T (.slice (some ad) len cap) j).run P w = .ok (.pointer (some (ad.add (i.toNat * ei.size)))) w := by
      intro ad len cap w j hb hj
      obtain ⟨kk, rfl⟩ := hj
      simp [Instr.indexAt, asIntOf, hu, hE.run_sizeOf, hb]
    have h := forceN_elim h
    split at h
    · obtain ⟨h1, h2⟩ := idxK_elim h
      exact ⟨_, h2, fun ρ w => by simp only [den]; rw [← add_at]; exact fin _ _ _ w _ h1 ⟨kd, hi ρ⟩⟩
    · obtain ⟨h1, ad, rfl, h2⟩ := idxK_elim h
      exact ⟨_, h2, fun ρ w => fin _ _ _ w _ h1 ⟨kd, hi ρ⟩⟩
    · exact h.elim
  · exact h.elim

/-! ### parts of values -/
def sbyte (s : ByteArray) (i : Nat) : UInt8 := s.data.toList.getD i 0
def partK (ti : TI) (cs : List SV) (o : Nat) (k : SV → Prop) : Prop :=
  match isAggD ti.und with
  | true => dropS cs o fun l => takeS l ti.size fun l => k (.agg l)
  | false => nthS cs o k
theorem partK_elim {P : Program} {T : TypeId} {ti : TI} (hT : TyFacts P T ti) {cs : List SV} {o : Nat} {k : SV → Prop} (h : partK ti cs o k) :
    ∃ y, k y ∧ ∀ ρ w, (part T (denL ρ cs).toArray o).run P w = .ok (den ρ y) w := by
  unfold partK at h
  split at h
  · rename_i hg
    obtain ⟨h3, h4⟩ := dropS_elim h
    obtain ⟨h5, h6⟩ := takeS_elim h4
    refine ⟨_, h6, fun ρ w => ?_⟩
    simp only [part, Sem.run_bind, hT.run_isAgg, hg, Result.andThen_ok, if_true, hT.run_sizeOf, Sem.run_pure, den]
    congr 2
    simp [denL_eq, List.map_drop, List.map_take]
  · rename_i hg
    obtain ⟨y, h3, h4⟩ := nthS_elim h
    refine ⟨y, h4, fun ρ w => ?_⟩
    simp [part, hT.run_isAgg, hg, denL_get, h3]
def indexK (tt : List (Option TI)) (T : TypeId) (x ix : SV) (k : SV → Prop) : Prop :=
  intK ix fun _ i kn => tyK tt T fun ti => match ti.und with
    | .string => (match x with
      | .v (.string s) => idxK kn i s.size fun m => k (.v (.int .u8 ((sbyte s m).toNat : Int)))
      | _ => False)
    | .array n e => tyK tt e fun ei => (match x with
      | .agg cs => (match kn with
        | true => inK true i n (forceN (i.toNat * ei.size) fun d => partK ei cs d k)
        | false => (match isAggD ei.und with
          | true => False
          | false => idxK kn i n fun m => forceN ei.size fun z => ∃ y, cs[m * z]? = some y ∧ k y))
      | _ => False)
    | _ => False
theorem indexK_elim {P : Program} {tt : List (Option TI)} (ht : TOk P tt) {T : TypeId} {x ix : SV} {k : SV → Prop} (h : indexK tt T x ix k) :
    ∃ y, k y ∧ ∀ ρ w, (Instr.index T (den ρ x) (den ρ ix)).run P w = .ok (den ρ y) w := by
  obtain ⟨kd, i, kn, h, hi⟩ := intK_elim h
  obtain ⟨ti, hti, h⟩ := tyK_elim h
  have hT := tyFacts (ht T ti hti)
  split at h
  · rename_i hd
    have hu : ∀ w, (underlying T).run P w = .ok .string w := fun w => by rw [← hd]; exact hT.run_underlying w
    split at h
    · rename_i s _ _
      obtain ⟨⟨h0, h1⟩, h2⟩ := idxK_elim h
      refine ⟨_, h2, fun ρ w => ?_⟩
      have hlt : i.toNat < s.size := by omega
      have hg : s[i.toNat]? = some s[i.toNat] := getElem?_pos s i.toNat hlt
      have hb : sbyte s i.toNat = s[i.toNat] := by
        unfold sbyte
        have h2 : i.toNat < s.data.toList.length := by rw [Array.length_toList]; exact hlt
        simp only [List.getD_eq_getElem?_getD, List.getElem?_eq_getElem h2, Option.getD_some, Array.getElem_toList]; rfl
      simp only [den, hi ρ, Instr.index, asIntOf, Sem.run_bind, Sem.run_pure, Result.andThen_ok, hu, h0, if_true, hg, hb]
    · exact h.elim
  · rename_i n e hd
    have hu : ∀ w, (underlying T).run P w = .ok (.array n e) w := fun w => by rw [← hd]; exact hT.run_underlying w
    obtain ⟨ei, hei, h⟩ := tyK_elim h
    have hE := tyFacts (ht e ei hei)
    split at h
    · rename_i cs _ _ _
      have fin : ∀ (y : SV) (_ : 0 ≤ i ∧ i < (n : Int)) (_ : ∀ ρ w, (part e (denL ρ cs).toArray (i.toNat * ei.size)).run P w = .ok (den ρ y) w),
          ∀ ρ w, (Instr.index T (den ρ (.agg cs)) (den ρ ix)).run P w = .ok (den ρ y) w := by
        intro y hb hp ρ w
        simp only [den, hi ρ, Instr.index, asIntOf, Sem.run_bind, Sem.run_pure, Result.andThen_ok, hu, hb, and_self, if_true, hE.run_sizeOf, hp]
      split at h
      · obtain ⟨hb, h⟩ := inK_elim h
        have h := forceN_elim h
        obtain ⟨y, h1, h2⟩ := partK_elim hE h
        exact ⟨y, h1, fin y hb h2⟩
      · split at h
        · exact h.elim
        · rename_i hg
          obtain ⟨hb, h⟩ := idxK_elim h
          obtain ⟨y, h1, h2⟩ := forceN_elim h
          refine ⟨y, h2, fin y hb fun ρ w => ?_⟩
          simp [part, hE.run_isAgg, hg, denL_get, h1]
    · exact h.elim
  · exact h.elim
def fieldVK (tt : List (Option TI)) (S : TypeId) (x : SV) (f : Nat) (k : SV → Prop) : Prop :=
  fieldK tt S f fun o fi => match x with
    | .agg cs => partK fi cs o k
    | .v (.agg a) => partK fi (a.toList.map SV.v) o k
    | _ => False
theorem fieldVK_elim {P : Program} {tt : List (Option TI)} (ht : TOk P tt) {S : TypeId} {x : SV} {f : Nat} {k : SV → Prop} (h : fieldVK tt S x f k) :
    ∃ y, k y ∧ ∀ ρ w, (Instr.field S (den ρ x) f).run P w = .ok (den ρ y) w := by
  obtain ⟨fs, fd, fi, h1, h2, h3, h4, h5⟩ := fieldK_elim ht h
  split at h5
  · obtain ⟨y, h6, h7⟩ := partK_elim h3 h5
    exact ⟨y, h6, fun ρ w => by simp [den, Instr.field, underlying, h1, h2, asAgg, h7]⟩
  · obtain ⟨y, h6, h7⟩ := partK_elim h3 h5
    refine ⟨y, h6, fun ρ w => ?_⟩
    have h8 := h7 ρ w
    rw [denL_mapv, Array.toArray_toList] at h8
    simp [den, Instr.field, underlying, h1, h2, asAgg, h8]
  · exact h5.elim
end Go.Proofs.Ytekgjjanikicnaa.Sx
