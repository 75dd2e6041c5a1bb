/- A symbolic executor for the model's code, part 9b: an own row whose place is laid down elsewhere is told by a fact from then on. -/
import Derived.Test.YtekgjjanikicnaaSx9
import Derived.Lib.AppendZeros
namespace Go.Proofs.Ytekgjjanikicnaa.Sx
open Go
set_option linter.unusedVariables false
set_option linter.unusedSimpArgs false

def rowFact (b : Nat) (xs : List Value) (T : TypeId) : Fact := ⟨fun k => k = b, fun w => CellsAt w b xs T, fun h e => h.loc (e _ rfl)⟩
mutual
/-- Region r by its place. -/
def sub (r b : Nat) : SV → SV
  | .v x => .v x
  | .b t => .b t
  | .k kd n => .k kd n
  | .p r' o => if Nat.beq r r' = true then .v (.pointer (some ⟨b, o, none⟩)) else .p r' o
  | .q r' o => if Nat.beq r r' = true then .v (.pointer (some ⟨b, o, none⟩)) else .q r' o
  | .s r' o len cap => if Nat.beq r r' = true then .v (.slice (some ⟨b, o, none⟩) len cap) else .s r' o len cap
  | .m r' => .m r'
  | .agg cs => .agg (subL r b cs)
  | .tup cs => .tup (subL r b cs)
  | .fn f a c => .fn f (subL r b a) (subL r b c)
def subL (r b : Nat) : List SV → List SV
  | [] => []
  | x :: l => sub r b x :: subL r b l
end
mutual
theorem den_sub {r b : Nat} {ρ : Nat → Nat} (h : ρ r = b) : ∀ x, den ρ (sub r b x) = den ρ x
  | .v _ => rfl
  | .b _ => rfl
  | .k _ _ => rfl
  | .p r' o => by
    simp only [sub]
    split
    · rename_i e; rw [← Nat.eq_of_beq_eq_true e]; simp only [den, h]
    · rfl
  | .q r' o => by
    simp only [sub]
    split
    · rename_i e; rw [← Nat.eq_of_beq_eq_true e]; simp only [den, h]
    · rfl
  | .s r' o len cap => by
    simp only [sub]
    split
    · rename_i e; rw [← Nat.eq_of_beq_eq_true e]; simp only [den, h]
    · rfl
  | .m _ => rfl
  | .agg cs => by simp only [sub, den, denL_sub h cs]
  | .tup cs => by simp only [sub, den, denL_sub h cs]
  | .fn f a c => by simp only [sub, den, denL_sub h a, denL_sub h c]
theorem denL_sub {r b : Nat} {ρ : Nat → Nat} (h : ρ r = b) : ∀ l, denL ρ (subL r b l) = denL ρ l
  | [] => rfl
  | x :: l => by simp only [subL, denL, den_sub h x, denL_sub h l]
end
def subO (r b : Nat) : SObj → SObj
  | .cells cs T => .cells (subL r b cs) T
  | .row xs T => .row xs T
  | .map es clk => .map es clk
  | .iter mr since seen stepped => .iter mr since seen stepped
  | .abs A => .abs A
theorem objOk_sub {r b : Nat} {ρ : Nat → Nat} (h : ρ r = b) (o : SObj) {w : World} {c : Nat} {F : Nat → Prop} (ho : ObjOk ρ o w c F) : ObjOk ρ (subO r b o) w c F := by
  cases o <;> simp only [subO, ObjOk, denL_sub h] at ho ⊢ <;> exact ho
theorem OkAt.share {B : Bs} {ρ : Nat → Nat} {F : Nat → Nat → Prop} {st : SS} {sz : Nat} {a : Act} {w : World} (h : OkAt B ρ F st sz a w) {r : Nat} {ob : SObj} {xs : List Value} {T : TypeId} (hr : (r, ob) ∈ st.hp)
    (hrow : ∀ ρ w b F, ObjOk ρ ob w b F → (∀ k, F k ↔ k = b) ∧ CellsAt w b xs T) {sl' : List (Nat × SV)} {hp' : List (Nat × SObj)} (hsl : ∀ t x', (t, x') ∈ sl' → ∃ x, (t, x) ∈ st.sl ∧ x' = sub r (ρ r) x)
    (hhp : ∀ j o', (j, o') ∈ hp' → j ≠ r ∧ ∃ o, (j, o) ∈ st.hp ∧ o' = subO r (ρ r) o) : OkAt B ρ F ⟨sl', hp', st.nx, rowFact (ρ r) xs T :: st.fx⟩ sz a w := by
  have hlt := h.heap.shape.lt r _ hr
  have hrw := hrow ρ w _ _ (h.heap.obj ρ (Ag.refl _ _) r _ hr)
  have own : ∀ k, Own hp' F k → Own st.hp F k := by
    rintro k ⟨j, o', hm, hk⟩
    obtain ⟨_, o, h1, _⟩ := hhp j o' hm
    exact ⟨j, o, h1, hk⟩
  have notown : ∀ k, Own hp' F k → k ≠ ρ r := by
    rintro k ⟨j, o', hm, hk⟩ e
    obtain ⟨h1, o, h2, _⟩ := hhp j o' hm
    exact h.heap.shape.dis j o r _ h2 hr h1 k hk (by rw [e]; exact (hrw.1 _).2 rfl)
  refine ⟨fun ρ' ha t x' hm => ?_, ⟨fun ρ' ha j o' hm => ?_, fun j o' hm => ?_, fun j o j' o' hm hm' hne => ?_, fun j o' hm => ?_, fun f hf => ?_⟩, h.size, h.base, h.n0, h.keeps, fun k hk => h.own k (own k hk), fun f hf => ?_, h.defers⟩
  · obtain ⟨x, h1, rfl⟩ := hsl t x' hm
    rw [den_sub (ha r hlt)]
    exact h.slot ρ' ha t x h1
  · obtain ⟨_, o, h1, rfl⟩ := hhp j o' hm
    exact objOk_sub (ha r hlt) o (h.heap.obj ρ' ha j o h1)
  · obtain ⟨_, o, h1, rfl⟩ := hhp j o' hm
    exact h.heap.shape.lt j o h1
  · obtain ⟨_, o1, h1, _⟩ := hhp j o hm
    obtain ⟨_, o2, h2, _⟩ := hhp j' o' hm'
    exact h.heap.shape.dis j o1 j' o2 h1 h2 hne
  · obtain ⟨_, o, h1, _⟩ := hhp j o' hm
    exact h.heap.shape.bnd j o h1
  · rcases List.mem_cons.1 hf with rfl | hf
    · exact ⟨hrw.2, fun k hk => ⟨fun ho => notown k ho hk, h.heap.shape.bnd r _ hr k ((hrw.1 k).2 hk)⟩⟩
    · have := h.heap.shape.fact f hf
      exact ⟨this.1, fun k hk => ⟨fun ho => (this.2 k hk).1 (own k ho), (this.2 k hk).2⟩⟩
  · rcases List.mem_cons.1 hf with rfl | hf
    · exact .inr fun k hk => h.own k ⟨r, _, hr, (hrw.1 k).2 hk⟩
    · exact h.facts f hf
/-! ### Written out -/
mutual
def subK (r b : Nat) : SV → (SV → Prop) → Prop
  | .v x, k => k (.v x)
  | .b t, k => k (.b t)
  | .k kd n, k => k (.k kd n)
  | .p r' o, k => match Nat.beq r r' with
    | true => k (.v (.pointer (some ⟨b, o, none⟩)))
    | false => k (.p r' o)
  | .q r' o, k => match Nat.beq r r' with
    | true => k (.v (.pointer (some ⟨b, o, none⟩)))
    | false => k (.q r' o)
  | .s r' o len cap, k => match Nat.beq r r' with
    | true => k (.v (.slice (some ⟨b, o, none⟩) len cap))
    | false => k (.s r' o len cap)
  | .m r', k => k (.m r')
  | .agg cs, k => subLK r b cs fun cs => k (.agg cs)
  | .tup cs, k => subLK r b cs fun cs => k (.tup cs)
  | .fn f a c, k => subLK r b a fun a => subLK r b c fun c => k (.fn f a c)
def subLK (r b : Nat) : List SV → (List SV → Prop) → Prop
  | [], k => k []
  | x :: l, k => subK r b x fun x => subLK r b l fun l => k (x :: l)
end
mutual
theorem subK_elim {r b : Nat} : ∀ {x : SV} {k : SV → Prop}, subK r b x k → k (sub r b x)
  | .v _, _, h => h
  | .b _, _, h => h
  | .k _ _, _, h => h
  | .p r' o, k, h => by
    rw [subK] at h; rw [sub]
    split at h
    · rename_i e; rw [if_pos e]; exact h
    · rename_i e; rw [if_neg (by rw [e]; simp)]; exact h
  | .q r' o, k, h => by
    rw [subK] at h; rw [sub]
    split at h
    · rename_i e; rw [if_pos e]; exact h
    · rename_i e; rw [if_neg (by rw [e]; simp)]; exact h
  | .s r' o len cap, k, h => by
    rw [subK] at h; rw [sub]
    split at h
    · rename_i e; rw [if_pos e]; exact h
    · rename_i e; rw [if_neg (by rw [e]; simp)]; exact h
  | .m _, _, h => h
  | .agg cs, k, h => by rw [subK] at h; rw [sub]; exact subLK_elim h
  | .tup cs, k, h => by rw [subK] at h; rw [sub]; exact subLK_elim h
  | .fn f a c, k, h => by rw [subK] at h; rw [sub]; exact subLK_elim (subLK_elim h)
theorem subLK_elim {r b : Nat} : ∀ {x : List SV} {k : List SV → Prop}, subLK r b x k → k (subL r b x)
  | [], _, h => h
  | x :: l, k, h => by rw [subLK] at h; rw [subL]; exact subLK_elim (subK_elim h)
end
def subSK (r b : Nat) : List (Nat × SV) → (List (Nat × SV) → Prop) → Prop
  | [], k => k []
  | (t, x) :: l, k => subK r b x fun x => subSK r b l fun l => k ((t, x) :: l)
theorem subSK_elim {r b : Nat} : ∀ {l : List (Nat × SV)} {k : List (Nat × SV) → Prop}, subSK r b l k → ∃ l', k l' ∧ ∀ t x', (t, x') ∈ l' → ∃ x, (t, x) ∈ l ∧ x' = sub r b x
  | [], k, h => ⟨[], h, fun _ _ h => by cases h⟩
  | (t, x) :: l, k, h => by
    rw [subSK] at h
    obtain ⟨l', h1, h2⟩ := subSK_elim (subK_elim h)
    refine ⟨_, h1, fun u x' hm => ?_⟩
    rcases List.mem_cons.1 hm with e | hm
    · cases e; exact ⟨x, List.mem_cons_self .., rfl⟩
    · obtain ⟨y, h3, h4⟩ := h2 u x' hm
      exact ⟨y, List.mem_cons_of_mem _ h3, h4⟩
def subOK (r b : Nat) : SObj → (SObj → Prop) → Prop
  | .cells cs T, k => subLK r b cs fun cs => k (.cells cs T)
  | .row xs T, k => k (.row xs T)
  | .map es clk, k => k (.map es clk)
  | .iter mr since seen stepped, k => k (.iter mr since seen stepped)
  | .abs A, k => k (.abs A)
theorem subOK_elim {r b : Nat} : ∀ {o : SObj} {k : SObj → Prop}, subOK r b o k → k (subO r b o)
  | .cells cs T, _, h => subLK_elim h
  | .row xs T, _, h => h
  | .map es clk, _, h => h
  | .iter mr since seen stepped, _, h => h
  | .abs A, _, h => h
def subHK (r b : Nat) : List (Nat × SObj) → (List (Nat × SObj) → Prop) → Prop
  | [], k => k []
  | (j, o) :: l, k => match Nat.beq r j with
    | true => subHK r b l k
    | false => subOK r b o fun o => subHK r b l fun l => k ((j, o) :: l)
theorem subHK_elim {r b : Nat} : ∀ {l : List (Nat × SObj)} {k : List (Nat × SObj) → Prop}, subHK r b l k → ∃ l', k l' ∧ ∀ j o', (j, o') ∈ l' → j ≠ r ∧ ∃ o, (j, o) ∈ l ∧ o' = subO r b o
  | [], k, h => ⟨[], h, fun _ _ h => by cases h⟩
  | (j, o) :: l, k, h => by
    rw [subHK] at h
    split at h
    · obtain ⟨l', h1, h2⟩ := subHK_elim h
      refine ⟨l', h1, fun j' o' hm => ?_⟩
      obtain ⟨h3, y, h4, h5⟩ := h2 j' o' hm
      exact ⟨h3, y, List.mem_cons_of_mem _ h4, h5⟩
    · rename_i e
      have hne : j ≠ r := fun e2 => by subst e2; simp at e
      obtain ⟨l', h1, h2⟩ := subHK_elim (subOK_elim h)
      refine ⟨_, h1, fun j' o' hm => ?_⟩
      rcases List.mem_cons.1 hm with e | hm
      · cases e; exact ⟨hne, o, List.mem_cons_self .., rfl⟩
      · obtain ⟨h3, y, h4, h5⟩ := h2 j' o' hm
        exact ⟨h3, y, List.mem_cons_of_mem _ h4, h5⟩
def shK (r : Nat) (st : SS) (k : SS → Prop) : Prop :=
  match st with
  | ⟨sl, hp, nx, fx⟩ => objK r hp fun ob => rowOfK ob fun xs T => ∀ b : Nat, subSK r b sl fun sl => subHK r b hp fun hp => k ⟨sl, hp, nx, rowFact b xs T :: fx⟩
theorem shK_elim {r : Nat} {st : SS} {k : SS → Prop} (h : shK r st k) {B : Bs} {ρ : Nat → Nat} {F : Nat → Nat → Prop} {sz : Nat} {a : Act} {w : World} (ho : OkAt B ρ F st sz a w) : ∃ st', k st' ∧ OkAt B ρ F st' sz a w := by
  obtain ⟨sl, hp, nx, fx⟩ := st
  obtain ⟨ob, h1, h2⟩ := objK_elim h
  obtain ⟨xs, T, h3, h4⟩ := rowOfK_elim h2
  obtain ⟨sl', h5, h6⟩ := subSK_elim (h3 (ρ r))
  obtain ⟨hp', h7, h8⟩ := subHK_elim h5
  exact ⟨_, h7, ho.share h1 h4 h6 h8⟩
/-- The rows whose places these values hold, one after the other. -/
def shLK : List SV → SS → (SS → Prop) → Prop
  | [], st, k => k st
  | .s r _ _ _ :: l, st, k => shK r st fun st => shLK l st k
  | _ :: l, st, k => shLK l st k
theorem shLK_elim : ∀ {l : List SV} {st : SS} {k : SS → Prop}, shLK l st k → ∀ {B : Bs} {ρ : Nat → Nat} {F : Nat → Nat → Prop} {sz : Nat} {a : Act} {w : World}, OkAt B ρ F st sz a w → ∃ st', k st' ∧ OkAt B ρ F st' sz a w
  | [], st, k, h, B, ρ, F, sz, a, w, ho => ⟨st, h, ho⟩
  | x :: l, st, k, h, B, ρ, F, sz, a, w, ho => by
    cases x with
    | s r _ _ _ =>
      obtain ⟨st', h1, h2⟩ := shK_elim (show shK r st fun st => shLK l st k from h) ho
      exact shLK_elim h1 h2
    | _ => exact shLK_elim (show shLK l st k from h) ho
/-- Ahead of an operation: what it lays into a row may hold no names. -/
def preK (op : Op) (st : SS) (k : SS → Prop) : Prop :=
  match op with
  | .store _ p x => evK st x fun x => (match x with
    | .s r _ _ _ => evK st p fun p => (match p with
      | .q r' _ => objK r' st.hp fun ob => (match ob with | .row _ _ => shK r st k | _ => k st)
      | .p r' _ => objK r' st.hp fun ob => (match ob with | .row _ _ => shK r st k | _ => k st)
      | _ => k st)
    | _ => k st)
  | .call { callee := .builtin .append, args := ⟨[_, x]⟩, argTypes := _ } => evK st x fun x => (match x with
    | .s r _ _ _ => objK r st.hp fun ob => (match ob with | .cells cs _ => shLK cs st k | _ => k st)
    | _ => k st)
  | _ => k st
theorem preK_elim {op : Op} {st : SS} {k : SS → Prop} (h : preK op st k) {B : Bs} {ρ : Nat → Nat} {F : Nat → Nat → Prop} {sz : Nat} {a : Act} {w : World} (ho : OkAt B ρ F st sz a w) : ∃ st', k st' ∧ OkAt B ρ F st' sz a w := by
  unfold preK at h
  split at h
  · obtain ⟨x, h1, _⟩ := evK_elim h
    split at h1
    · obtain ⟨p, h2, _⟩ := evK_elim h1
      split at h2
      · obtain ⟨ob, _, h3⟩ := objK_elim h2
        split at h3
        · exact shK_elim h3 ho
        · exact ⟨st, h3, ho⟩
      · obtain ⟨ob, _, h3⟩ := objK_elim h2
        split at h3
        · exact shK_elim h3 ho
        · exact ⟨st, h3, ho⟩
      · exact ⟨st, h2, ho⟩
    · exact ⟨st, h1, ho⟩
  · obtain ⟨x, h1, _⟩ := evK_elim h
    split at h1
    · obtain ⟨ob, _, h3⟩ := objK_elim h1
      split at h3
      · exact shLK_elim h3 ho
      · exact ⟨st, h3, ho⟩
    · exact ⟨st, h1, ho⟩
  · exact ⟨st, h, ho⟩
/-! ### append of n noughts -/
def appendZK (tt : List (Option TI)) (st : SS) (T : TypeId) (s x : SV) (k : SV → SS → Prop) : Prop :=
  tyK tt T fun ti => match ti.und with
    | .slice e => tyK tt e fun ei => (match Nat.beq ei.zero.length ei.size && Nat.blt 0 ei.bytes && Nat.blt 0 ei.size with
      | true => plainsK ei.zero fun zs => (match s with
        | .v (.slice none 0 0) => intK x fun _ n kn => natK kn n fun n => forceN ei.bytes fun eb => forceN ei.size fun z => (0 < n ∧ n * eb ≤ 140737488355328) ∧
            ∀ (m : Nat) (sp : List Value), sp.length = m * z → newK (.row (repRow zs n ++ sp) e) st fun r st' => k (.s r 0 n (n + m)) st'
        | _ => False)
      | false => False)
    | _ => False
theorem appendZK_elim {P : Program} {tt : List (Option TI)} (ht : TOk P tt) {st : SS} {T X : TypeId} {s x : SV} {k : SV → SS → Prop} (h : appendZK tt st T s x k) {kn : IntKind} (hX : P.underlying X = some (.int kn)) {o : Oper} {A B : Operand}
    (ho : o.op = .call { callee := .builtin .append, args := #[A, B], argTypes := #[T, X] }) (hA : ∀ ρ F a w, Base ρ F st a w → a.eval A = den ρ s) (hB : ∀ ρ F a w, Base ρ F st a w → a.eval B = den ρ x) : Stp P st o k := by
  obtain ⟨ti, hti, h1⟩ := tyK_elim h
  clear h
  have hT := tyFacts (ht T ti hti)
  split at h1
  · rename_i e hd
    obtain ⟨ei, hei, h2⟩ := tyK_elim h1
    clear h1
    have hE := tyFacts (ht _ ei hei)
    split at h2
    · rename_i hq
      simp only [Bool.and_eq_true, Nat.beq_eq, Nat.blt_eq] at hq
      obtain ⟨⟨hbq, hby⟩, hsz⟩ := hq
      obtain ⟨zs, h3, hzs⟩ := plainsK_elim h2
      split at h3
      · obtain ⟨kd, n, kk, h4, hx⟩ := intK_elim h3
        obtain ⟨hn0, h5⟩ := natK_elim h4
        obtain ⟨⟨h6, h7⟩, h8⟩ := forceN_elim (forceN_elim h5)
        have h7 : n.toNat * ei.bytes ≤ 140737488355328 := h7
        intro ρ F a w hb hh
        have hb0 := hb ρ (Ag.refl _ _)
        obtain ⟨i, z, hi, hi1, hi2, hi3, hi4⟩ := hE.info
        have hzc : z.cells.toList = zs := by rw [← hzs id, ← hi4, denL_ofV]
        have hzsz : z.cells.size = ei.size := by rw [← Array.length_toList, hzc, ← hzs id, denL_length, hbq]
        have hnn : n = ((n.toNat : Nat) : Int) := (Int.toNat_of_nonneg hn0).symm
        have hr := Go.Lib.run_append_nil_zeros (P := P) w T X o.type e i z kd kn (by rw [hT.und, hd]) hX hi hi3 n.toNat h6 (by rw [hi1]; exact hsz) (by have := Nat.le_mul_of_pos_right n.toNat hby; omega) (by rw [hi2]; omega)
        rw [← hnn] at hr
        have hge := grownCap_ge w n.toNat 0 e
        have cells : ∀ m : Nat, (Builtin.zeroCells z.cells m).toList = repRow zs m := fun m => by
          rw [rep_one]
          simp only [Builtin.zeroCells]
          rw [flatten_rep_get, hzc]
        have hlen : ∀ m : Nat, (repRow zs m).length = m * ei.size := fun m => by
          rw [rep_one]
          have : zs.length = ei.size := by rw [← hzs id, denL_length, hbq]
          simp [this]
        have h9 := newK_elim (h8 (grownCap w n.toNat 0 e - n.toNat) (repRow zs (grownCap w n.toNat 0 e - n.toNat)) (hlen _))
        obtain ⟨h11, h12⟩ := hh.drew.alloc (o := .row (repRow zs n.toNat ++ repRow zs (grownCap w n.toNat 0 e - n.toNat)) e) (ob := .cells (repRow zs n.toNat ++ repRow zs (grownCap w n.toNat 0 e - n.toNat)).toArray e) (fun ρ' hr => ⟨fun k => Iff.rfl, cellsAt_alloc w.drew _ e⟩)
        refine ⟨_, _, _, updR ρ st.nx w.heap.size, _, _, h9, .inl ?_, ?_, h11, Ag.updR ρ _, by omega, (keeps_drew _ w).trans (keeps_alloc _ _ _) (fun j hj => .inl hj), h12⟩
        · simp only [execOp, ho, resolve, invoke, builtin, Sem.run_bind, Sem.run_pure, Result.andThen_ok, List.map_toArray, List.map_cons, List.map_nil, hA ρ F a w hb0, hB ρ F a w hb0, hx ρ, den]
          rw [hr]
          have e1 : n.toNat + (grownCap w n.toNat 0 e - n.toNat) = grownCap w n.toNat 0 e := by omega
          have e2 : Builtin.zeroCells z.cells n.toNat ++ Builtin.zeroCells z.cells (grownCap w n.toNat 0 e - n.toNat) = (repRow zs n.toNat ++ repRow zs (grownCap w n.toNat 0 e - n.toNat)).toArray := by
            apply Array.ext'
            rw [Array.toList_append, cells, cells]
          simp [updR_same, e1, e2]
        · intro ρ'' hr''
          simp only [den]
          rw [hr'' st.nx (by omega)]
      · exact h3.elim
    · exact h2.elim
  · exact h1.elim
/-- append, of a row or of n noughts. -/
def appendXK (tt : List (Option TI)) (st : SS) (T X : TypeId) (s x : SV) (k : SV → SS → Prop) : Prop :=
  tyK tt X fun xi => match xi.und with
    | .int _ => appendZK tt st T s x k
    | _ => appendK tt st T X s x k
theorem appendXK_elim {P : Program} {tt : List (Option TI)} (ht : TOk P tt) {st : SS} {T X : TypeId} {s x : SV} {k : SV → SS → Prop} (h : appendXK tt st T X s x k) {o : Oper} {A B : Operand}
    (ho : o.op = .call { callee := .builtin .append, args := #[A, B], argTypes := #[T, X] }) (hA : ∀ ρ F a w, Base ρ F st a w → a.eval A = den ρ s) (hB : ∀ ρ F a w, Base ρ F st a w → a.eval B = den ρ x) : Stp P st o k := by
  obtain ⟨xi, hxi, h1⟩ := tyK_elim h
  have hX := tyFacts (ht X xi hxi)
  split at h1
  · rename_i kd hd
    exact appendZK_elim ht h1 (by rw [hX.und, hd]) ho hA hB
  · exact appendK_elim ht h1 ho hA hB
end Go.Proofs.Ytekgjjanikicnaa.Sx
