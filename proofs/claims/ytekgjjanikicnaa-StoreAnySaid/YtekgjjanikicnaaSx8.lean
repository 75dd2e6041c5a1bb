/- A symbolic executor for the model's code, part 8: make, append, copy, bytes of strings. -/
import Derived.Test.YtekgjjanikicnaaSx7
namespace Go.Proofs.Ytekgjjanikicnaa.Sx
open Go
set_option linter.unusedVariables false
set_option linter.unusedSimpArgs false

theorem keeps_drew (U : Nat → Prop) (w : World) : Keeps U w w.drew := ⟨rfl, rfl, rfl, Nat.le_refl _, fun _ _ _ => rfl⟩
theorem HpOk.drew {ρ : Nat → Nat} {F : Nat → Nat → Prop} {hp : List (Nat × SObj)} {nx : Nat} {fx : List Fact} {w : World} (h : HpOk ρ F hp nx fx w) : HpOk ρ F hp nx fx w.drew :=
  ⟨fun ρ' hr r o hm => (h.obj ρ' hr r o hm).loc fun _ _ => rfl, ⟨h.shape.lt, h.shape.dis, h.shape.bnd, fun f hf => f.mono (h.shape.fact f hf) (keeps_drew _ w) fun _ hk => .inl hk⟩⟩
theorem Base.drew {ρ : Nat → Nat} {F : Nat → Nat → Prop} {st : SS} {a : Act} {w : World} (h : Base ρ F st a w) : Base ρ F st a w.drew :=
  ⟨h.slot, fun r o hm => (h.obj r o hm).loc fun _ _ => rfl⟩

/-! ### make -/
/-- n times the cells zs. -/
def repRow (zs : List Value) (n : Nat) : List Value :=
  match zs with
  | [z] => List.replicate n z
  | zs => (List.replicate n zs).flatten
theorem rep_one (zs : List Value) (n : Nat) : repRow zs n = (List.replicate n zs).flatten := by
  unfold repRow
  split
  · induction n with
    | zero => rfl
    | succ n ih => rw [List.replicate_succ, List.replicate_succ, List.flatten_cons, ← ih]; rfl
  · rfl
theorem repRow_one (z : Value) (n : Nat) : repRow [z] n = List.replicate n z := rfl
def makeSliceK (tt : List (Option TI)) (st : SS) (T : TypeId) (len cap : Operand) (k : SV → SS → Prop) : Prop :=
  tyK tt T fun ti => match ti.und with
    | .slice e => tyK tt e fun ei => (match Nat.beq ei.zero.length ei.size with
      | true => forceN ei.bytes fun eb => plainsK ei.zero fun zs => evK st len fun l => intK l fun _ l kl => evK st cap fun c => intK c fun _ c kc => leK kl l 140737488355328 fun l => leK kc c 140737488355328 fun c => (l ≤ c ∧ eb * c ≤ 281474976710656) ∧
        newK (.row (repRow zs c) e) st fun r st' => k (.s r 0 l c) st'
      | false => False)
    | _ => False
theorem makeSliceK_elim {P : Program} {tt : List (Option TI)} (ht : TOk P tt) {st : SS} {T : TypeId} {len cap : Operand} {k : SV → SS → Prop} (h : makeSliceK tt st T len cap k) {o : Oper} (ho : o.op = .makeSlice T len cap) : Stp P st o k := by
  obtain ⟨ti, hti, h1⟩ := tyK_elim h
  clear h
  have hT := tyFacts (ht T ti hti)
  split at h1
  · rename_i e hd
    obtain ⟨ei, hei, h2⟩ := tyK_elim h1
    clear h1
    have hE := tyFacts (ht _ ei hei)
    split at h2
    · rename_i hbq
      have hbq : ei.zero.length = ei.size := Nat.eq_of_beq_eq_true hbq
      obtain ⟨zs, h3, hzs⟩ := plainsK_elim (forceN_elim h2)
      obtain ⟨lv, h4, hl⟩ := evK_elim h3
      obtain ⟨_, l, kl, h5, hl'⟩ := intK_elim h4
      obtain ⟨cv, h6, hc⟩ := evK_elim h5
      obtain ⟨_, c, kc, h6', hc'⟩ := intK_elim h6
      obtain ⟨⟨h7, hll⟩, h6'⟩ := leK_elim h6'
      obtain ⟨⟨hc0, h9⟩, ⟨h8', h10'⟩, h11⟩ := leK_elim h6'
      have h8 : l ≤ c := by omega
      have h10 : (ei.bytes : Int) * c ≤ 281474976710656 := by
        have e1 : ((ei.bytes * c.toNat : Nat) : Int) = (ei.bytes : Int) * c := by
          rw [Int.natCast_mul, Int.toNat_of_nonneg hc0]
        rw [← e1]
        have h10'' : ei.bytes * c.toNat ≤ 281474976710656 := h10'
        generalize ei.bytes * c.toNat = z at h10''
        omega
      have h12 : k (.s st.nx 0 l.toNat c.toNat) ⟨st.sl, (st.nx, .row (List.replicate c.toNat zs).flatten e) :: st.hp, st.nx + 1, st.fx⟩ := by
        have h13 := newK_elim h11
        rw [rep_one] at h13
        exact h13
      clear h11
      refine Stp.alloc h12 fun ρ F a w hb hh => ?_
      refine ⟨(List.replicate c.toNat zs).flatten.toArray, e, fun ρ' hr => ⟨fun k => Iff.rfl, cellsAt_alloc w _ e⟩, .slice (some ⟨w.heap.size, 0, none⟩) l.toNat c.toNat, fun ρ' hr => by simp [den, hr], ?_⟩
      have hu : (underlying T).run P w = .ok (.slice e) w := by rw [← hd]; exact hT.run_underlying w
      obtain ⟨i, z, hi, hi1, hi2, hi3, hi4⟩ := hE.info
      have hzc : z.cells.toList = zs := by rw [← hzs id, ← hi4, denL_ofV]
      have hzsz : z.cells.size = ei.size := by rw [← Array.length_toList, hzc, ← hzs id, denL_length, hbq]
      have hti' : (typeInfo e).run P w = .ok i w := by simp [typeInfo, hi]
      have hb0 := hb ρ (Ag.refl _ _)
      have wl : IntKind.i64.wrap l = l := wrap_i64_of l (by omega) (by omega)
      have wc : IntKind.i64.wrap c = c := wrap_i64_of c (by omega) (by omega)
      have hcell : ((Array.range (c.toNat * ei.size)).map fun x => z.cells[x % z.cells.size]!) = (List.replicate c.toNat zs).flatten.toArray := by
        apply Array.ext'
        rw [← hzsz, flatten_rep_get, hzc]
      have ng : ¬ ((i.bytes : Int) * c > 2 ^ 48) := by rw [hi2]; omega
      have nl : ¬ l > c := by omega
      simp only [execOp, ho, Instr.makeSlice, Sem.run_bind, hu, Result.andThen_ok, asInt, hl ρ F a w hb0, hl' ρ, hc ρ F a w hb0, hc' ρ, asIntOf, Sem.run_pure, hti', wl, wc]
      have nc0 : ¬ c < 0 := by omega
      have nl0 : ¬ l < 0 := by omega
      simp only [nc0, nl0, ng, nl, decide_false, Bool.or_self, Bool.false_eq_true, if_false, Sem.run_bind, run_askRoom, Result.andThen_ok, hE.run_sizeOf]
      by_cases h0 : c.toNat * ei.size = 0
      · simp only [h0, if_true, Sem.run_bind, Sem.run_pure, Result.andThen_ok]
        have e2 : ((Array.range 0).map fun x => (#[] : Array Value)[x % (#[] : Array Value).size]!) = (List.replicate c.toNat zs).flatten.toArray := by rw [← hcell, h0]; simp
        rw [e2]
        simp [newRow]
      · have hz : (zeroValue e).run P w = .ok z w := by simp [zeroValue, typeInfo, hi, hi3]
        simp only [h0, if_false, Sem.run_bind, hz, Sem.run_pure, Result.andThen_ok]
        rw [hcell]
        simp [newRow]
    · exact h2.elim
  · exact h1.elim

/-! ### append -/
def remK (r : Nat) : List (Nat × SObj) → (List (Nat × SObj) → Prop) → Prop
  | [], k => k []
  | (r', x) :: l, k => match Nat.beq r r' with
    | true => remK r l k
    | false => remK r l fun l => k ((r', x) :: l)
theorem remK_elim {r : Nat} : ∀ {hp : List (Nat × SObj)} {k : List (Nat × SObj) → Prop}, remK r hp k → ∃ hp', k hp' ∧ ∀ j x, (j, x) ∈ hp' → j ≠ r ∧ (j, x) ∈ hp
  | [], k, h => ⟨[], h, fun j x hm => by cases hm⟩
  | (r', y) :: l, k, h => by
    unfold remK at h
    split at h
    · obtain ⟨l', h1, h2⟩ := remK_elim h
      exact ⟨l', h1, fun j x hm => ⟨(h2 j x hm).1, List.mem_cons_of_mem _ (h2 j x hm).2⟩⟩
    · rename_i hne
      obtain ⟨l', h1, h2⟩ := remK_elim h
      refine ⟨_, h1, fun j x hm => ?_⟩
      rcases List.mem_cons.1 hm with e | hm
      · cases e; exact ⟨fun e => by subst e; simp at hne, List.mem_cons_self ..⟩
      · exact ⟨(h2 j x hm).1, List.mem_cons_of_mem _ (h2 j x hm).2⟩
/-- A region goes, another comes. -/
def swapK (r : Nat) (o : SObj) (st : SS) (k : Nat → SS → Prop) : Prop :=
  match st with
  | ⟨sl, hp, nx, fx⟩ => remK r hp fun hp => forceN (nx + 1) fun n1 => k nx ⟨sl, (nx, o) :: hp, n1, fx⟩
/-- How many elements there are in what is appended, and their cells. -/
def srcK (st : SS) (x : SV) (z : Nat) (k : Nat → List Value → Prop) : Prop :=
  match x with
  | .v (.string s) => (match Nat.beq z 1 with
    | true => k s.size (s.data.toList.map bv)
    | false => False)
  | .s r o len cap => readPK st (.s r o len cap) (len * z) fun vs => k len vs
  | .v (.slice A len cap) => readPK st (.v (.slice A len cap)) (len * z) fun vs => k len vs
  | _ => False
theorem extract_all (s : ByteArray) : s.extract 0 s.size = s := by
  apply ByteArray.ext
  simp
theorem srcK_elim {P : Program} {st : SS} {x : SV} {z : Nat} {k : Nat → List Value → Prop} (h : srcK st x z k) : ∃ n vs, k n vs ∧ vs.length = n * z ∧
    ∀ ρ F a w, Base ρ F st a w → FOk st.fx w → (Builtin.lenOf (den ρ x)).run P w = .ok n w ∧ (Builtin.firstCells z n (den ρ x)).run P w = .ok vs.toArray w := by
  unfold srcK at h
  split at h
  · rename_i s
    split at h
    · rename_i hz
      have hz1 : z = 1 := Nat.eq_of_beq_eq_true hz
      subst hz1
      refine ⟨_, _, h, by simp, fun ρ F a w hb hs => ⟨by simp [Builtin.lenOf, den], ?_⟩⟩
      simp only [Builtin.firstCells, den, Sem.run_pure]
      congr 1
      rw [extract_all]
      apply Array.ext'
      simp [bv]
    · exact h.elim
  · obtain ⟨l, ⟨vs, h1, h2⟩, h3, h4⟩ := readPK_elim (P := P) h
    refine ⟨_, vs, h2, by rw [← h1 id, denL_length, h3], fun ρ F a w hb hs => ⟨by simp [Builtin.lenOf, den], ?_⟩⟩
    obtain ⟨A, L, C, h5, h6, h7⟩ := h4 ρ F a w hb hs
    simp only [den, Value.slice.injEq] at h5
    obtain ⟨rfl, rfl, rfl⟩ := h5
    simp only [den, Builtin.firstCells]
    rw [← h1 ρ]
    exact h7 _ rfl
  · obtain ⟨l, ⟨vs, h1, h2⟩, h3, h4⟩ := readPK_elim (P := P) h
    refine ⟨_, vs, h2, by rw [← h1 id, denL_length, h3], fun ρ F a w hb hs => ⟨by simp [Builtin.lenOf, den], ?_⟩⟩
    obtain ⟨A, L, C, h5, h6, h7⟩ := h4 ρ F a w hb hs
    simp only [den, Value.slice.injEq] at h5
    obtain ⟨rfl, rfl, rfl⟩ := h5
    rename_i A' _ _
    cases A' with
    | none =>
      have h9 := h6 rfl
      have h10 : vs = [] := by
        have h11 := congrArg List.length (h1 ρ)
        rw [denL_length, h3, h9] at h11
        exact List.length_eq_zero_iff.1 h11.symm
      subst h10
      simp [Builtin.firstCells, den]
    | some ad =>
      simp only [den, Builtin.firstCells]
      rw [← h1 ρ]
      exact h7 _ rfl
  · exact h.elim
def rowOfK (ob : SObj) (k : List Value → TypeId → Prop) : Prop :=
  match ob with
  | .row xs T => k xs T
  | .cells cs T => plainsK cs fun xs => k xs T
  | _ => False
theorem rowOfK_elim {ob : SObj} {k : List Value → TypeId → Prop} (h : rowOfK ob k) : ∃ xs T, k xs T ∧ ∀ ρ w b F, ObjOk ρ ob w b F → (∀ k, F k ↔ k = b) ∧ CellsAt w b xs T := by
  unfold rowOfK at h
  split at h
  · exact ⟨_, _, h, fun ρ w b F ho => ho⟩
  · obtain ⟨xs, h1, h2⟩ := plainsK_elim h
    exact ⟨xs, _, h1, fun ρ w b F ho => ⟨ho.1, by rw [← h2 ρ]; exact ho.2⟩⟩
  · exact h.elim
def notIntD : TypeDesc → Bool
  | .slice _ => true
  | .string => true
  | _ => false
def appendK (tt : List (Option TI)) (st : SS) (T X : TypeId) (s x : SV) (k : SV → SS → Prop) : Prop :=
  tyK tt T fun ti => match ti.und with
    | .slice e => tyK tt e fun ei => tyK tt X fun xi => (match notIntD xi.und && Nat.beq ei.zero.length ei.size && Nat.blt 0 ei.bytes && Nat.blt 0 ei.size with
      | true => forceN ei.size fun z => forceN ei.bytes fun eb => srcK st x z fun n vs => (match s with
          | .v (.slice A 0 0) => (n * eb ≤ 140737488355328) ∧ (n = 0 → k (.v (.slice A 0 0)) st) ∧
              (0 < n → ∀ (m : Nat) (sp : List Value), sp.length = m * z → newK (.row (vs ++ sp) e) st fun r st' => k (.s r 0 n (n + m)) st')
          | .s r 0 len cap => objK r st.hp fun ob => rowOfK ob fun xs U => (match Nat.beq U e with
            | true => ((len + n) * eb ≤ 140737488355328 ∧ len ≤ cap ∧ cap * z = xs.length ∧ (∀ u ∈ vs, u.oneCell' = true)) ∧
              ∀ (m : Nat) (sp : List Value), sp.length = m * z → swapK r (.row (xs.take (len * z) ++ vs ++ sp) e) st fun r st' => k (.s r 0 (len + n) (len + n + m)) st'
            | false => False)
          | .s r (o + 1) len cap => objK r st.hp fun ob => rowOfK ob fun xs U => (match Nat.beq U e with
            | true => ((len + n) * eb ≤ 140737488355328 ∧ len ≤ cap ∧ o + 1 + cap * z = xs.length ∧ (∀ u ∈ vs, u.oneCell' = true)) ∧
              ∀ (m : Nat) (pre sp : List Value), sp.length = m * z → swapK r (.row (pre ++ (xs.drop (o + 1)).take (len * z) ++ vs ++ sp) e) st fun r st' => k (.s r pre.length (len + n) (len + n + m)) st'
            | false => False)
          | _ => False)
      | false => False)
    | _ => False
theorem swapK_elim {r : Nat} {o : SObj} {st : SS} {k : Nat → SS → Prop} (h : swapK r o st k) : ∃ hp1, k st.nx ⟨st.sl, (st.nx, o) :: hp1, st.nx + 1, st.fx⟩ ∧ ∀ j x, (j, x) ∈ hp1 → j ≠ r ∧ (j, x) ∈ st.hp := by
  obtain ⟨sl, hp, nx, fx⟩ := st
  obtain ⟨hp1, h1, h2⟩ := remK_elim h
  exact ⟨hp1, forceN_elim (k := fun n1 => k nx ⟨sl, (nx, o) :: hp1, n1, fx⟩) h1, h2⟩
section
variable {P : Program} {T X e : TypeId} {ei : TI}
theorem run_append_any (hu : ∀ w, (underlying T).run P w = .ok (.slice e) w) {xd : TypeDesc} (hx : ∀ w, (underlying X).run P w = .ok xd w) (hno : notIntD xd = true) (hE : TyFacts P e ei) (h0 : 0 < ei.bytes)
    {A : Option Addr} {len cap n : Nat} {xv : Value} {vs : List Value} {w : World} (ty : TypeId) (hlen : (Builtin.lenOf xv).run P w = .ok n w) (hsz : (len + n) * ei.bytes ≤ 140737488355328)
    (hnew : (Builtin.firstCells ei.size n xv).run P w = .ok vs.toArray w) (hnew' : (Builtin.firstCells ei.size n xv).run P w.drew = .ok vs.toArray w.drew) {olds : List Value} (hold : cap < len + n → (Builtin.firstCells ei.size len (.slice A len cap)).run P w.drew = .ok olds.toArray w.drew) :
    (len + n ≤ cap → ∀ w', (match A with | some a => (storeCells (a.add (len * ei.size)) vs).run P w = .ok () w' | none => w' = w) → (Builtin.append_ #[T, X] ty #[.slice A len cap, xv]).run P w = .ok (.slice A (len + n) cap) w') ∧
    (cap < len + n → ∃ (m : Nat) (sp : List Value), sp.length = m * ei.zero.length ∧
      (Builtin.append_ #[T, X] ty #[.slice A len cap, xv]).run P w = .ok (.slice (some ⟨w.heap.size, 0, none⟩) (len + n) (len + n + m)) (w.drew.alloc (.cells (olds ++ vs ++ sp).toArray e))) := by
  obtain ⟨i, z, hi, hi1, hi2, hi3, hi4⟩ := hE.info
  have hb : (len + n) ≤ 140737488355328 := Nat.le_trans (Nat.le_mul_of_pos_right _ h0) hsz
  have hxd : (∃ y, xd = .slice y) ∨ xd = .string := by
    cases xd <;> first | exact .inl ⟨_, rfl⟩ | exact .inr rfl | (simp [notIntD] at hno)
  have hti : ∀ w, (typeInfo e).run P w = .ok i w := fun w => by simp [typeInfo, hi]
  refine ⟨fun hroom w' hst => ?_, fun hg => ?_⟩
  · rcases hxd with ⟨y, rfl⟩ | rfl <;>
    · simp only [Builtin.append_, List.getElem?_toArray, List.getElem?_cons_zero, List.getElem?_cons_succ, Sem.run_bind, hu, Result.andThen_ok, hE.run_sizeOf, hx, Sem.run_pure, Bool.false_eq_true, if_false, hlen, hroom, if_true, Bool.not_false, hnew]
      cases A with
      | none => simp only at hst; subst hst; rfl
      | some a => simp only at hst; simp [hst]
  · have hfit := growslice_fits (bytes := i.bytes) (show cap < len + n from hg) (by rw [hi2]; exact hsz)
    have hge := grownCap_ge w (len + n) cap e
    refine ⟨grownCap w (len + n) cap e - (len + n), (Builtin.zeroCells z.cells (grownCap w (len + n) cap e - (len + n))).toList, ?_, ?_⟩
    · rw [← hi4, List.length_map, Array.length_toList, Array.length_toList]; simp [Builtin.zeroCells]
    · have n1 : ¬ (len + n ≤ cap) := by omega
      have n2 : ¬ (((len + n : Nat) : Int) > IntKind.i64.max ∧ (False ∨ i.bytes = 0)) := by rintro ⟨_, h | h⟩; exact h; omega
      have n3 : ¬ (Builtin.nextslicecap (len + n) cap * i.bytes > 2 ^ 48) := by omega
      have hcap : grownCap w (len + n) cap e = (Question.appendCap (len + n) cap e).cut (w.tape w.drawn (.appendCap (len + n) cap e)) := rfl
      have hz : ∀ w, (zeroValue e).run P w = .ok z w := fun w => by simp [zeroValue, typeInfo, hi, hi3]
      have e1 : len + n + (grownCap w (len + n) cap e - (len + n)) = grownCap w (len + n) cap e := by omega
      rcases hxd with ⟨y, rfl⟩ | rfl <;>
      · simp only [Builtin.append_, List.getElem?_toArray, List.getElem?_cons_zero, List.getElem?_cons_succ, Sem.run_bind, hu, Result.andThen_ok, hE.run_sizeOf, hx, Sem.run_pure, Bool.false_eq_true, if_false, hlen, n1, hti, n2, n3,
          run_choose, Question.forced, run_askRoom, Bool.not_false, if_true, World.drew_eq, ← hcap]
        rw [hold hg]
        simp only [Result.andThen_ok]
        rw [hnew']
        simp only [Result.andThen_ok, hz, Sem.run_bind, newRow, run_newObj, Sem.run_pure, World.alloc_eq]
        rw [e1]
        congr 1
        congr 1
        congr 1
        apply Array.ext'
        simp
end
theorem appendK_elim {P : Program} {tt : List (Option TI)} (ht : TOk P tt) {st : SS} {T X : TypeId} {s x : SV} {k : SV → SS → Prop} (h : appendK tt st T X s x k) {o : Oper} {A B : Operand}
    (ho : o.op = .call { callee := .builtin .append, args := #[A, B], argTypes := #[T, X] })
    (hA : ∀ ρ F a w, Base ρ F st a w → a.eval A = den ρ s) (hB : ∀ ρ F a w, Base ρ F st a w → a.eval B = den ρ x) : Stp P st o k := by
  obtain ⟨ti, hti, h1⟩ := tyK_elim h
  clear h
  have hT := tyFacts (ht T ti hti)
  split at h1
  · rename_i e hd
    obtain ⟨ei, hei, h2⟩ := tyK_elim h1
    clear h1
    obtain ⟨xi, hxi, h3⟩ := tyK_elim h2
    clear h2
    have hE := tyFacts (ht _ ei hei)
    have hX := (tyFacts (ht _ xi hxi)).run_underlying
    have hu : ∀ w, (underlying T).run P w = .ok (.slice e) w := fun w => by rw [← hd]; exact hT.run_underlying w
    split at h3
    · rename_i hc
      simp only [Bool.and_eq_true, Nat.blt_eq] at hc
      obtain ⟨⟨⟨hno, hbq⟩, hby⟩, hs0⟩ := hc
      have hbq : ei.zero.length = ei.size := Nat.eq_of_beq_eq_true hbq
      replace h3 := forceN_elim h3
      replace h3 := forceN_elim h3
      obtain ⟨n, vs, h4, h5, h6⟩ := srcK_elim (P := P) h3
      clear h3
      have run : ∀ (a : Act) w, (execOp a.eval o).run P w = ((Builtin.append_ #[T, X] o.type #[a.eval A, a.eval B]).run P w).andThen fun y w' => .ok (.value y) w' := by
        intro a w
        simp only [execOp, ho, resolve, Sem.run_bind, Sem.run_pure, Result.andThen_ok, invoke, builtin]
        simp
      split at h4
      · rename_i A0
        obtain ⟨h7, h8, h9⟩ := h4
        intro ρ F a w hb hh
        have hb0 := hb ρ (Ag.refl _ _)
        obtain ⟨hlen, hnew⟩ := h6 ρ F a w hb0 hh.shape.fok
        have hnew' := (h6 ρ F a w.drew hb0.drew hh.drew.shape.fok).2
        obtain ⟨hroom, hgrow⟩ := run_append_any (P := P) (A := A0) (len := 0) (cap := 0) (n := n) (xv := den ρ x) (vs := vs) (w := w) (olds := []) hu hX hno hE hby o.type hlen (by simpa using h7) hnew hnew'
          (fun _ => by cases A0 <;> simp [Builtin.firstCells, loadCells, loadCellsFrom])
        by_cases hn : n = 0
        · subst hn
          refine ⟨_, _, _, ρ, F, w, h8 rfl, .inl ?_, fun _ _ => rfl, hh, Ag.refl _ _, Nat.le_refl _, Keeps.refl _ _, fun k hk => .inl hk⟩
          rw [run a w, hA ρ F a w hb0, hB ρ F a w hb0]
          simp only [den]
          rw [hroom (by omega) w (by cases A0 with
            | none => rfl
            | some a0 =>
              obtain rfl : vs = [] := List.length_eq_zero_iff.1 (by rw [h5, Nat.zero_mul])
              rfl)]
          rfl
        · obtain ⟨m, sp, hsp, hr⟩ := hgrow (by omega)
          have h10 := newK_elim (h9 (by omega) m sp (by rw [hsp, hbq]))
          obtain ⟨h11, h12⟩ := hh.drew.alloc (o := .row (vs ++ sp) e) (ob := .cells (vs ++ sp).toArray e) (fun ρ' hr => ⟨fun k => Iff.rfl, cellsAt_alloc w.drew _ e⟩)
          refine ⟨_, _, _, updR ρ st.nx w.heap.size, _, w.drew.alloc (.cells (vs ++ sp).toArray e), h10, .inl ?_, ?_, h11, Ag.updR ρ _, by omega, (keeps_drew _ w).trans (keeps_alloc _ _ _) (fun j hj => .inl hj), h12⟩
          · rw [run a w, hA ρ F a w hb0, hB ρ F a w hb0]
            simp only [den]
            rw [hr]
            simp [updR_same]
          · intro ρ'' hr''
            simp only [den]
            rw [hr'' st.nx (by omega)]
      · rename_i r len cap
        obtain ⟨ob, hm, h7⟩ := objK_elim h4
        clear h4
        obtain ⟨xs, U, h8, hrow⟩ := rowOfK_elim h7
        clear h7
        split at h8
        · rename_i hU
          have hU : U = e := Nat.eq_of_beq_eq_true hU
          subst hU
          obtain ⟨⟨h9, h10, h11, h12⟩, h13⟩ := h8
          intro ρ F a w hb hh
          have hb0 := hb ρ (Ag.refl _ _)
          obtain ⟨hlen, hnew⟩ := h6 ρ F a w hb0 hh.shape.fok
          have hnew' := (h6 ρ F a w.drew hb0.drew hh.drew.shape.fok).2
          have hobj := hb0.obj r ob hm
          obtain ⟨hF, hcells⟩ := hrow _ _ _ _ hobj
          have hlz : len * ei.size ≤ xs.length := Nat.le_trans (Nat.mul_le_mul_right _ h10) (Nat.le_of_eq h11)
          obtain ⟨hroom, hgrow⟩ := run_append_any (P := P) (A := some ⟨ρ r, 0, none⟩) (len := len) (cap := cap) (n := n) (xv := den ρ x) (vs := vs) (w := w) (olds := xs.take (len * ei.size)) hu hX hno hE hby o.type hlen h9 hnew hnew'
            (fun _ => by
              simp only [Builtin.firstCells]
              exact run_cells_sub (w := w.drew) (cs := xs) (T := U) (o := 0) (hcells.loc rfl) (by simp) (by simp; omega))
          -- the old region goes
          have own_rest : ∀ hp1 : List (Nat × SObj), (∀ j y, (j, y) ∈ hp1 → j ≠ r ∧ (j, y) ∈ st.hp) → ∀ k, F r k → Own st.hp F k ∧ ¬ Own hp1 F k := by
            intro hp1 hsub k hk
            refine ⟨⟨r, ob, hm, hk⟩, ?_⟩
            rintro ⟨j, y, hj, hFj⟩
            exact hh.shape.dis j y r ob (hsub j y hj).2 hm (hsub j y hj).1 k hFj hk
          by_cases hfit : len + n ≤ cap
          · have hle : len * ei.size + vs.length ≤ xs.length := by
              rw [h5, ← Nat.add_mul]; exact Nat.le_trans (Nat.mul_le_mul_right _ hfit) (Nat.le_of_eq h11)
            obtain ⟨w', hst, hc', hk'⟩ := cellsAt_store (P := P) (o := len * ei.size) hcells hle h12
            have hs2 : splice xs (len * ei.size) vs = xs.take (len * ei.size) ++ vs ++ xs.drop ((len + n) * ei.size) := by
              unfold splice; rw [h5, ← Nat.add_mul]
            obtain ⟨hp1, h14, h15⟩ := swapK_elim (h13 (cap - (len + n)) (xs.drop ((len + n) * ei.size)) (by rw [List.length_drop, Nat.sub_mul, h11]))
            rw [hs2] at hc'
            have hkr : Keeps (F r) w w' := hk'.mono fun k hk => (hF k).2 hk
            have hnew2 := hh.new (hp1 := hp1) (fun y hy => (h15 y.1 y.2 hy).2) hkr (fun k hk => (own_rest hp1 h15 k hk).1) (fun k hk => (own_rest hp1 h15 k hk).2)
              (o := .row (xs.take (len * ei.size) ++ vs ++ xs.drop ((len + n) * ei.size)) U) (b := ρ r) (G := F r) (fun ρ' hr => ⟨hF, hc'⟩)
              (fun k hk => .inl (own_rest hp1 h15 k hk)) (fun k hk => Nat.lt_of_lt_of_le (hh.shape.bnd r ob hm k hk) hk'.size)
            refine ⟨_, _, _, _, _, w', h14, .inl ?_, ?_, hnew2, Ag.updR ρ _, by omega, hkr.mono fun k hk => ⟨r, ob, hm, hk⟩, ?_⟩
            · rw [run a w, hA ρ F a w hb0, hB ρ F a w hb0]
              simp only [den]
              rw [hroom hfit w' (by simp only; rw [add_at, Nat.zero_add]; exact hst)]
              have e1 : len + n + (cap - (len + n)) = cap := by omega
              simp [updR_same, e1]
            · intro ρ'' hr''
              simp only [den]
              rw [hr'' st.nx (by omega)]
            · intro k hk
              rcases own_new (fun j y hj => hh.shape.lt j y (h15 j y hj).2) hk with h16 | h16
              · exact .inl ⟨r, ob, hm, h16⟩
              · exact .inl (h16.mono fun y hy => (h15 y.1 y.2 hy).2)
          · obtain ⟨m, sp, hsp, hr⟩ := hgrow (by omega)
            obtain ⟨hp1, h14, h15⟩ := swapK_elim (h13 m sp (by rw [hsp, hbq]))
            have hkr : Keeps (fun _ => False) w (w.drew.alloc (.cells (xs.take (len * ei.size) ++ vs ++ sp).toArray U)) := (keeps_drew _ w).trans (keeps_alloc _ _ _) (fun j hj => .inl hj)
            have hnew2 := hh.new (hp1 := hp1) (fun y hy => (h15 y.1 y.2 hy).2) hkr (fun k hk => hk.elim) (fun k hk => hk.elim)
              (o := .row (xs.take (len * ei.size) ++ vs ++ sp) U) (b := w.heap.size) (G := fun k => k = w.heap.size) (fun ρ' hr => ⟨fun k => Iff.rfl, cellsAt_alloc w.drew _ U⟩)
              (fun k hk => .inr (Nat.le_of_eq hk.symm)) (fun k hk => by subst hk; simp)
            refine ⟨_, _, _, _, _, _, h14, .inl ?_, ?_, hnew2, Ag.updR ρ _, by omega, hkr.mono fun k hk => hk.elim, ?_⟩
            · rw [run a w, hA ρ F a w hb0, hB ρ F a w hb0]
              simp only [den]
              rw [hr]
              simp [updR_same]
            · intro ρ'' hr''
              simp only [den]
              rw [hr'' st.nx (by omega)]
            · intro k hk
              rcases own_new (fun j y hj => hh.shape.lt j y (h15 j y hj).2) hk with h16 | h16
              · exact .inr (Nat.le_of_eq h16.symm)
              · exact .inl (h16.mono fun y hy => (h15 y.1 y.2 hy).2)
        · exact h8.elim
      · rename_i r o0 len cap
        obtain ⟨ob, hm, h7⟩ := objK_elim h4
        clear h4
        obtain ⟨xs, U, h8, hrow⟩ := rowOfK_elim h7
        clear h7
        split at h8
        · rename_i hU
          have hU : U = e := Nat.eq_of_beq_eq_true hU
          subst hU
          obtain ⟨⟨h9, h10, h11, h12⟩, h13⟩ := h8
          intro ρ F a w hb hh
          have hb0 := hb ρ (Ag.refl _ _)
          obtain ⟨hlen, hnew⟩ := h6 ρ F a w hb0 hh.shape.fok
          have hnew' := (h6 ρ F a w.drew hb0.drew hh.drew.shape.fok).2
          have hobj := hb0.obj r ob hm
          obtain ⟨hF, hcells⟩ := hrow _ _ _ _ hobj
          have hlz1 : len * ei.size ≤ cap * ei.size := Nat.mul_le_mul_right _ h10
          have hlz : o0 + 1 + len * ei.size ≤ xs.length := by omega
          obtain ⟨hroom, hgrow⟩ := run_append_any (P := P) (A := some ⟨ρ r, o0 + 1, none⟩) (len := len) (cap := cap) (n := n) (xv := den ρ x) (vs := vs) (w := w) (olds := (xs.drop (o0 + 1)).take (len * ei.size)) hu hX hno hE hby o.type hlen h9 hnew hnew'
            (fun _ => by
              simp only [Builtin.firstCells]
              exact run_cells_sub (w := w.drew) (cs := xs) (T := U) (o := o0 + 1) (hcells.loc rfl) rfl (by simp; omega))
          -- the old region goes
          have own_rest : ∀ hp1 : List (Nat × SObj), (∀ j y, (j, y) ∈ hp1 → j ≠ r ∧ (j, y) ∈ st.hp) → ∀ k, F r k → Own st.hp F k ∧ ¬ Own hp1 F k := by
            intro hp1 hsub k hk
            refine ⟨⟨r, ob, hm, hk⟩, ?_⟩
            rintro ⟨j, y, hj, hFj⟩
            exact hh.shape.dis j y r ob (hsub j y hj).2 hm (hsub j y hj).1 k hFj hk
          by_cases hfit : len + n ≤ cap
          · have hcz : (len + n) * ei.size ≤ cap * ei.size := Nat.mul_le_mul_right _ hfit
            have hle : o0 + 1 + len * ei.size + vs.length ≤ xs.length := by
              rw [h5]; rw [Nat.add_mul] at hcz; omega
            obtain ⟨w', hst, hc', hk'⟩ := cellsAt_store (P := P) (o := o0 + 1 + len * ei.size) hcells hle h12
            have hs2 : splice xs (o0 + 1 + len * ei.size) vs = xs.take (o0 + 1) ++ (xs.drop (o0 + 1)).take (len * ei.size) ++ vs ++ xs.drop (o0 + 1 + (len + n) * ei.size) := by
              unfold splice; rw [h5, Nat.add_assoc (o0 + 1), ← Nat.add_mul, List.take_add]
            have hpl : (xs.take (o0 + 1)).length = o0 + 1 := by rw [List.length_take]; omega
            obtain ⟨hp1, h14, h15⟩ := swapK_elim (h13 (cap - (len + n)) (xs.take (o0 + 1)) (xs.drop (o0 + 1 + (len + n) * ei.size)) (by rw [List.length_drop, Nat.sub_mul]; omega))
            rw [hs2] at hc'
            have hkr : Keeps (F r) w w' := hk'.mono fun k hk => (hF k).2 hk
            have hnew2 := hh.new (hp1 := hp1) (fun y hy => (h15 y.1 y.2 hy).2) hkr (fun k hk => (own_rest hp1 h15 k hk).1) (fun k hk => (own_rest hp1 h15 k hk).2)
              (o := .row (xs.take (o0 + 1) ++ (xs.drop (o0 + 1)).take (len * ei.size) ++ vs ++ xs.drop (o0 + 1 + (len + n) * ei.size)) U) (b := ρ r) (G := F r) (fun ρ' hr => ⟨hF, hc'⟩)
              (fun k hk => .inl (own_rest hp1 h15 k hk)) (fun k hk => Nat.lt_of_lt_of_le (hh.shape.bnd r ob hm k hk) hk'.size)
            refine ⟨_, _, _, _, _, w', h14, .inl ?_, ?_, hnew2, Ag.updR ρ _, by omega, hkr.mono fun k hk => ⟨r, ob, hm, hk⟩, ?_⟩
            · rw [run a w, hA ρ F a w hb0, hB ρ F a w hb0]
              simp only [den]
              rw [hroom hfit w' (by simp only; rw [add_at]; exact hst)]
              have e1 : len + n + (cap - (len + n)) = cap := by omega
              simp only [updR_same, e1, hpl]
              rfl
            · intro ρ'' hr''
              simp only [den]
              rw [hr'' st.nx (by omega)]
            · intro k hk
              rcases own_new (fun j y hj => hh.shape.lt j y (h15 j y hj).2) hk with h16 | h16
              · exact .inl ⟨r, ob, hm, h16⟩
              · exact .inl (h16.mono fun y hy => (h15 y.1 y.2 hy).2)
          · obtain ⟨m, sp, hsp, hr⟩ := hgrow (by omega)
            obtain ⟨hp1, h14, h15⟩ := swapK_elim (h13 m [] sp (by rw [hsp, hbq]))
            have hkr : Keeps (fun _ => False) w (w.drew.alloc (.cells ((xs.drop (o0 + 1)).take (len * ei.size) ++ vs ++ sp).toArray U)) := (keeps_drew _ w).trans (keeps_alloc _ _ _) (fun j hj => .inl hj)
            have hnew2 := hh.new (hp1 := hp1) (fun y hy => (h15 y.1 y.2 hy).2) hkr (fun k hk => hk.elim) (fun k hk => hk.elim)
              (o := .row ([] ++ (xs.drop (o0 + 1)).take (len * ei.size) ++ vs ++ sp) U) (b := w.heap.size) (G := fun k => k = w.heap.size) (fun ρ' hr => ⟨fun k => Iff.rfl, cellsAt_alloc w.drew _ U⟩)
              (fun k hk => .inr (Nat.le_of_eq hk.symm)) (fun k hk => by subst hk; simp)
            refine ⟨_, _, _, _, _, _, h14, .inl ?_, ?_, hnew2, Ag.updR ρ _, by omega, hkr.mono fun k hk => hk.elim, ?_⟩
            · rw [run a w, hA ρ F a w hb0, hB ρ F a w hb0]
              simp only [den]
              rw [hr]
              simp [updR_same]
            · intro ρ'' hr''
              simp only [den]
              rw [hr'' st.nx (by omega)]
            · intro k hk
              rcases own_new (fun j y hj => hh.shape.lt j y (h15 j y hj).2) hk with h16 | h16
              · exact .inr (Nat.le_of_eq h16.symm)
              · exact .inl (h16.mono fun y hy => (h15 y.1 y.2 hy).2)
        · exact h8.elim
      · exact h4.elim
    · exact h3.elim
  · exact h1.elim

/-! ### copy, and the bytes of a string -/
def copyK (tt : List (Option TI)) (st : SS) (T : TypeId) (d x : SV) (k : SV → SS → Prop) : Prop :=
  tyK tt T fun ti => match ti.und with
    | .slice e => tyK tt e fun ei => forceN ei.size fun z => (match d with
      | .s r o len _ => objK r st.hp fun ob => rowOfK ob fun xs U => (match x with
        | .s r' o' n c => readPK st (.s r' o' n c) (min n len * z) fun vs => (o + vs.length ≤ xs.length ∧ (∀ u ∈ vs, u.oneCell' = true)) ∧ withO r (.row (splice xs o vs) U) st (k (.v (.int .i64 ((min n len : Nat) : Int))))
        | .v (.slice A n c) => readPK st (.v (.slice A n c)) (min n len * z) fun vs => (o + vs.length ≤ xs.length ∧ (∀ u ∈ vs, u.oneCell' = true)) ∧ withO r (.row (splice xs o vs) U) st (k (.v (.int .i64 ((min n len : Nat) : Int))))
        | _ => False)
      | _ => False)
    | _ => False
theorem copyK_elim {P : Program} {tt : List (Option TI)} (ht : TOk P tt) {st : SS} {T : TypeId} {d x : SV} {k : SV → SS → Prop} (h : copyK tt st T d x k) {o : Oper} {A B : Operand} {ats : Array TypeId} (h0 : ats[0]? = some T)
    (ho : o.op = .call { callee := .builtin .copy, args := #[A, B], argTypes := ats })
    (hA : ∀ ρ F a w, Base ρ F st a w → a.eval A = den ρ d) (hB : ∀ ρ F a w, Base ρ F st a w → a.eval B = den ρ x) : Stp P st o k := by
  obtain ⟨ti, hti, h1⟩ := tyK_elim h
  clear h
  have hT := tyFacts (ht T ti hti)
  split at h1
  · rename_i e hd
    obtain ⟨ei, hei, h2⟩ := tyK_elim h1
    clear h1
    replace h2 := forceN_elim h2
    have hE := tyFacts (ht _ ei hei)
    have hu : ∀ w, (underlying T).run P w = .ok (.slice e) w := fun w => by rw [← hd]; exact hT.run_underlying w
    split at h2
    · rename_i r od len cap
      obtain ⟨ob, hm, h3⟩ := objK_elim h2
      obtain ⟨xs, U, h4, hrow⟩ := rowOfK_elim h3
      clear h2 h3
      have run : ∀ (a : Act) w, (execOp a.eval o).run P w = ((Builtin.copy_ ats o.type #[a.eval A, a.eval B]).run P w).andThen fun y w' => .ok (.value y) w' := by
        intro a w
        simp only [execOp, ho, resolve, Sem.run_bind, Sem.run_pure, Result.andThen_ok, invoke, builtin]
        simp
      have fin : ∀ (n : Nat) (l : List SV) (vs : List Value), (∀ ρ, denL ρ l = vs) → (od + vs.length ≤ xs.length ∧ (∀ u ∈ vs, u.oneCell' = true)) → withO r (.row (splice xs od vs) U) st (k (.v (.int .i64 ((min n len : Nat) : Int)))) →
          (∀ ρ F a w, Base ρ F st a w → FOk st.fx w → ∃ A L C, den ρ x = .slice A L C ∧ L = n ∧ (A = none → min n len * ei.size = 0) ∧ ∀ ad, A = some ad → (loadCells ad (min n len * ei.size)).run P w = .ok (denL ρ l).toArray w) → (∀ ρ F a w, Base ρ F st a w → FOk st.fx w → (match den ρ x with | .slice none _ _ => vs = [] | _ => True)) → Stp P st o k := by
        intro n l vs h5 h6 h7 h8 h8'
        refine Stp.upd hm h7 fun ρ F a w hb hh => ?_
        have hb0 := hb ρ (Ag.refl _ _)
        have hobj := hb0.obj r ob hm
        obtain ⟨hF, hcells⟩ := hrow _ _ _ _ hobj
        obtain ⟨w', hst, hc', hk'⟩ := cellsAt_store (P := P) (o := od) hcells h6.1 h6.2
        refine ⟨w', hk'.mono fun k hk => (hF k).2 hk, fun ρ' hr => ?_, fun _ _ => rfl, .inl ?_⟩
        · have hobj' := (hb ρ' hr).obj r ob hm
          have hrr : ρ' r = ρ r := hr r (hh.shape.lt r _ hm)
          exact ⟨(hrow _ _ _ _ hobj').1, by rw [hrr]; exact hc'⟩
        · obtain ⟨ad, L, C, h9, hL, _, h10⟩ := h8 ρ F a w hb0 hh.shape.fok
          subst hL
          have h13 : (Builtin.firstCells ei.size (min L len) (.slice ad L C)).run P w = .ok vs.toArray w := by
            cases ad with
            | none =>
              have h14 := h8' ρ F a w hb0 hh.shape.fok
              rw [h9] at h14
              simp only [Builtin.firstCells, Sem.run_pure]
              rw [show vs = [] from h14]
            | some ad' => simp only [Builtin.firstCells]; rw [← h5 ρ]; exact h10 _ rfl
          rw [run a w, hA ρ F a w hb0, hB ρ F a w hb0, h9]
          simp only [den, Builtin.copy_, h0, List.getElem?_toArray, List.getElem?_cons_zero, List.getElem?_cons_succ, Sem.run_bind, hu, Result.andThen_ok, Builtin.lenOf, Sem.run_pure, hE.run_sizeOf]
          rw [show (Nat.min L len) = min L len from rfl, h13]
          simp only [Result.andThen_ok, hst, goInt]
      split at h4
      · obtain ⟨l, ⟨vs, h5, h6, h7⟩, h8, h9⟩ := readPK_elim (P := P) h4
        refine fin _ l vs h5 h6 h7 (fun ρ F a w hb hs => ?_) (fun ρ F a w hb hs => ?_)
        · obtain ⟨A, L, C, h10, h11, h12⟩ := h9 ρ F a w hb hs
          refine ⟨A, L, C, h10, ?_, h11, h12⟩
          simp only [den, Value.slice.injEq] at h10
          exact h10.2.1.symm
        · obtain ⟨A, L, C, h10, h11, h12⟩ := h9 ρ F a w hb hs
          rw [h10]
          cases A with
          | none =>
            have h13 := congrArg List.length (h5 ρ)
            rw [denL_length, h8, h11 rfl] at h13
            exact List.length_eq_zero_iff.1 h13.symm
          | some ad => trivial
      · obtain ⟨l, ⟨vs, h5, h6, h7⟩, h8, h9⟩ := readPK_elim (P := P) h4
        refine fin _ l vs h5 h6 h7 (fun ρ F a w hb hs => ?_) (fun ρ F a w hb hs => ?_)
        · obtain ⟨A, L, C, h10, h11, h12⟩ := h9 ρ F a w hb hs
          refine ⟨A, L, C, h10, ?_, h11, h12⟩
          simp only [den, Value.slice.injEq] at h10
          exact h10.2.1.symm
        · obtain ⟨A, L, C, h10, h11, h12⟩ := h9 ρ F a w hb hs
          rw [h10]
          cases A with
          | none =>
            have h13 := congrArg List.length (h5 ρ)
            rw [denL_length, h8, h11 rfl] at h13
            exact List.length_eq_zero_iff.1 h13.symm
          | some ad => trivial
      · exact h4.elim
    · exact h2.elim
  · exact h1.elim
def bytesK (tt : List (Option TI)) (st : SS) (src dst : TypeId) (x : SV) (k : SV → SS → Prop) : Prop :=
  tyK tt src fun si => tyK tt dst fun di => match si.und, di.und with
    | .string, .slice e => tyK tt e fun ei => (match ei.und with
      | .int .u8 => (match x with
        | .v (.string s) => ∀ (m : Nat), newK (.row (s.data.toList.map bv ++ List.replicate m (.int .u8 0)) e) st fun r st' => k (.s r 0 s.size (s.size + m)) st'
        | _ => False)
      | _ => False)
    | _, _ => False
theorem bytesK_elim {P : Program} {tt : List (Option TI)} (ht : TOk P tt) {st : SS} {src dst : TypeId} {x : SV} {k : SV → SS → Prop} (h : bytesK tt st src dst x k) {o : Oper} {A : Operand} (ho : o.op = .convert src dst A)
    (hA : ∀ ρ F a w, Base ρ F st a w → a.eval A = den ρ x) : Stp P st o k := by
  obtain ⟨si, hsi, h1⟩ := tyK_elim h
  clear h
  obtain ⟨di, hdi, h⟩ := tyK_elim h1
  clear h1
  have hS := (tyFacts (ht _ si hsi)).run_underlying
  have hD := (tyFacts (ht _ di hdi)).run_underlying
  split at h
  · rename_i e hs hd
    obtain ⟨ei, hei, h1⟩ := tyK_elim h
    clear h
    have hE := (tyFacts (ht _ ei hei)).run_underlying
    split at h1
    · rename_i he
      split at h1
      · rename_i s
        intro ρ F a w hb hh
        have hb0 := hb ρ (Ag.refl _ _)
        have hge : s.size ≤ (Question.appendCap s.size 0 e).cut (w.tape w.drawn (.appendCap s.size 0 e)) := by simp [Question.cut]
        generalize hcap : (Question.appendCap s.size 0 e).cut (w.tape w.drawn (.appendCap s.size 0 e)) = cap at hge
        have h2 := newK_elim (h1 (cap - s.size))
        let cs : List Value := s.data.toList.map bv ++ List.replicate (cap - s.size) (.int .u8 0)
        have hcl : cs.length = cap := by
          simp only [cs, List.length_append, List.length_map, Array.length_toList, List.length_replicate]
          have : s.data.size = s.size := rfl
          omega
        let w1 : World := (w.drew.alloc (.cells cs.toArray e)).freeze ⟨w.heap.size, cap, none⟩ 1
        have hw1 : w1.heap[w.heap.size]? = some (.cells cs.toArray e (cap, cap + 1)) := by
          simp only [w1, World.freeze, Nat.one_ne_zero, if_false, Array.getElem?_modify, if_true]
          rw [show (w.drew.alloc (Obj.cells cs.toArray e)).heap[w.heap.size]? = some (Obj.cells cs.toArray e) from heap_alloc_new w.drew _]
          rfl
        have hk1 : Keeps (fun _ => False) w w1 := by
          refine ⟨rfl, rfl, rfl, ?_, fun k hk _ => ?_⟩
          · simp [w1, World.freeze]
          · simp only [w1, World.freeze, Nat.one_ne_zero, if_false, Array.getElem?_modify]
            rw [if_neg (by omega)]
            exact heap_alloc_old w.drew _ k hk
        have hcell : CellsAt w1 w.heap.size cs e := ⟨(cap, cap + 1), hw1, .inr (by simp only; omega)⟩
        have hnew := hh.new (hp1 := st.hp) (fun _ hy => hy) hk1 (fun k hk => hk.elim) (fun k hk => hk.elim) (o := .row cs e) (b := w.heap.size) (G := fun k => k = w.heap.size) (fun ρ' hr => ⟨fun k => Iff.rfl, hcell⟩)
          (fun k hk => .inr (Nat.le_of_eq hk.symm)) (fun k hk => by subst hk; simp [w1, World.freeze])
        refine ⟨_, _, _, _, _, w1, h2, .inl ?_, ?_, hnew, Ag.updR ρ _, by omega, hk1.mono fun k hk => hk.elim, ?_⟩
        · simp only [execOp, ho, hA ρ F a w hb0, den, convert, Sem.run_bind, hS, hD, hs, hd, Result.andThen_ok, hE, he, Conv.stringToBytes, run_choose, Question.forced, Bool.false_eq_true, if_false, hcap]
          have hel : (s.data.map (fun b => Value.int .u8 (b.toNat : Int)) ++ Array.replicate (cap - s.size) (Value.int .u8 0)) = cs.toArray := by
            apply Array.ext'
            simp [cs, bv]
          simp only [newRow, run_newObj, Sem.run_bind, Result.andThen_ok, Sem.run_pure, World.drew_eq, World.alloc_eq]
          rw [hel]
          have hsh : (w.drew.alloc (.cells cs.toArray e)).shape? w.heap.size = some (e, cap) := by
            simp only [World.shape?]
            rw [show (w.drew.alloc (Obj.cells cs.toArray e)).heap[w.heap.size]? = some (Obj.cells cs.toArray e) from heap_alloc_new w.drew _]
            simp [hcl]
          simp only [markStringish, Sem.run_bind, run_shape, World.size_drew, hsh, Result.andThen_ok, run_freeze, updR_same]
          have e3 : s.size + (cap - s.size) = cap := by omega
          rw [e3]
        · intro ρ'' hr''
          simp only [den]
          rw [hr'' st.nx (by omega)]
        · intro k hk
          rcases own_new hh.shape.lt hk with h16 | h16
          · exact .inr (Nat.le_of_eq h16.symm)
          · exact .inl h16
      · exact h1.elim
    · exact h1.elim
  · exact h.elim
/-- A slice of bytes as the same: only the place behind the row is marked. -/
def rebytesK (tt : List (Option TI)) (st : SS) (src dst : TypeId) (x : SV) (k : SV → SS → Prop) : Prop :=
  tyK tt src fun si => tyK tt dst fun di => match si.und, di.und with
    | .slice _, .slice e => tyK tt e fun ei => (match ei.und, Nat.beq src dst with
      | .int .u8, true => (match x with
        | .s r o len cap => objK r st.hp fun ob => (match ob with
          | .cells cs T => withO r (.cells cs T) st (k (.s r o len cap))
          | .row xs T => withO r (.row xs T) st (k (.s r o len cap))
          | _ => False)
        | _ => False)
      | _, _ => False)
    | _, _ => False
theorem cellsAt_mark {w : World} {b : Nat} {cs : List Value} {T : TypeId} (h : CellsAt w b cs T) : CellsAt (w.freeze ⟨b, cs.length, none⟩ 1) b cs T ∧ Keeps (fun k => k = b) w (w.freeze ⟨b, cs.length, none⟩ 1) := by
  obtain ⟨⟨lo, hi⟩, h1, h2⟩ := h
  refine ⟨?_, ?_⟩
  · refine ⟨if lo == hi then (cs.length, cs.length + 1) else (min lo cs.length, max hi (cs.length + 1)), ?_, ?_⟩
    · simp only [World.freeze, Nat.one_ne_zero, if_false, Array.getElem?_modify, if_true, h1]
      rfl
    · right
      simp only at h2
      split
      · exact Nat.le_refl _
      · rename_i hne
        simp only [beq_iff_eq] at hne
        simp only
        omega
  · refine ⟨rfl, rfl, rfl, by simp [World.freeze], fun k hk hn => ?_⟩
    simp only [World.freeze, Nat.one_ne_zero, if_false, Array.getElem?_modify]
    rw [if_neg (Ne.symm hn)]
theorem rebytesK_elim {P : Program} {tt : List (Option TI)} (ht : TOk P tt) {st : SS} {src dst : TypeId} {x : SV} {k : SV → SS → Prop} (h : rebytesK tt st src dst x k) {o : Oper} {A : Operand} (ho : o.op = .convert src dst A)
    (hA : ∀ ρ F a w, Base ρ F st a w → a.eval A = den ρ x) : Stp P st o k := by
  obtain ⟨si, hsi, h1⟩ := tyK_elim h
  clear h
  obtain ⟨di, hdi, h⟩ := tyK_elim h1
  clear h1
  have hS := (tyFacts (ht _ si hsi)).run_underlying
  have hD := (tyFacts (ht _ di hdi)).run_underlying
  split at h
  · rename_i e' e hs hd
    obtain ⟨ei, hei, h1⟩ := tyK_elim h
    clear h
    have hE := (tyFacts (ht _ ei hei)).run_underlying
    split at h1
    · rename_i he hb
      have hsd : src = dst := Nat.eq_of_beq_eq_true hb
      subst hsd
      have hsi' : si = di := by rw [hsi] at hdi; simpa using hdi
      subst hsi'
      have hee : e' = e := by rw [hs] at hd; cases hd; rfl
      subst hee
      split at h1
      · rename_i r off len cap
        obtain ⟨ob, hm, h2⟩ := objK_elim h1
        have run : ∀ (a : Act) (w : World) (b : Nat) (cs : List Value) (T : TypeId), CellsAt w b cs T → (a.eval A = .slice (some ⟨b, off, none⟩) len cap) → (execOp a.eval o).run P w = .ok (.value (.slice (some ⟨b, off, none⟩) len cap)) (w.freeze ⟨b, cs.length, none⟩ 1) := by
          intro a w b cs T hc hx
          have hsh : w.shape? b = some (T, cs.length) := by
            obtain ⟨fz, h, _⟩ := hc
            simp [World.shape?, h]
          simp only [execOp, ho, hx, convert, Sem.run_bind, hS, hD, hs, hd, Result.andThen_ok, hE, he, beq_self_eq_true, markStringish, run_shape, hsh, run_freeze, Sem.run_pure]
        split at h2
        · rename_i cs T
          refine Stp.upd hm h2 fun ρ F a w hb hh => ?_
          have hb0 := hb ρ (Ag.refl _ _)
          have hobj := hb0.obj r _ hm
          obtain ⟨hc, hk⟩ := cellsAt_mark hobj.2
          refine ⟨_, hk.mono fun k hk' => (hobj.1 k).2 hk', fun ρ' hr => ?_, fun ρ' hr => ?_, .inl (run a w _ _ _ hobj.2 (hA ρ F a w hb0))⟩
          · have h5 := (hb ρ' hr).obj r _ hm
            refine ⟨h5.1, ?_⟩
            have h6 := (cellsAt_mark h5.2).1
            have e1 : ρ' r = ρ r := hr r (hh.shape.lt r _ hm)
            rw [denL_length] at h6 ⊢
            rw [e1] at h6 ⊢
            exact h6
          · have e1 : ρ' r = ρ r := hr r (hh.shape.lt r _ hm)
            simp only [den, e1]
        · rename_i xs T
          refine Stp.upd hm h2 fun ρ F a w hb hh => ?_
          have hb0 := hb ρ (Ag.refl _ _)
          have hobj := hb0.obj r _ hm
          obtain ⟨hc, hk⟩ := cellsAt_mark hobj.2
          refine ⟨_, hk.mono fun k hk' => (hobj.1 k).2 hk', fun ρ' hr => ?_, fun ρ' hr => ?_, .inl (run a w _ _ _ hobj.2 (hA ρ F a w hb0))⟩
          · have e1 : ρ' r = ρ r := hr r (hh.shape.lt r _ hm)
            have h5 := (hb ρ' hr).obj r _ hm
            refine ⟨h5.1, ?_⟩
            rw [e1]; exact hc
          · have e1 : ρ' r = ρ r := hr r (hh.shape.lt r _ hm)
            simp only [den, e1]
        · exact h2.elim
      · exact h1.elim
    · exact h1.elim
  · exact h.elim
end Go.Proofs.Ytekgjjanikicnaa.Sx
