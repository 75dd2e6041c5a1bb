/- A symbolic executor for the model's code, part 7: structs and arrays that are built, new slices, append, copy, bytes of strings. -/
import Derived.Test.YtekgjjanikicnaaSx6
import Derived.Laws.Append
import Derived.Laws.AppendOwn
namespace Go.Proofs.Ytekgjjanikicnaa.Sx
open Go
set_option linter.unusedVariables false
set_option linter.unusedSimpArgs false

/-! ### parts laid into cells -/
theorem foldl_splice : ∀ (n : List Value) (o s : Nat) (c : Array Value), o + s + n.length ≤ c.size →
    (n.zipIdx s).foldl (fun (cs : Array Value) (x : Value × Nat) => cs.setIfInBounds (o + x.2) x.1) c = (splice c.toList (o + s) n).toArray
  | [], o, s, c, h => by simp [splice_nil]
  | x :: r, o, s, c, h => by
    simp only [List.zipIdx_cons, List.foldl_cons]
    rw [foldl_splice r o (s + 1) _ (by simp at h ⊢; omega)]
    have hlt : o + s < c.toList.length := by simp at h ⊢; omega
    rw [← splice_cons c.toList (o + s) x r hlt, Array.toList_setIfInBounds]
    rfl
theorem fill_cons (place : Nat → Option (Nat × Nat)) (cells : List Value) (i : Nat) (v : Value) (rest : List (Nat × Value)) (off size : Nat) (hp : place i = some (off, size)) (hs : v.cells.size = size) (hl : off + size ≤ cells.length) :
    Instr.fill place cells.toArray ((i, v) :: rest) = Instr.fill place (splice cells off v.cells.toList).toArray rest := by
  simp only [Instr.fill, hp]
  have hl' : off + v.cells.toList.length ≤ cells.length := by rw [Array.length_toList]; omega
  rw [if_neg (by simp [hs]; omega)]
  congr 1
  rw [← Array.foldl_toList, Array.toList_zipIdx]
  have := foldl_splice v.cells.toList off 0 cells.toArray (by simpa using hl')
  simpa using this
def fillK (st : SS) (place : Nat → (Nat → Nat → Prop) → Prop) : List (Nat × Operand) → List SV → (List SV → Prop) → Prop
  | [], cells, k => k cells
  | (i, x) :: r, cells, k => evK st x fun v => cellsK v fun l => place i fun off size => match Nat.beq l.length size with
    | true => spliceS cells off l fun cells => fillK st place r cells k
    | false => False
theorem fillK_elim {st : SS} {place : Nat → (Nat → Nat → Prop) → Prop} {pl : Nat → Option (Nat × Nat)} (hpl : ∀ i k, place i k → ∃ off size, pl i = some (off, size) ∧ k off size) :
    ∀ {parts : List (Nat × Operand)} {cells : List SV} {k : List SV → Prop}, fillK st place parts cells k →
    ∃ l, k l ∧ l.length = cells.length ∧ ∀ ρ F a w, Base ρ F st a w → Instr.fill pl (denL ρ cells).toArray (parts.map fun (i, x) => (i, a.eval x)) = some (denL ρ l).toArray
  | [], cells, k, h => ⟨cells, h, rfl, fun _ _ _ _ _ => rfl⟩
  | (i, x) :: r, cells, k, h => by
    obtain ⟨v, h1, h2⟩ := evK_elim h
    obtain ⟨l, h3, h4, _⟩ := cellsK_elim h1
    obtain ⟨off, size, h5, h6⟩ := hpl _ _ h3
    split at h6
    · rename_i hb
      have hlen : l.length = size := Nat.eq_of_beq_eq_true hb
      obtain ⟨h7, h8⟩ := spliceS_elim h6
      obtain ⟨l', h9, h10, h11⟩ := fillK_elim hpl h8
      refine ⟨l', h9, by rw [h10, splice_length _ _ _ h7], fun ρ F a w hb => ?_⟩
      have hv : a.eval x = den ρ v := h2 ρ F a w hb
      simp only [List.map_cons]
      rw [fill_cons pl (denL ρ cells) i _ _ off size h5]
      · rw [hv, h4 ρ, denL_eq, denL_eq, ← splice_map, ← denL_eq]
        exact h11 ρ F a w hb
      · rw [hv, ← Array.length_toList, h4 ρ, denL_length, hlen]
      · rw [denL_length, ← hlen]; exact h7
    · exact h6.elim
/-- The places of a struct's fields. -/
def placesK (tt : List (Option TI)) : List Field → (List (Nat × Nat) → Prop) → Prop
  | [], k => k []
  | f :: r, k => tyK tt f.type fun fi => placesK tt r fun l => k ((f.offset, fi.size) :: l)
theorem placesK_elim {P : Program} {tt : List (Option TI)} (ht : TOk P tt) : ∀ {fs : List Field} {k : List (Nat × Nat) → Prop}, placesK tt fs k →
    ∃ l, k l ∧ ∀ w, (fs.mapM fun f => do pure (f.offset, ← sizeOf f.type) : Sem (List (Nat × Nat))).run P w = .ok l w
  | [], k, h => ⟨[], h, fun w => rfl⟩
  | f :: r, k, h => by
    obtain ⟨fi, h1, h2⟩ := tyK_elim h
    have hT := tyFacts (ht _ fi h1)
    obtain ⟨l, h3, h4⟩ := placesK_elim ht h2
    refine ⟨_, h3, fun w => ?_⟩
    simp only [List.mapM_cons, Sem.run_bind, hT.run_sizeOf, Result.andThen_ok, Sem.run_pure]
    rw [h4 w]
    rfl
def buildK (tt : List (Option TI)) (st : SS) (T : TypeId) (parts : List (Nat × Operand)) (k : SV → Prop) : Prop :=
  tyK tt T fun ti => match ti.und with
    | .struct ⟨fs⟩ => placesK tt fs fun pl => fillK st (fun i k => nthK pl i fun p => k p.1 p.2) parts ti.zero fun l => k (.agg l)
    | .array _ e => tyK tt e fun ei => fillK st (fun i k => forceN (i * ei.size) fun o => k o ei.size) parts ti.zero fun l => k (.agg l)
    | _ => False
theorem zero_den {P : Program} {T : TypeId} {ti : TI} (hT : TyFacts P T ti) (w : World) : ∃ z : Value, (zeroValue T).run P w = .ok z w ∧ ∀ ρ, z.cells.toList = denL ρ ti.zero := by
  obtain ⟨z, h1, h2⟩ := hT.run_zero w
  exact ⟨z, h1, fun ρ => by rw [← h2, denL_ofV]⟩
theorem map_parts (parts : Array (Nat × Operand)) (f : Operand → Value) : (parts.map fun (i, x) => (i, f x)).toList = parts.toList.map fun (i, x) => (i, f x) := by simp
theorem buildK_elim {P : Program} {tt : List (Option TI)} (ht : TOk P tt) {st : SS} {T : TypeId} {parts : Array (Nat × Operand)} {k : SV → Prop} (h : buildK tt st T parts.toList k) :
    ∃ y, k y ∧ ∀ ρ F a w, Base ρ F st a w → (Instr.build T (parts.map fun (i, x) => (i, a.eval x))).run P w = .ok (den ρ y) w := by
  obtain ⟨ti, hti, h1⟩ := tyK_elim h
  clear h
  have hT := tyFacts (ht T ti hti)
  split at h1
  · rename_i fs hd
    obtain ⟨pl, h2, h3⟩ := placesK_elim ht h1
    obtain ⟨l, h4, h5, h6⟩ := fillK_elim (pl := fun i => pl.toArray[i]?) (fun i k hk => by
      obtain ⟨p, h7, h8⟩ := nthK_elim hk
      exact ⟨p.1, p.2, by simpa using h7, h8⟩) h2
    refine ⟨_, h4, fun ρ F a w hb => ?_⟩
    obtain ⟨z, h7, h8⟩ := zero_den hT w
    have h9 := h6 ρ F a w hb
    rw [← h8 ρ, Array.toArray_toList] at h9
    have hm : (fs.toArray.mapM fun f => do pure (f.offset, ← sizeOf f.type) : Sem (Array (Nat × Nat))).run P w = .ok pl.toArray w := by
      rw [List.mapM_toArray]
      simp only [Sem.run_map, h3 w, Result.andThen_ok]
    have hu : (underlying T).run P w = .ok (.struct ⟨fs⟩) w := by rw [← hd]; exact hT.run_underlying w
    simp only [Instr.build, Sem.run_bind, h7, Result.andThen_ok, hu]
    erw [hm]
    simp only [Result.andThen_ok, map_parts, h9, Sem.run_pure, den]
  · rename_i n e hd
    obtain ⟨ei, hei, h2⟩ := tyK_elim h1
    have hE := tyFacts (ht _ ei hei)
    obtain ⟨l, h4, h5, h6⟩ := fillK_elim (pl := fun i => some (i * ei.size, ei.size)) (fun i k hk => ⟨_, _, rfl, forceN_elim (k := fun o => k o ei.size) hk⟩) h2
    refine ⟨_, h4, fun ρ F a w hb => ?_⟩
    obtain ⟨z, h7, h8⟩ := zero_den hT w
    have h9 := h6 ρ F a w hb
    rw [← h8 ρ, Array.toArray_toList] at h9
    simp only [Instr.build, Sem.run_bind, h7, Result.andThen_ok, hT.run_underlying, hd, hE.run_sizeOf, map_parts, h9, Sem.run_pure, den]
  · exact h1.elim

/-! ### a slice that is written out -/
def repS (zs : List SV) : Nat → (List SV → Prop) → Prop
  | 0, k => k []
  | n + 1, k => repS zs n fun l => appS zs l k
where
  appS : List SV → List SV → (List SV → Prop) → Prop
  | [], l, k => k l
  | x :: r, l, k => appS r l fun m => k (x :: m)
theorem appS_elim : ∀ {a b : List SV} {k : List SV → Prop}, repS.appS a b k → k (a ++ b)
  | [], b, k, h => h
  | x :: r, b, k, h => by have := appS_elim (a := r) h; simpa using this
theorem repS_elim {zs : List SV} : ∀ {n : Nat} {k : List SV → Prop}, repS zs n k → k (List.replicate n zs).flatten
  | 0, k, h => by simpa [repS] using h
  | n + 1, k, h => by
    have h1 := repS_elim (zs := zs) (n := n) (k := fun l => repS.appS zs l k) h
    have h2 := appS_elim h1
    simpa [List.replicate_succ] using h2
theorem flatten_rep_get {α : Type} [Inhabited α] (z : Array α) (n : Nat) : ((Array.range (n * z.size)).map (fun i => z[i % z.size]!)).toList = (List.replicate n z.toList).flatten := by
  induction n with
  | zero => simp
  | succ n ih =>
    have hs : Array.range ((n + 1) * z.size) = Array.range (n * z.size) ++ (Array.range z.size).map (fun i => n * z.size + i) := by
      rw [Nat.succ_mul, Array.range_add]
    rw [hs, Array.map_append, Array.toList_append, ih, List.replicate_succ']
    simp only [List.flatten_append, List.flatten_cons, List.flatten_nil, List.append_nil]
    congr 1
    apply List.ext_getElem?
    intro i
    by_cases hi : i < z.size
    · simp [hi, Nat.mod_eq_of_lt]
    · simp [hi]
def buildSliceK (tt : List (Option TI)) (st : SS) (T : TypeId) (len : Nat) (parts : List (Nat × Operand)) (k : SV → SS → Prop) : Prop :=
  tyK tt T fun ti => match ti.und with
    | .slice e => tyK tt e fun ei => (match Nat.ble (len * ei.size) 16777216, Nat.beq ei.zero.length ei.size with
      | true, true => repS ei.zero len fun z => fillK st (fun i k => forceN (i * ei.size) fun o => k o ei.size) parts z fun l => newK (.cells l e) st fun r st' => k (.s r 0 len len) st'
      | _, _ => False)
    | _ => False
theorem buildSliceK_elim {P : Program} {tt : List (Option TI)} (ht : TOk P tt) {st : SS} {T : TypeId} {len : Nat} {parts : Array (Nat × Operand)} {k : SV → SS → Prop} (h : buildSliceK tt st T len parts.toList k) {o : Oper} (ho : o.op = .buildSlice T len parts) : Stp P st o k := by
  obtain ⟨ti, hti, h1⟩ := tyK_elim h
  clear h
  have hT := tyFacts (ht T ti hti)
  split at h1
  · rename_i e hd
    obtain ⟨ei, hei, h2⟩ := tyK_elim h1
    clear h1
    have hE := tyFacts (ht _ ei hei)
    split at h2
    · rename_i hle hbq
      have hle : len * ei.size ≤ 16777216 := Nat.le_of_ble_eq_true hle
      have hbq : ei.zero.length = ei.size := Nat.eq_of_beq_eq_true hbq
      have h3 := repS_elim h2
      obtain ⟨l, h4, h5, h6⟩ := fillK_elim (pl := fun i => some (i * ei.size, ei.size)) (fun i k hk => ⟨_, _, rfl, forceN_elim (k := fun o => k o ei.size) hk⟩) h3
      have h7 := newK_elim h4
      refine Stp.alloc h7 fun ρ F a w hb hh => ?_
      obtain ⟨z, h8, h9⟩ := zero_den hE w
      have hzs : z.cells.size = ei.size := by rw [← Array.length_toList, h9 ρ, denL_length, hbq]
      have hfill : ∀ ρ', Ag st.nx ρ ρ' → Instr.fill (fun i => some (i * ei.size, ei.size)) ((Array.range (len * ei.size)).map (fun i => z.cells[i % z.cells.size]!)) (parts.toList.map fun (i, x) => (i, a.eval x)) = some (denL ρ' l).toArray := by
        intro ρ' hr
        have h10 := h6 ρ' F a w (hb ρ' hr)
        have e1 : (denL ρ' (List.replicate len ei.zero).flatten) = ((Array.range (len * ei.size)).map (fun i => z.cells[i % z.cells.size]!)).toList := by
          rw [← hzs, flatten_rep_get, h9 ρ', denL_eq, List.map_flatten, List.map_replicate, ← denL_eq]
        rw [e1, Array.toArray_toList] at h10
        exact h10
      have hsame : ∀ ρ', Ag st.nx ρ ρ' → denL ρ' l = denL ρ l := by
        intro ρ' hr
        have h11 := hfill ρ' hr
        rw [hfill ρ (Ag.refl _ _)] at h11
        simpa using h11.symm
      refine ⟨(denL ρ l).toArray, e, fun ρ' hr => ⟨fun k => Iff.rfl, by rw [hsame ρ' hr]; exact cellsAt_alloc w _ e⟩, .slice (some ⟨w.heap.size, 0, none⟩) len len, fun ρ' hr => by simp [den, hr], ?_⟩
      have hu : (underlying T).run P w = .ok (.slice e) w := by rw [← hd]; exact hT.run_underlying w
      have hgt : ¬ len * ei.size > 2 ^ 24 := by omega
      simp only [execOp, ho, Instr.buildSlice, Sem.run_bind, hu, Result.andThen_ok, hE.run_sizeOf, hgt, if_false, map_parts]
      by_cases h0 : len * ei.size = 0
      · have hf := hfill ρ (Ag.refl _ _)
        simp only [h0, if_true] at hf ⊢
        simp only [Sem.run_bind, Sem.run_pure, Result.andThen_ok]
        have e2 : ((Array.range 0).map fun x => (#[] : Array Value)[x % (#[] : Array Value).size]!) = ((Array.range 0).map (fun i => z.cells[i % z.cells.size]!)) := by simp
        rw [e2, hf]
        simp [newRow]
      · have hf := hfill ρ (Ag.refl _ _)
        simp only [h0, if_false, Sem.run_bind, h8, Result.andThen_ok, Sem.run_pure]
        rw [hf]
        simp [newRow]
    · exact h2.elim
  · exact h1.elim
end Go.Proofs.Ytekgjjanikicnaa.Sx
