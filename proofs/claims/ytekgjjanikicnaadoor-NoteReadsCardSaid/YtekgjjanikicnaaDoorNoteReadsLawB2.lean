/- Lemmas of this proof, part 2: 7 texts joined. -/
import Derived.Test.YtekgjjanikicnaaDoorNoteReadsLawB1
import Derived.MapKept
import Derived.Laws.Strings
import Derived.Deep.LoopGhost
import Derived.Lib.AppendZeros
import Derived.Test.YtekgjjanikicnaaDoorWLast
namespace Go.Proofs.YtekgjjanikicnaaDoor.Sx
open Go
set_option linter.unusedVariables false
set_option linter.unusedSimpArgs false

def kdK (a b : IntKind) (k : Prop) : Prop := match decide (a = b) with | true => k | false => False
theorem kdK_elim {a b : IntKind} {k : Prop} (h : kdK a b k) : a = b ∧ k := by
  unfold kdK at h; split at h
  · rename_i hd; exact ⟨of_decide_eq_true hd, h⟩
  · exact h.elim

/-! ### Entries -/
def findJ : List MapEntry → Int → Nat → Option (Nat × Value)
  | [], _, _ => none
  | e :: r, i, n => match e.key with
    | .int _ k => if i = k then some (n, e.val) else findJ r i (n + 1)
    | _ => findJ r i (n + 1)
def findI (l : List MapEntry) (i : Int) : Option Value := (findJ l i 0).map (·.2)
structure MapOk (kd : IntKind) (es : Array MapEntry) (clk : Nat) : Prop where
  keys : ∀ e ∈ es.toList, ∃ k, e.key = .int kd k
  kdis : (es.toList.map (·.key)).Nodup
  bdis : (es.toList.map (·.born)).Nodup
  born : ∀ e ∈ es.toList, e.born < clk
theorem MapOk.empty (kd : IntKind) (clk : Nat) : MapOk kd #[] clk := ⟨by simp, by simp, by simp, by simp⟩
theorem findI_empty (i : Int) : findI [] i = none := rfl
theorem findNow_int {kd : IntKind} {i : Int} : ∀ (l : List MapEntry) (n : Nat), (∀ e ∈ l, ∃ k, e.key = .int kd k) → Instr.findNow (.int kd) (.int kd i) l n = some (findJ l i n)
  | [], n, _ => rfl
  | e :: r, n, h => by
    obtain ⟨k, hk⟩ := h e (List.mem_cons_self ..)
    have ih := findNow_int (i := i) r (n + 1) (fun e he => h e (List.mem_cons_of_mem _ he))
    simp only [Instr.findNow, hk, Instr.sameNow, if_true, findJ]
    by_cases he : i = k
    · subst he; simp
    · rw [show (i == k) = false by simpa using he, if_neg he]
      exact ih
theorem findJ_get : ∀ {l : List MapEntry} {i : Int} {n j : Nat} {v : Value}, findJ l i n = some (j, v) → ∃ d e q, j = n + d ∧ l[d]? = some e ∧ e.key = .int q i ∧ e.val = v
  | [], i, n, j, v, h => by cases h
  | e :: r, i, n, j, v, h => by
    have next : findJ r i (n + 1) = some (j, v) → ∃ d e' q, j = n + d ∧ (e :: r)[d]? = some e' ∧ e'.key = .int q i ∧ e'.val = v := fun h => by
      obtain ⟨d, e', q, h1, h2, h3⟩ := findJ_get h
      exact ⟨d + 1, e', q, by omega, by simpa using h2, h3⟩
    unfold findJ at h
    split at h
    · rename_i q k hk
      split at h
      · rename_i he
        subst he
        cases h
        exact ⟨0, e, q, rfl, rfl, hk, rfl⟩
      · exact next h
    · exact next h
theorem findJ_none : ∀ {l : List MapEntry} {i : Int} {n : Nat}, findJ l i n = none → ∀ e ∈ l, ∀ q, e.key ≠ .int q i
  | [], i, n, h, e, he, q => by cases he
  | e :: r, i, n, h, e', he, q => by
    unfold findJ at h
    split at h
    · rename_i q' k hk
      split at h
      · cases h
      · rename_i hne
        rcases List.mem_cons.1 he with rfl | he
        · rw [hk]; simp only [ne_eq, Value.int.injEq, not_and]; exact fun _ e => hne e.symm
        · exact findJ_none h e' he q
    · rename_i hno
      rcases List.mem_cons.1 he with rfl | he
      · exact fun e => hno _ _ e
      · exact findJ_none h e' he q
theorem findJ_shift : ∀ {l : List MapEntry} {i : Int} {n m : Nat}, (findJ l i n).map (·.2) = (findJ l i m).map (·.2)
  | [], i, n, m => rfl
  | e :: r, i, n, m => by
    unfold findJ
    split
    · split
      · rfl
      · exact findJ_shift
    · exact findJ_shift
theorem findI_cons (e : MapEntry) (r : List MapEntry) (i : Int) : findI (e :: r) i = match e.key with
    | .int _ k => if i = k then some e.val else findI r i
    | _ => findI r i := by
  unfold findI
  conv => lhs; unfold findJ
  split
  · split
    · rfl
    · exact findJ_shift
  · exact findJ_shift
theorem findI_some {l : List MapEntry} {i : Int} {v : Value} (h : findI l i = some v) : ∃ e ∈ l, (∃ q, e.key = .int q i) ∧ e.val = v := by
  unfold findI at h
  cases hj : findJ l i 0 with
  | none => rw [hj] at h; cases h
  | some x =>
    obtain ⟨j, v'⟩ := x
    rw [hj] at h
    cases h
    obtain ⟨d, e, q, _, h2, h3, h4⟩ := findJ_get hj
    exact ⟨e, List.mem_of_getElem? h2, ⟨q, h3⟩, h4⟩
theorem findI_none {l : List MapEntry} {i : Int} (h : findI l i = none) : ∀ e ∈ l, ∀ q, e.key ≠ .int q i := by
  unfold findI at h
  cases hj : findJ l i 0 with
  | none => exact findJ_none hj
  | some x => rw [hj] at h; cases h
theorem findI_mem : ∀ {l : List MapEntry} {i : Int} {e : MapEntry} {kd : IntKind}, (∀ e ∈ l, ∃ k, e.key = .int kd k) → (l.map (·.key)).Nodup → e ∈ l → e.key = .int kd i → findI l i = some e.val
  | x :: r, i, e, kd, hk, hn, he, hi => by
    rw [List.map_cons, List.nodup_cons] at hn
    obtain ⟨k, hx⟩ := hk x (List.mem_cons_self ..)
    rw [findI_cons, hx]
    simp only
    rcases List.mem_cons.1 he with rfl | he
    · rw [hi] at hx; cases hx; simp
    · by_cases h : i = k
      · subst h
        exact absurd (List.mem_map.2 ⟨e, he, by rw [hi, hx]⟩) hn.1
      · rw [if_neg h]
        exact findI_mem (fun e he => hk e (List.mem_cons_of_mem _ he)) hn.2 he hi
theorem MapOk.find {kd : IntKind} {es : Array MapEntry} {clk : Nat} (h : MapOk kd es clk) {e : MapEntry} {i : Int} (he : e ∈ es.toList) (hi : e.key = .int kd i) : findI es.toList i = some e.val := findI_mem h.keys h.kdis he hi
theorem MapOk.entry {kd : IntKind} {es : Array MapEntry} {clk : Nat} (h : MapOk kd es clk) {i : Int} {v : Value} (hf : findI es.toList i = some v) : ∃ e ∈ es.toList, e.key = .int kd i ∧ e.val = v := by
  obtain ⟨e, he, ⟨q, hq⟩, hv⟩ := findI_some hf
  obtain ⟨k, hk⟩ := h.keys e he
  rw [hk] at hq
  cases hq
  exact ⟨e, he, hk, hv⟩
/-- What a store leaves. -/
def updI (es : Array MapEntry) (clk : Nat) (kd : IntKind) (i : Int) (v : Value) : Array MapEntry × Nat :=
  match findJ es.toList i 0 with
  | some (j, _) => (es.modify j fun e => { e with key := .int kd i, val := v }, clk)
  | none => (es.push { key := .int kd i, val := v, born := clk }, clk + 1)
theorem map_modify_same {α β : Type} (g : α → β) (f : α → α) : ∀ (l : List α) (j : Nat), (∀ e, l[j]? = some e → g (f e) = g e) → (l.modify j f).map g = l.map g
  | [], j, h => by simp
  | x :: r, 0, h => by simp [List.modify, h x rfl]
  | x :: r, j + 1, h => by
    have := map_modify_same g f r j (fun e he => h e (by simpa using he))
    simp [List.modify_succ_cons, this]
theorem findI_modify {kd : IntKind} {i : Int} {v : Value} : ∀ (l : List MapEntry) (n j : Nat) (v0 : Value), findJ l i n = some (n + j, v0) → ∀ i', findI (l.modify j fun e => { e with key := .int kd i, val := v }) i' = if i' = i then some v else findI l i'
  | [], n, j, v0, h, i' => by cases h
  | e :: r, n, j, v0, h, i' => by
    unfold findJ at h
    have step : ∀ (hne : ∀ q, e.key ≠ .int q i), findJ r i (n + 1) = some (n + j, v0) → findI ((e :: r).modify j fun e => { e with key := .int kd i, val := v }) i' = if i' = i then some v else findI (e :: r) i' := by
      intro hne h
      obtain ⟨d, e', q, h1, _⟩ := findJ_get h
      obtain ⟨j', rfl⟩ : ∃ j', j = j' + 1 := ⟨d, by omega⟩
      have ih := findI_modify (kd := kd) (v := v) r (n + 1) j' v0 (by rw [h]; congr 2; omega) i'
      rw [List.modify_succ_cons, findI_cons, findI_cons, ih]
      split
      · rename_i q' k hk
        by_cases h2 : i' = i
        · subst h2
          have : i' ≠ k := fun e => hne q' (by rw [hk, e])
          simp [this]
        · simp [h2]
      · by_cases h2 : i' = i <;> simp [h2]
    split at h
    · rename_i q k hk
      split at h
      · rename_i he
        subst he
        simp only [Option.some.injEq, Prod.mk.injEq] at h
        obtain rfl : j = 0 := by omega
        simp only [List.modify_zero_cons]
        rw [findI_cons, findI_cons, hk]
        by_cases h2 : i' = i <;> simp [h2]
      · rename_i hne
        exact step (fun q' e => hne (by rw [hk] at e; cases e; rfl)) h
    · rename_i hno
      exact step (fun q' e => hno _ _ e) h
theorem findI_push {kd : IntKind} {i : Int} {v : Value} {b : Nat} : ∀ (l : List MapEntry), findI l i = none → ∀ i', findI (l ++ [{ key := .int kd i, val := v, born := b }]) i' = if i' = i then some v else findI l i'
  | [], h, i' => by simp [findI_cons, findI_empty]
  | e :: r, h, i' => by
    have hk := findI_none h e (List.mem_cons_self ..)
    rw [findI_cons] at h
    rw [List.cons_append, findI_cons, findI_cons]
    split at h
    · rename_i q k hk'
      split at h
      · cases h
      · rename_i hne
        have ih := findI_push (kd := kd) (v := v) (b := b) r h i'
        by_cases h2 : i' = i
        · subst h2; simp [hk', hne, ih]
        · simp [hk', ih, h2]
    · rename_i hno
      have ih := findI_push (kd := kd) (v := v) (b := b) r h i'
      cases hkey : e.key <;> simp_all
theorem updI_ok {kd : IntKind} {es : Array MapEntry} {clk : Nat} (h : MapOk kd es clk) (i : Int) (v : Value) :
    MapOk kd (updI es clk kd i v).1 (updI es clk kd i v).2 ∧ ∀ i', findI (updI es clk kd i v).1.toList i' = if i' = i then some v else findI es.toList i' := by
  unfold updI
  cases hj : findJ es.toList i 0 with
  | some x =>
    obtain ⟨j, v0⟩ := x
    simp only
    obtain ⟨d, e, q, h1, h2, h3, h4⟩ := findJ_get hj
    obtain rfl : d = j := by omega
    have hmem := List.mem_of_getElem? h2
    have hkd : e.key = .int kd i := by
      obtain ⟨k, hk⟩ := h.keys e hmem
      rw [hk] at h3; cases h3; exact hk
    have m1 : ((es.modify d fun e => { e with key := .int kd i, val := v }).toList.map (·.key)) = es.toList.map (·.key) := by
      rw [Array.toList_modify]
      exact map_modify_same _ _ _ _ (fun e' he => by rw [h2] at he; cases he; exact hkd.symm)
    have m2 : ((es.modify d fun e => { e with key := .int kd i, val := v }).toList.map (·.born)) = es.toList.map (·.born) := by
      rw [Array.toList_modify]
      exact map_modify_same _ _ _ _ (fun e' he => rfl)
    refine ⟨⟨fun e' he => ?_, by rw [m1]; exact h.kdis, by rw [m2]; exact h.bdis, fun e' he => ?_⟩, fun i' => ?_⟩
    · have : e'.key ∈ es.toList.map (·.key) := by rw [← m1]; exact List.mem_map.2 ⟨e', he, rfl⟩
      obtain ⟨e2, h5, h6⟩ := List.mem_map.1 this
      obtain ⟨k, hk⟩ := h.keys e2 h5
      exact ⟨k, by rw [← h6, hk]⟩
    · have : e'.born ∈ es.toList.map (·.born) := by rw [← m2]; exact List.mem_map.2 ⟨e', he, rfl⟩
      obtain ⟨e2, h5, h6⟩ := List.mem_map.1 this
      rw [← h6]; exact h.born e2 h5
    · rw [Array.toList_modify]
      exact findI_modify es.toList 0 d v0 (by rw [hj, Nat.zero_add]) i'
  | none =>
    simp only
    have hno := findJ_none hj
    refine ⟨⟨fun e' he => ?_, ?_, ?_, fun e' he => ?_⟩, fun i' => ?_⟩
    · rw [Array.toList_push, List.mem_append, List.mem_singleton] at he
      rcases he with he | rfl
      · exact h.keys e' he
      · exact ⟨i, rfl⟩
    · rw [Array.toList_push, List.map_append, List.nodup_append]
      refine ⟨h.kdis, by simp, fun a ha b hb => ?_⟩
      obtain ⟨e2, h5, rfl⟩ := List.mem_map.1 ha
      simp only [List.map_cons, List.map_nil, List.mem_singleton] at hb
      subst hb
      exact hno e2 h5 kd
    · rw [Array.toList_push, List.map_append, List.nodup_append]
      refine ⟨h.bdis, by simp, fun a ha b hb => ?_⟩
      obtain ⟨e2, h5, rfl⟩ := List.mem_map.1 ha
      simp only [List.map_cons, List.map_nil, List.mem_singleton] at hb
      subst hb
      have := h.born e2 h5
      omega
    · rw [Array.toList_push, List.mem_append, List.mem_singleton] at he
      rcases he with he | rfl
      · have := h.born e' he; omega
      · exact Nat.lt_succ_self _
    · rw [Array.toList_push]
      exact findI_push es.toList (by unfold findI; rw [hj]; rfl) i'

/-! ### What the model runs -/
def setO (w : World) (b : Nat) (o : Obj) : World := { w with heap := w.heap.setIfInBounds b o }
theorem setO_same {w : World} {b : Nat} {x : Obj} (hb : w.heap[b]? = some x) (o : Obj) : (setO w b o).heap[b]? = some o := by
  have h := (Array.getElem?_eq_some_iff.1 hb).1
  simp [setO, h]
theorem keeps_setO (w : World) (b : Nat) (o : Obj) : Keeps (fun k => k = b) w (setO w b o) :=
  ⟨rfl, rfl, rfl, by simp [setO], fun k _ hk => by simp only [setO]; rw [Array.getElem?_setIfInBounds_ne (Ne.symm hk)]⟩
def noCells : Obj → Bool
  | .cells _ _ _ => false
  | _ => true
theorem run_getObj {P : Program} {w : World} {b : Nat} {o : Obj} (hb : w.heap[b]? = some o) (hn : noCells o = true := by rfl) : (getObj b).run P w = .ok o w := by
  cases o <;> simp_all [noCells, getObj, Sem.run]
theorem run_setObj {P : Program} {w : World} {b : Nat} {x : Obj} (hb : w.heap[b]? = some x) (o : Obj) (hn : noCells x = true := by rfl) : (setObj b o).run P w = .ok () (setO w b o) := by
  cases x <;> simp_all [noCells, setObj, Sem.run, setO]
section
variable {P : Program} {T kt e : TypeId} {kd : IntKind} {w : World} {b : Nat} {es : Array MapEntry} {clk : Nat}
theorem run_checkKey (hk : P.underlying kt = some (.int kd)) (em : Bool) (i : Int) (w : World) : (Instr.checkKey em 10000 kt (.int kd i)).run P w = .ok () w := by
  have : ∀ n, (Instr.checkKey em (n + 1) kt (.int kd i)).run P w = .ok () w := fun n => by
    simp [Instr.checkKey, underlying, hk]
  exact this 9999
theorem run_findKey (hk : P.underlying kt = some (.int kd)) (hm : MapOk kd es clk) (i : Int) (w : World) : (Instr.findKey kt (.int kd i) es.toList).run P w = .ok (findJ es.toList i 0) w := by
  have hu : (underlying kt).run P w = .ok (.int kd) w := by simp [underlying, hk]
  simp only [Instr.findKey, Sem.run_bind, hu, Result.andThen_ok, findNow_int es.toList 0 hm.keys, Sem.run_pure]
theorem run_lookup (hT : P.underlying T = some (.map kt e)) (hk : P.underlying kt = some (.int kd)) (hb : w.heap[b]? = some (.map es clk)) (hm : MapOk kd es clk) (i : Int) (ok : Bool) {z : Value} (hz : (zeroValue e).run P w = .ok z w) :
    (Instr.lookup T (.map (some b)) (.int kd i) ok).run P w = .ok (match findI es.toList i with
      | some v => if ok then .tuple #[v, .bool true] else v
      | none => if ok then .tuple #[z, .bool false] else z) w := by
  have hu : (underlying T).run P w = .ok (.map kt e) w := by simp [underlying, hT]
  simp only [Instr.lookup, Sem.run_bind, hu, Result.andThen_ok, run_getObj hb, Sem.run_pure, run_checkKey hk, run_findKey hk hm]
  unfold findI
  cases findJ es.toList i 0 with
  | none => simp only [Option.map_none, Sem.run_bind, hz, Result.andThen_ok, Sem.run_pure]
  | some x => obtain ⟨j, v⟩ := x; simp only [Option.map_some, Sem.run_bind, Result.andThen_ok, Sem.run_pure]
theorem run_mapUpdate (hT : P.underlying T = some (.map kt e)) (hk : P.underlying kt = some (.int kd)) (hb : w.heap[b]? = some (.map es clk)) (hm : MapOk kd es clk) (i : Int) (v : Value) :
    (Instr.mapUpdate T (.map (some b)) (.int kd i) v).run P w = .ok () (setO w b (.map (updI es clk kd i v).1 (updI es clk kd i v).2)) := by
  have hu : (underlying T).run P w = .ok (.map kt e) w := by simp [underlying, hT]
  simp only [Instr.mapUpdate, Sem.run_bind, hu, Result.andThen_ok, run_getObj hb, run_checkKey hk, run_findKey hk hm]
  unfold updI
  cases hj : findJ es.toList i 0 with
  | none => simp only [run_setObj hb]
  | some x =>
    obtain ⟨j, v0⟩ := x
    obtain ⟨d, e0, q, h1, h2, h3, h4⟩ := findJ_get hj
    obtain rfl : d = j := by omega
    have hkd : e0.key = .int kd i := by
      obtain ⟨k, hk⟩ := hm.keys e0 (List.mem_of_getElem? h2)
      rw [hk] at h3; cases h3; exact hk
    have hg : es[d]? = some e0 := by simpa using h2
    have hst : (Instr.keyThatStays (((es[d]?).map (·.key)).getD (.int kd i)) (.int kd i)).run P w = .ok (.int kd i) w := by
      rw [hg]
      simp only [Option.map_some, Option.getD_some, hkd, Instr.keyThatStays]
      have : Instr.sameBits 10000 (.int kd i) (.int kd i) = true := by simp [Instr.sameBits]
      rw [this]; rfl
    simp only [Sem.run_bind, hst, Result.andThen_ok, run_setObj hb]
theorem run_range (hT : P.underlying T = some (.map kt e)) (hb : w.heap[b]? = some (.map es clk)) :
    (Instr.range T (.map (some b))).run P w = .ok (.pointer (some ⟨w.heap.size, 0, none⟩)) (w.alloc (.mapIter (some b) clk #[] clk)) := by
  have hu : (underlying T).run P w = .ok (.map kt e) w := by simp [underlying, hT]
  simp only [Instr.range, Sem.run_bind, hu, Result.andThen_ok, run_getObj hb, Sem.run_pure, run_newObj, World.alloc_eq]
theorem run_next {r : Nat} {seen : Array Nat} (hb : w.heap[b]? = some (.map es clk)) (hr : w.heap[r]? = some (.mapIter (some b) clk seen clk)) (hborn : ∀ e ∈ es.toList, e.born < clk) (ty : TypeId) :
    ∃ w', (w' = w ∨ w' = w.drew) ∧ ((∃ x, x ∈ es.toList ∧ seen.contains x.born = false ∧ (Instr.next (.pointer (some ⟨r, 0, none⟩)) false ty).run P w = .ok (.tuple #[.bool true, x.key, x.val]) (setO w' r (.mapIter (some b) clk (seen.push x.born) clk))) ∨
      ((∀ x ∈ es.toList, seen.contains x.born = true) ∧ (Instr.next (.pointer (some ⟨r, 0, none⟩)) false ty).run P w = .ok (.tuple #[.bool false]) w')) := by
  have hg : (!seen.isEmpty && !es.isEmpty && es.all (fun x => decide (x.born ≥ clk))) = false := by
    cases he : es.isEmpty with
    | true => simp
    | false =>
      have hne : es.toList ≠ [] := by
        intro h
        have : es = #[] := by apply Array.ext'; simpa using h
        subst this; simp at he
      obtain ⟨x, l, hl⟩ := List.exists_cons_of_ne_nil hne
      have hx : x ∈ es.toList := by rw [hl]; exact List.mem_cons_self ..
      have : es.all (fun x => decide (x.born ≥ clk)) = false := by
        rw [Array.all_eq_false']
        exact ⟨x, by simpa using hx, by have := hborn x hx; simp; omega⟩
      rw [this]; simp
  have hold : (es.filter fun x => !seen.contains x.born).filter (fun x => decide (x.born < clk)) = es.filter fun x => !seen.contains x.born := by
    apply Array.ext'
    rw [Array.toList_filter, Array.toList_filter, List.filter_eq_self]
    intro x hx
    have := hborn x (List.mem_filter.1 hx).1
    simpa using this
  have hnew : (es.filter fun x => !seen.contains x.born).filter (fun x => decide (x.born ≥ clk)) = #[] := by
    apply Array.ext'
    rw [Array.toList_filter, Array.toList_filter]
    have : ((es.toList.filter fun x => !seen.contains x.born).filter fun x => decide (x.born ≥ clk)) = [] := by
      rw [List.filter_eq_nil_iff]
      intro x hx
      have := hborn x (List.mem_filter.1 hx).1
      simp; omega
    simpa using this
  have hmem : ∀ x, x ∈ (es.filter fun x => !seen.contains x.born).toList → x ∈ es.toList ∧ seen.contains x.born = false := fun x hx => by
    rw [Array.toList_filter, List.mem_filter] at hx
    exact ⟨hx.1, by simpa using hx.2⟩
  generalize hleft : (es.filter fun x => !seen.contains x.born) = left at *
  have hrun : (Instr.next (.pointer (some ⟨r, 0, none⟩)) false ty).run P w = ((choose (.mapNext ((if left.isEmpty then #[none] else #[]) ++ (left ++ #[]).map some).size)).run P w).andThen fun n w1 =>
      (match ((if left.isEmpty then #[none] else #[]) ++ (left ++ #[]).map some : Array (Option MapEntry))[n]? with
        | some (some x) => do setObj r (.mapIter (some b) clk (seen.push x.born) clk); pure (.tuple #[.bool true, x.key, x.val])
        | some none => pure (.tuple #[.bool false])
        | none => stuck "Next: no such candidate" : Sem Value).run P w1 := by
    simp only [Instr.next, Sem.run_bind, run_getObj hr, Result.andThen_ok, run_getObj hb, hg, Bool.false_eq_true, if_false, hold, hnew, Sem.run_pure, hleft]
    rfl
  rw [hrun]
  have hch : ∃ n w1, (choose (.mapNext ((if left.isEmpty then #[none] else #[]) ++ (left ++ #[]).map some).size)).run P w = .ok n w1 ∧ (w1 = w ∨ w1 = w.drew) ∧ n < ((if left.isEmpty then #[none] else #[]) ++ (left ++ #[]).map some : Array (Option MapEntry)).size := by
    have hpos : 0 < ((if left.isEmpty then #[none] else #[]) ++ (left ++ #[]).map some : Array (Option MapEntry)).size := by
      cases hl : left.isEmpty with
      | true => simp; omega
      | false =>
        simp only [Array.isEmpty_eq_false_iff] at hl
        have : 0 < left.size := Array.size_pos_iff.2 hl
        simp; omega
    generalize ((if left.isEmpty then #[none] else #[]) ++ (left ++ #[]).map some : Array (Option MapEntry)).size = m at hpos
    rw [run_choose]
    by_cases hf : (Question.mapNext m).forced = true
    · rw [if_pos hf]; exact ⟨0, w, rfl, .inl rfl, hpos⟩
    · rw [if_neg hf]; exact ⟨_, w.drew, rfl, .inr rfl, Nat.mod_lt _ hpos⟩
  obtain ⟨n, w1, h1, h2, h3⟩ := hch
  refine ⟨w1, h2, ?_⟩
  rw [h1]
  simp only [Result.andThen_ok]
  have hr1 : w1.heap[r]? = some (.mapIter (some b) clk seen clk) := by rcases h2 with rfl | rfl <;> exact hr
  cases hl : left.isEmpty with
  | true =>
    have hnil : left = #[] := by simpa using hl
    subst hnil
    have h0 : n = 0 := by simp at h3; exact h3
    subst h0
    right
    have hg0 : ((if true = true then #[none] else #[]) ++ (#[] ++ #[]).map some : Array (Option MapEntry))[0]? = some none := by simp
    refine ⟨fun x hx => ?_, by rw [hg0]; simp only [Sem.run_pure]⟩
    cases hc : seen.contains x.born with
    | true => rfl
    | false =>
      have : x ∈ (es.filter fun x => !seen.contains x.born).toList := by
        rw [Array.toList_filter, List.mem_filter]; exact ⟨hx, by show (!seen.contains x.born) = true; rw [hc]; rfl⟩
      rw [hleft] at this
      simp at this
  | false =>
    left
    have hn : n < left.size := by simpa [hl] using h3
    have hx : left[n] ∈ left.toList := by simp
    obtain ⟨k1, k2⟩ := hmem _ hx
    refine ⟨left[n], k1, k2, ?_⟩
    have hget : ((if false = true then #[none] else #[]) ++ (left ++ #[]).map some : Array (Option MapEntry))[n]? = some (some left[n]) := by
      simp [hn]
    rw [hget]
    simp only [Sem.run_bind, run_setObj hr1, Result.andThen_ok, Sem.run_pure]
theorem run_entry {r : Nat} {seen : Array Nat} {since : Nat} (hb : w.heap[b]? = some (.map es clk)) (hr : w.heap[r]? = some (.mapIter (some b) since seen clk)) (hm : MapOk kd es clk) {e : MapEntry} (he : e ∈ es.toList) (hs : seen.back? = some e.born) :
    (Instr.entry (.pointer (some ⟨r, 0, none⟩))).run P w = .ok (.tuple #[e.key, e.val]) w := by
  have hf : es.find? (fun x => x.born == e.born) = some e := by
    cases hx : es.find? (fun x => x.born == e.born) with
    | none =>
      rw [Array.find?_eq_none] at hx
      exact absurd (by simp) (hx e (by simpa using he))
    | some x =>
      have h1 := Array.find?_some hx
      have h2 := Array.mem_of_find?_eq_some hx
      have : x.born = e.born := by simpa using h1
      have key : ∀ {l : List MapEntry}, (l.map (·.born)).Nodup → x ∈ l → e ∈ l → x = e := by
        intro l
        induction l with
        | nil => intro _ h; cases h
        | cons y l ih =>
          intro hn hx he
          rw [List.map_cons, List.nodup_cons] at hn
          rcases List.mem_cons.1 hx with e1 | hx1 <;> rcases List.mem_cons.1 he with e2 | he1
          · rw [e1, e2]
          · subst e1; exact absurd (List.mem_map.2 ⟨e, he1, this.symm⟩) hn.1
          · subst e2; exact absurd (List.mem_map.2 ⟨x, hx1, this⟩) hn.1
          · exact ih hn.2 hx1 he1
      rw [key hm.bdis (by simpa using h2) he]
  simp only [Instr.entry, Sem.run_bind, run_getObj hr, Result.andThen_ok, hs, run_getObj hb, bne_self_eq_false, Bool.false_eq_true, if_false, hf, Sem.run_pure]
theorem run_clear {d : TypeDesc} (hT : P.underlying T = some d) (hb : w.heap[b]? = some (.map es clk)) (ty : TypeId) :
    (Builtin.clear_ #[T] ty #[.map (some b)]).run P w = .ok (.tuple #[]) (setO w b (.map #[] clk)) := by
  have hu : (underlying T).run P w = .ok d w := by simp [underlying, hT]
  simp only [Builtin.clear_, List.getElem?_toArray, List.getElem?_cons_zero, Sem.run_bind, hu, Result.andThen_ok, run_getObj hb, run_setObj hb, Sem.run_pure]
end

/-! ### In the executor -/
def lookupK (tt : List (Option TI)) (st : SS) (T : TypeId) (m x : SV) (ok : Bool) (k : SV → Prop) : Prop :=
  tyK tt T fun ti => match ti.und with
    | .map kt e => tyK tt kt fun ki => tyK tt e fun ei => (match ki.und with
      | .int kd => (match m with
        | .m r => objK r st.hp fun ob => (match ob with
          | .map es clk => intK x fun kd' i _ => kdK kd kd' (MapOk kd es clk ∧
              (∀ v, findI es.toList i = some v → (match ok with | true => k (.tup [.v v, .b true]) | false => k (.v v))) ∧
              (findI es.toList i = none → ∀ z : Value, z.cells.toList.map ofV = ei.zero → (match ok with | true => k (.tup [.v z, .b false]) | false => k (.v z))))
          | _ => False)
        | _ => False)
      | _ => False)
    | _ => False
theorem lookupK_elim {P : Program} {tt : List (Option TI)} (ht : TOk P tt) {st : SS} {T : TypeId} {m x : SV} {ok : Bool} {k : SV → Prop} (h : lookupK tt st T m x ok k) :
    ∃ y, k y ∧ ∀ ρ F a w, Base ρ F st a w → (Instr.lookup T (den ρ m) (den ρ x) ok).run P w = .ok (den ρ y) w := by
  obtain ⟨ti, hti, h1⟩ := tyK_elim h
  clear h
  have hT := tyFacts (ht T ti hti)
  split at h1
  · rename_i kt e hd
    obtain ⟨ki, hki, h2⟩ := tyK_elim h1
    clear h1
    obtain ⟨ei, hei, h3⟩ := tyK_elim h2
    clear h2
    have hK := tyFacts (ht kt ki hki)
    have hE := tyFacts (ht e ei hei)
    split at h3
    · rename_i kd hkd
      split at h3
      · rename_i r
        obtain ⟨ob, hm, h4⟩ := objK_elim h3
        clear h3
        split at h4
        · rename_i es clk
          obtain ⟨kd', i, kn, h5, h6⟩ := intK_elim h4
          clear h4
          obtain ⟨rfl, h7, h8, h9⟩ := kdK_elim h5
          have hTu : P.underlying T = some (.map kt e) := by rw [hT.und, hd]
          have hKu : P.underlying kt = some (.int kd) := by rw [hK.und, hkd]
          obtain ⟨i0, z, hi, hi1, hi2, hi3, hi4⟩ := hE.info
          have hz : ∀ w, (zeroValue e).run P w = .ok z w := fun w => by simp [zeroValue, typeInfo, hi, hi3]
          have run : ∀ ρ F a w, Base ρ F st a w → _ := fun ρ F a w hb => run_lookup (ok := ok) hTu hKu (hb.obj _ _ hm).2 h7 i (hz w)
          cases hf : findI es.toList i with
          | some v =>
            have h10 := h8 v hf
            cases ok with
            | true => exact ⟨_, h10, fun ρ F a w hb => by simp only [h6 ρ]; have := run ρ F a w hb; rw [hf] at this; exact this⟩
            | false => exact ⟨_, h10, fun ρ F a w hb => by simp only [h6 ρ]; have := run ρ F a w hb; rw [hf] at this; exact this⟩
          | none =>
            have h10 := h9 hf z hi4
            cases ok with
            | true => exact ⟨_, h10, fun ρ F a w hb => by simp only [h6 ρ]; have := run ρ F a w hb; rw [hf] at this; exact this⟩
            | false => exact ⟨_, h10, fun ρ F a w hb => by simp only [h6 ρ]; have := run ρ F a w hb; rw [hf] at this; exact this⟩
        · exact h4.elim
      · exact h3.elim
    · exact h3.elim
  · exact h1.elim
/-- A value that hangs on no names. -/
def valK (x : SV) (k : Value → Prop) : Prop :=
  match x with
  | .v x => k x
  | .b t => k (.bool t)
  | .k kd n => k (.int kd n)
  | .agg cs => plainsK cs fun vs => k (.agg ⟨vs⟩)
  | _ => False
theorem valK_elim {x : SV} {k : Value → Prop} (h : valK x k) : ∃ v, k v ∧ ∀ ρ, den ρ x = v := by
  unfold valK at h
  split at h
  · exact ⟨_, h, fun _ => rfl⟩
  · exact ⟨_, h, fun _ => rfl⟩
  · exact ⟨_, h, fun _ => rfl⟩
  · obtain ⟨vs, h1, h2⟩ := plainsK_elim h
    exact ⟨_, h1, fun ρ => by simp only [den, h2 ρ]⟩
  · exact h.elim
def mapUpdateK (tt : List (Option TI)) (st : SS) (T : TypeId) (m x v : SV) (k : SS → Prop) : Prop :=
  tyK tt T fun ti => match ti.und with
    | .map kt _ => tyK tt kt fun ki => (match ki.und with
      | .int kd => (match m with
        | .m r => objK r st.hp fun ob => (match ob with
          | .map es clk => intK x fun kd' i _ => kdK kd kd' (valK v fun val => MapOk kd es clk ∧
              ∀ es' clk', MapOk kd es' clk' → (∀ j, findI es'.toList j = if j = i then some val else findI es.toList j) → withO r (.map es' clk') st k)
          | _ => False)
        | _ => False)
      | _ => False)
    | _ => False
theorem mapUpdateK_elim {P : Program} {tt : List (Option TI)} (ht : TOk P tt) {st : SS} {T : TypeId} {m x v : SV} {k : SS → Prop} (h : mapUpdateK tt st T m x v k) {o : Oper} {M X V : Operand} (ho : o.op = .mapUpdate T M X V) (hd : o.dst = none)
    (hM : ∀ ρ F a w, Base ρ F st a w → a.eval M = den ρ m) (hX : ∀ ρ F a w, Base ρ F st a w → a.eval X = den ρ x) (hV : ∀ ρ F a w, Base ρ F st a w → a.eval V = den ρ v) : Stp P st o (fun _ => k) := by
  obtain ⟨ti, hti, h1⟩ := tyK_elim h
  clear h
  have hT := tyFacts (ht T ti hti)
  split at h1
  · rename_i kt e hd'
    obtain ⟨ki, hki, h2⟩ := tyK_elim h1
    clear h1
    have hK := tyFacts (ht kt ki hki)
    split at h2
    · rename_i kd hkd
      split at h2
      · rename_i r
        obtain ⟨ob, hm, h4⟩ := objK_elim h2
        clear h2
        split at h4
        · rename_i es clk
          obtain ⟨kd', i, kn, h5, h6⟩ := intK_elim h4
          clear h4
          obtain ⟨rfl, h7⟩ := kdK_elim h5
          obtain ⟨val, ⟨h8, h9⟩, h10⟩ := valK_elim h7
          have hTu : P.underlying T = some (.map kt e) := by rw [hT.und, hd']
          have hKu : P.underlying kt = some (.int kd) := by rw [hK.und, hkd]
          obtain ⟨u1, u2⟩ := updI_ok h8 i val
          refine Stp.upd (y := .b true) (ob' := .map (updI es clk kd i val).1 (updI es clk kd i val).2) hm (h9 _ _ u1 u2) fun ρ F a w hb hh => ?_
          have hb0 := hb ρ (Ag.refl _ _)
          have hobj := hb0.obj r _ hm
          refine ⟨setO w (ρ r) (.map (updI es clk kd i val).1 (updI es clk kd i val).2), (keeps_setO w (ρ r) _).mono fun k hk => (hobj.1 k).2 hk, fun ρ' hr => ?_, fun _ _ => rfl, .inr ⟨hd, ?_⟩⟩
          · have hobj' := (hb ρ' hr).obj r _ hm
            refine ⟨hobj'.1, ?_⟩
            rw [hr r (hh.shape.lt r _ hm)]
            exact setO_same hobj.2 _
          · simp only [execOp, ho, hM ρ F a w hb0, hX ρ F a w hb0, hV ρ F a w hb0, h6 ρ, h10 ρ, den, run_mapUpdate hTu hKu hobj.2 h8, Sem.run_bind, Result.andThen_ok, Sem.run_pure]
        · exact h4.elim
      · exact h2.elim
    · exact h2.elim
  · exact h1.elim
def clearK (tt : List (Option TI)) (st : SS) (T : TypeId) (m : SV) (k : SS → Prop) : Prop :=
  tyK tt T fun _ => match m with
    | .m r => objK r st.hp fun ob => (match ob with
      | .map _ clk => withO r (.map #[] clk) st k
      | _ => False)
    | _ => False
theorem clearK_elim {P : Program} {tt : List (Option TI)} (ht : TOk P tt) {st : SS} {T : TypeId} {m : SV} {k : SV → SS → Prop} (h : clearK tt st T m (k (.tup []))) {o : Oper} {M : Operand}
    (ho : o.op = .call { callee := .builtin .clear, args := #[M], argTypes := #[T] })
    (hM : ∀ ρ F a w, Base ρ F st a w → a.eval M = den ρ m) : Stp P st o k := by
  obtain ⟨ti, hti, h1⟩ := tyK_elim h
  clear h
  have hT := tyFacts (ht T ti hti)
  split at h1
  · rename_i r
    obtain ⟨ob, hm, h4⟩ := objK_elim h1
    clear h1
    split at h4
    · rename_i es clk
      refine Stp.upd (y := .tup []) (ob' := .map #[] clk) hm h4 fun ρ F a w hb hh => ?_
      have hb0 := hb ρ (Ag.refl _ _)
      have hobj := hb0.obj r _ hm
      refine ⟨setO w (ρ r) (.map #[] clk), (keeps_setO w (ρ r) _).mono fun k hk => (hobj.1 k).2 hk, fun ρ' hr => ?_, fun _ _ => rfl, .inl ?_⟩
      · have hobj' := (hb ρ' hr).obj r _ hm
        refine ⟨hobj'.1, ?_⟩
        rw [hr r (hh.shape.lt r _ hm)]
        exact setO_same hobj.2 _
      · have e := run_clear (P := P) hT.und hobj.2 o.type
        simp only [execOp, ho, resolve, Sem.run_bind, Sem.run_pure, Result.andThen_ok, invoke, builtin]
        simp [hM ρ F a w hb0, den, e]
    · exact h4.elim
  · exact h1.elim
def rangeK (tt : List (Option TI)) (st : SS) (T : TypeId) (m : SV) (k : SV → SS → Prop) : Prop :=
  tyK tt T fun ti => match ti.und with
    | .map _ _ => (match m with
      | .m r => objK r st.hp fun ob => (match ob with
        | .map _ clk => newK (.iter r clk #[] clk) st fun r' st' => k (.p r' 0) st'
        | _ => False)
      | _ => False)
    | _ => False
theorem rangeK_elim {P : Program} {tt : List (Option TI)} (ht : TOk P tt) {st : SS} {T : TypeId} {m : SV} {k : SV → SS → Prop} (h : rangeK tt st T m k) {o : Oper} {M : Operand} (ho : o.op = .range T M)
    (hM : ∀ ρ F a w, Base ρ F st a w → a.eval M = den ρ m) : Stp P st o k := by
  obtain ⟨ti, hti, h1⟩ := tyK_elim h
  clear h
  have hT := tyFacts (ht T ti hti)
  split at h1
  · rename_i kt e hd
    have hTu : P.underlying T = some (.map kt e) := by rw [hT.und, hd]
    split at h1
    · rename_i r
      obtain ⟨ob, hm, h4⟩ := objK_elim h1
      clear h1
      split at h4
      · rename_i es clk
        have h5 := newK_elim h4
        intro ρ F a w hb hh
        have hb0 := hb ρ (Ag.refl _ _)
        have hobj := hb0.obj r _ hm
        have hlt := hh.shape.lt r _ hm
        obtain ⟨h6, h7⟩ := hh.alloc (o := .iter r clk #[] clk) (ob := .mapIter (some (ρ r)) clk #[] clk) (fun ρ' hr => ⟨fun k => Iff.rfl, by rw [hr r hlt]; exact heap_alloc_new w _⟩)
        refine ⟨_, _, _, updR ρ st.nx w.heap.size, _, w.alloc (.mapIter (some (ρ r)) clk #[] clk), h5, .inl ?_, ?_, h6, Ag.updR ρ _, by omega, keeps_alloc _ w _, h7⟩
        · simp only [execOp, ho, Sem.run_bind, hM ρ F a w hb0, den, run_range hTu hobj.2, Result.andThen_ok, Sem.run_pure, updR_same]
        · intro ρ'' hr
          simp only [den]
          rw [hr st.nx (by omega)]
      · exact h4.elim
    · exact h1.elim
  · exact h1.elim
def entryK (st : SS) (it : SV) (k : SV → Prop) : Prop :=
  match it with
  | .p r 0 => objK r st.hp fun ob => (match ob with
    | .iter mr since seen stepped => objK mr st.hp fun om => (match om with
      | .map es clk => (stepped = clk ∧ MapOk .i64 es clk) ∧ ∃ x i, (x ∈ es.toList ∧ x.key = .int .i64 i ∧ seen.back? = some x.born) ∧ k (.tup [.v (.int .i64 i), .v x.val])
      | _ => False)
    | _ => False)
  | _ => False
theorem entryK_elim {P : Program} {st : SS} {it : SV} {k : SV → Prop} (h : entryK st it k) : ∃ y, k y ∧ ∀ ρ F a w, Base ρ F st a w → (Instr.entry (den ρ it)).run P w = .ok (den ρ y) w := by
  unfold entryK at h
  split at h
  · rename_i r
    obtain ⟨ob, hm, h1⟩ := objK_elim h
    clear h
    split at h1
    · rename_i mr since seen stepped
      obtain ⟨om, hmm, h2⟩ := objK_elim h1
      clear h1
      split at h2
      · obtain ⟨⟨hst, hok⟩, x, i, ⟨hx, hi, hs⟩, hk⟩ := h2
        subst hst
        refine ⟨_, hk, fun ρ F a w hb => ?_⟩
        simp only [den]
        rw [run_entry (hb.obj mr _ hmm).2 (hb.obj r _ hm).2 hok hx hs, hi]
        rfl
      · exact h2.elim
    · exact h1.elim
  · exact h.elim
def nextK (st : SS) (it : SV) (k : SV → SS → Prop) : Prop :=
  match it with
  | .p r 0 => objK r st.hp fun ob => (match ob with
    | .iter mr since seen stepped => objK mr st.hp fun om => (match om with
      | .map es clk => (since = clk ∧ stepped = clk ∧ MapOk .i64 es clk) ∧
          (∀ x i, x ∈ es.toList → x.key = .int .i64 i → seen.contains x.born = false → withO r (.iter mr since (seen.push x.born) stepped) st (k (.tup [.b true, .v (.int .i64 i), .v x.val]))) ∧
          ((∀ x ∈ es.toList, seen.contains x.born = true) → k (.tup [.b false]) st)
      | _ => False)
    | _ => False)
  | _ => False
theorem nextK_elim {P : Program} {st : SS} {it : SV} {k : SV → SS → Prop} (h : nextK st it k) {o : Oper} {I : Operand} (ho : o.op = .next I false)
    (hI : ∀ ρ F a w, Base ρ F st a w → a.eval I = den ρ it) : Stp P st o k := by
  unfold nextK at h
  split at h
  · rename_i r
    obtain ⟨ob, hm, h1⟩ := objK_elim h
    clear h
    split at h1
    · rename_i mr since seen stepped
      obtain ⟨om, hmm, h2⟩ := objK_elim h1
      clear h1
      split at h2
      · rename_i es clk
        obtain ⟨⟨rfl, rfl, hok⟩, hy, hn⟩ := h2
        intro ρ F a w hb hh
        have hb0 := hb ρ (Ag.refl _ _)
        have o1 := hb0.obj r _ hm
        have o2 := hb0.obj mr _ hmm
        have run : ∀ v w', (Instr.next (.pointer (some ⟨ρ r, 0, none⟩)) false o.type).run P w = .ok v w' → (execOp a.eval o).run P w = .ok (.value v) w' := fun v w' hr => by
          simp only [execOp, ho, Sem.run_bind, hI ρ F a w hb0, den, hr, Result.andThen_ok, Sem.run_pure]
        obtain ⟨w1, hw1, hc⟩ := run_next (P := P) o2.2 o1.2 hok.born o.type
        have hk1 : Keeps (F r) w w1 := by
          rcases hw1 with rfl | rfl
          · exact Keeps.refl _ _
          · exact keeps_drew _ w
        rcases hc with ⟨x, hx, hs, hrun⟩ | ⟨hall, hrun⟩
        · obtain ⟨i, hi⟩ := hok.keys x hx
          have h3 := hy x i hx hi hs
          rw [hi] at hrun
          obtain ⟨sl, hp, nx, fx⟩ := st
          obtain ⟨hp', h5, h6⟩ := setOK_elim h3
          have hk2 : Keeps (F r) w (setO w1 (ρ r) (.mapIter (some (ρ mr)) stepped (seen.push x.born) stepped)) := hk1.trans ((keeps_setO w1 (ρ r) _).mono fun k hk => (o1.1 k).2 hk) (fun j hj => .inl hj)
          have e1 : w1.heap[ρ r]? = w.heap[ρ r]? := by rcases hw1 with rfl | rfl <;> rfl
          obtain ⟨h7, h8⟩ := hh.upd h6 hk2 ⟨_, hm⟩ (fun ρ' hr => by
            have o1' := (hb ρ' hr).obj r _ hm
            have hr1 : ρ' r = ρ r := hr r (hh.shape.lt r _ hm)
            have hr2 : ρ' mr = ρ mr := hr mr (hh.shape.lt mr _ hmm)
            refine ⟨o1'.1, ?_⟩
            rw [hr1, hr2]
            exact setO_same (e1.trans o1.2) _)
          exact ⟨_, hp', nx, ρ, F, _, h5, .inl (run _ _ hrun), fun _ _ => rfl, h7, Ag.refl _ _, Nat.le_refl _, hk2.mono fun k hk => ⟨r, _, hm, hk⟩, fun k hk => .inl (h8 k hk)⟩
        · refine ⟨_, _, _, ρ, F, w1, hn hall, .inl (run _ _ hrun), fun _ _ => rfl, ?_, Ag.refl _ _, Nat.le_refl _, hk1.mono fun k hk => ⟨r, _, hm, hk⟩, fun k hk => .inl hk⟩
          rcases hw1 with rfl | rfl
          · exact hh
          · exact hh.drew
      · exact h2.elim
    · exact h1.elim
  · exact h.elim
end Go.Proofs.YtekgjjanikicnaaDoor.Sx

namespace Go.Proofs.YtekgjjanikicnaaDoor.Sx
open Go
set_option linter.unusedVariables false
set_option linter.unusedSimpArgs false

/-! ### operations that leave the world alone -/
def boolK (tt : List (Option TI)) (T : TypeId) (op : BinOp) (s : Bool) (ks : Bool) (y : SV) (k : SV → Prop) : Prop :=
  tyK tt T fun ti => match ti.und with
    | .bool => (match op with
      | .eql => (match y with | .b t => outB ks (s == t) k | .v (.bool t) => outB false (s == t) k | _ => False)
      | .neq => (match y with | .b t => outB ks (!(s == t)) k | .v (.bool t) => outB false (!(s == t)) k | _ => False)
      | _ => False)
    | _ => False
def strK (op : BinOp) (s t : ByteArray) (k : SV → Prop) : Prop :=
  match op with
  | .eql => k (.v (.bool (s.data.toList == t.data.toList)))
  | .neq => k (.v (.bool (!(s.data.toList == t.data.toList))))
  | .add => (((s.size + t.size : Nat) : Int) ≤ 9223372036854775807) ∧ k (.v (.string (s ++ t)))
  | _ => False
def binK (tt : List (Option TI)) (op : BinOp) (T : TypeId) (x y : SV) (k : SV → Prop) : Prop :=
  match op with
  | .shl => intK x fun kd a ka => intK y fun _ b kb => shiftK .shl kd a b ka kb k
  | .shr => intK x fun kd a ka => intK y fun _ b kb => shiftK .shr kd a b ka kb k
  | op => match x with
    | .k kd a => intK y fun kd' b kb => kdK kd kd' (arithK op kd a b kb k)
    | .v (.int kd a) => intK y fun kd' b _ => kdK kd kd' (arithK op kd a b false k)
    | .b s => boolK tt T op s true y k
    | .v (.bool s) => boolK tt T op s false y k
    | .v (.string s) => (match y with | .v (.string t) => strK op s t k | _ => False)
    | x => (match op with
      | .eql => eqNilK tt T x y fun t => outB true t k
      | .neq => eqNilK tt T x y fun t => outB true (!t) k
      | _ => False)
theorem guard_int {P : Program} (op : BinOp) (T : TypeId) (a b : Operand) (kd : IntKind) (n : Int) (y : Value) (w : World) : (eqGuard op T a b (.int kd n) y).run P w = .ok () w := by
  cases op <;> rfl
theorem guard_bool {P : Program} (op : BinOp) (T : TypeId) (a b : Operand) (n : Bool) (y : Value) (w : World) : (eqGuard op T a b (.bool n) y).run P w = .ok () w := by
  cases op <;> rfl
theorem guard_str {P : Program} (op : BinOp) (T : TypeId) (a b : Operand) (n : ByteArray) (y : Value) (w : World) : (eqGuard op T a b (.string n) y).run P w = .ok () w := by
  cases op <;> rfl
theorem boolK_elim {P : Program} {tt : List (Option TI)} (ht : TOk P tt) {T : TypeId} {op : BinOp} {s ks : Bool} {y : SV} {k : SV → Prop} (h : boolK tt T op s ks y k) :
    ∃ r, k r ∧ ∀ ρ w, ∃ t, den ρ y = .bool t ∧ (binOp op T (.bool s) (den ρ y)).run P w = .ok (den ρ r) w := by
  obtain ⟨ti, hti, h1⟩ := tyK_elim h
  clear h
  have hT := tyFacts (ht T ti hti)
  split at h1
  · rename_i hd
    have hu : ∀ w, (underlying T).run P w = .ok .bool w := fun w => by rw [← hd]; exact hT.run_underlying w
    have he : ∀ (t : Bool) w, (Op.equal T (.bool s) (.bool t)).run P w = .ok (s == t) w := by
      intro t w
      have : ∀ d, (Op.equalIn (d + 1) T (.bool s) (.bool t)).run P w = .ok (s == t) w := fun d => by simp [Op.equalIn, hu]
      exact this 9999
    split at h1
    · split at h1
      · obtain ⟨r, h2, h3⟩ := outB_elim h1
        exact ⟨r, h2, fun ρ w => ⟨_, rfl, by simp [binOp, den, he, h3]⟩⟩
      · obtain ⟨r, h2, h3⟩ := outB_elim h1
        exact ⟨r, h2, fun ρ w => ⟨_, rfl, by simp [binOp, den, he, h3]⟩⟩
      · exact h1.elim
    · split at h1
      · obtain ⟨r, h2, h3⟩ := outB_elim h1
        exact ⟨r, h2, fun ρ w => ⟨_, rfl, by simp [binOp, den, he, h3]⟩⟩
      · obtain ⟨r, h2, h3⟩ := outB_elim h1
        exact ⟨r, h2, fun ρ w => ⟨_, rfl, by simp [binOp, den, he, h3]⟩⟩
      · exact h1.elim
    · exact h1.elim
  · exact h1.elim
theorem strK_elim {P : Program} {T : TypeId} {op : BinOp} {s t : ByteArray} {k : SV → Prop} (h : strK op s t k) :
    ∃ r, k r ∧ ∀ ρ w, (binOp op T (.string s) (.string t)).run P w = .ok (den ρ r) w := by
  unfold strK at h
  split at h
  · exact ⟨_, h, fun ρ w => by simp [binOp, Op.stringOp, den, ByteArray.toList_eq]⟩
  · exact ⟨_, h, fun ρ w => by simp [binOp, Op.stringOp, den, ByteArray.toList_eq]⟩
  · obtain ⟨h1, h2⟩ := h
    refine ⟨_, h2, fun ρ w => ?_⟩
    have : ¬ (((s.size + t.size : Nat) : Int) > IntKind.i64.max) := by
      have : IntKind.i64.max = 9223372036854775807 := by decide
      omega
    simp only [binOp, Op.stringOp, this, if_false, Sem.run_pure, den]
  · exact h.elim
theorem binK_elim {P : Program} {tt : List (Option TI)} (ht : TOk P tt) {op : BinOp} {T : TypeId} {x y : SV} {k : SV → Prop} (h : binK tt op T x y k) :
    ∃ r, k r ∧ ∀ ρ w a b, ((do eqGuard op T a b (den ρ x) (den ρ y); binOp op T (den ρ x) (den ρ y)) : Sem Value).run P w = .ok (den ρ r) w := by
  have gi : ∀ kd (n : Int) (v : Value) w a b, (eqGuard op T a b (.int kd n) v).run P w = .ok () w := fun kd n v w a b => guard_int ..
  have gb : ∀ (n : Bool) (v : Value) w a b, (eqGuard op T a b (.bool n) v).run P w = .ok () w := fun n v w a b => guard_bool ..
  have gs : ∀ (n : ByteArray) (v : Value) w a b, (eqGuard op T a b (.string n) v).run P w = .ok () w := fun n v w a b => guard_str ..
  unfold binK at h
  split at h
  · obtain ⟨kd, a, ka, h1, h2⟩ := intK_elim h
    obtain ⟨kd', b, kb, h3, h4⟩ := intK_elim h1
    obtain ⟨r, h5, h6⟩ := shiftK_elim (P := P) (yk := kd') h3
    exact ⟨r, h5, fun ρ w A B => by simp only [h2, h4, Sem.run_bind, gi, Result.andThen_ok]; exact h6 ρ w⟩
  · obtain ⟨kd, a, ka, h1, h2⟩ := intK_elim h
    obtain ⟨kd', b, kb, h3, h4⟩ := intK_elim h1
    obtain ⟨r, h5, h6⟩ := shiftK_elim (P := P) (yk := kd') h3
    exact ⟨r, h5, fun ρ w A B => by simp only [h2, h4, Sem.run_bind, gi, Result.andThen_ok]; exact h6 ρ w⟩
  · rename_i hn1 hn2
    split at h
    · obtain ⟨kd', b, kb, h3, h4⟩ := intK_elim h
      obtain ⟨rfl, h5⟩ := kdK_elim h3
      obtain ⟨r, h6, h7⟩ := arithK_elim (P := P) (T := T) ⟨hn1, hn2⟩ h5
      exact ⟨r, h6, fun ρ w A B => by simp only [den, h4, Sem.run_bind, gi, Result.andThen_ok]; exact h7 ρ w⟩
    · obtain ⟨kd', b, kb, h3, h4⟩ := intK_elim h
      obtain ⟨rfl, h5⟩ := kdK_elim h3
      obtain ⟨r, h6, h7⟩ := arithK_elim (P := P) (T := T) ⟨hn1, hn2⟩ h5
      exact ⟨r, h6, fun ρ w A B => by simp only [den, h4, Sem.run_bind, gi, Result.andThen_ok]; exact h7 ρ w⟩
    · obtain ⟨r, h1, h2⟩ := boolK_elim (P := P) ht h
      exact ⟨r, h1, fun ρ w A B => by obtain ⟨t, h3, h4⟩ := h2 ρ w; simp only [den, Sem.run_bind, gb, Result.andThen_ok]; exact h4⟩
    · obtain ⟨r, h1, h2⟩ := boolK_elim (P := P) ht h
      exact ⟨r, h1, fun ρ w A B => by obtain ⟨t, h3, h4⟩ := h2 ρ w; simp only [den, Sem.run_bind, gb, Result.andThen_ok]; exact h4⟩
    · split at h
      · obtain ⟨r, h1, h2⟩ := strK_elim (P := P) (T := T) h
        exact ⟨r, h1, fun ρ w A B => by simp only [den, Sem.run_bind, gs, Result.andThen_ok]; exact h2 ρ w⟩
      · exact h.elim
    · split at h
      · obtain ⟨t, h1, h2⟩ := eqNilK_elim (P := P) ht h
        obtain ⟨r, h3, h4⟩ := outB_elim h1
        exact ⟨r, h3, fun ρ w A B => by obtain ⟨_, h5, h6⟩ := h2 ρ w; simp only [Sem.run_bind, h6, Result.andThen_ok, h4]; exact (h5 .eql).1 rfl⟩
      · obtain ⟨t, h1, h2⟩ := eqNilK_elim (P := P) ht h
        obtain ⟨r, h3, h4⟩ := outB_elim h1
        exact ⟨r, h3, fun ρ w A B => by obtain ⟨_, h5, h6⟩ := h2 ρ w; simp only [Sem.run_bind, h6, Result.andThen_ok, h4]; exact (h5 .neq).2 rfl⟩
      · exact h.elim
def unK (op : UnOp) (x : SV) (k : SV → Prop) : Prop :=
  match op with
  | .not => (match x with | .b t => outB true (!t) k | .v (.bool t) => k (.v (.bool (!t))) | _ => False)
  | .neg => intK x fun kd n kn => sumK kd (0 - n) kn k
  | .xor => intK x fun kd n kn => outI kn kd (bitz .xor kd (if kd.signed then -1 else kd.max) n) k
  | _ => False
theorem unK_elim {P : Program} {op : UnOp} {x : SV} {k : SV → Prop} (h : unK op x k) : ∃ r, k r ∧ ∀ ρ w, (Op.unary op (den ρ x)).run P w = .ok (den ρ r) w := by
  unfold unK at h
  split at h
  · split at h
    · obtain ⟨r, h1, h2⟩ := outB_elim h
      exact ⟨r, h1, fun ρ w => by simp [Op.unary, den, h2]⟩
    · exact ⟨_, h, fun ρ w => by simp [Op.unary, den]⟩
    · exact h.elim
  · obtain ⟨kd, n, kn, h1, h2⟩ := intK_elim h
    obtain ⟨r, h3, h4⟩ := sumK_elim h1
    exact ⟨r, h3, fun ρ w => by simp [Op.unary, Op.intArith, h2, h4]⟩
  · obtain ⟨kd, n, kn, h1, h2⟩ := intK_elim h
    obtain ⟨r, h3, h4⟩ := outI_elim h1
    exact ⟨r, h3, fun ρ w => by simp [Op.unary, Op.intBits, h2, h4, bitz]⟩
  · exact h.elim
def nilCheckK (x : SV) (k : SV → Prop) : Prop :=
  match x with
  | .p r o => k (.p r o)
  | .q r o => k (.q r o)
  | .v (.pointer (some ad)) => k (.v (.pointer (some ad)))
  | .fn (.func f) a c => k (.fn (.func f) a c)
  | _ => False
def pickK (st : SS) (c a b : Operand) (k : SV → Prop) : Prop :=
  evK st c fun c => match c with
    | .b true => evK st a k
    | .b false => evK st b k
    | .v (.bool t) => (t = true → evK st a k) ∧ (t = false → evK st b k)
    | _ => False
def arrayAtK (tt : List (Option TI)) (T : TypeId) (x : SV) (k : SV → Prop) : Prop :=
  tyK tt T fun ti => match ti.und with
    | .array n _ => (match x with
      | .s r o len _ => (n ≤ len) ∧ k (.q r o)
      | .v (.slice A len _) => (n ≤ len) ∧ ∃ ad, A = some ad ∧ k (.v (.pointer (some ad)))
      | _ => False)
    | _ => False
theorem arrayAtK_elim {P : Program} {tt : List (Option TI)} (ht : TOk P tt) {T : TypeId} {x : SV} {k : SV → Prop} (h : arrayAtK tt T x k) : ∃ y, k y ∧ ∀ ρ w, (Instr.arrayAt T (den ρ x)).run P w = .ok (den ρ y) w := by
  obtain ⟨ti, hti, h1⟩ := tyK_elim h
  clear h
  have hT := tyFacts (ht T ti hti)
  split at h1
  · rename_i n e hd
    have hu : ∀ w, (underlying T).run P w = .ok (.array n e) w := fun w => by rw [← hd]; exact hT.run_underlying w
    split at h1
    · obtain ⟨h2, h3⟩ := h1
      exact ⟨_, h3, fun ρ w => by simp [Instr.arrayAt, hu, den, Nat.not_lt.2 h2]⟩
    · obtain ⟨h2, ad, rfl, h3⟩ := h1
      exact ⟨_, h3, fun ρ w => by simp [Instr.arrayAt, hu, den, Nat.not_lt.2 h2]⟩
    · exact h1.elim
  · exact h1.elim
/-- A value of an interface type, compared with nil written out. -/
def ifaceK (tt : List (Option TI)) (op : BinOp) (T : TypeId) (x : SV) (k : SV → Prop) : Prop :=
  tyK tt T fun ti => match ti.und with
    | .interface _ => (match x with
      | .v .nilIface => (match op with | .eql => k (.b true) | .neq => k (.b false) | _ => False)
      | .v (.iface _ _) => (match op with | .eql => k (.b false) | .neq => k (.b true) | _ => False)
      | _ => False)
    | _ => False
theorem ifaceK_elim {P : Program} {tt : List (Option TI)} (ht : TOk P tt) {op : BinOp} {T : TypeId} {x : SV} {k : SV → Prop} (h : ifaceK tt op T x k) :
    ∃ r, k r ∧ ∀ ρ w a, ((do eqGuard op T a (.const .nilIface) (den ρ x) .nilIface; binOp op T (den ρ x) .nilIface) : Sem Value).run P w = .ok (den ρ r) w := by
  obtain ⟨ti, hti, h1⟩ := tyK_elim h
  clear h
  have hT := tyFacts (ht T ti hti)
  split at h1
  · rename_i ms hd
    have hu : ∀ w, (underlying T).run P w = .ok (.interface ms) w := fun w => by rw [← hd]; exact hT.run_underlying w
    have e1 : ∀ w, (Op.equal T .nilIface .nilIface).run P w = .ok true w := fun w => by
      have : ∀ d, (Op.equalIn (d + 1) T .nilIface .nilIface).run P w = .ok true w := fun d => by simp [Op.equalIn, hu]
      exact this 9999
    have e2 : ∀ w a b, (Op.equal T (.iface a b) .nilIface).run P w = .ok false w := fun w a b => by
      have : ∀ d, (Op.equalIn (d + 1) T (.iface a b) .nilIface).run P w = .ok false w := fun d => by simp [Op.equalIn, hu]
      exact this 9999
    split at h1
    · split at h1
      · exact ⟨_, h1, fun ρ w a => by cases a <;> simp [eqGuard, binOp, den, e1]⟩
      · exact ⟨_, h1, fun ρ w a => by cases a <;> simp [eqGuard, binOp, den, e1]⟩
      · exact h1.elim
    · split at h1
      · exact ⟨_, h1, fun ρ w a => by simp [eqGuard, binOp, den, e2]⟩
      · exact ⟨_, h1, fun ρ w a => by simp [eqGuard, binOp, den, e2]⟩
      · exact h1.elim
    · exact h1.elim
  · exact h1.elim
def pureK (tt : List (Option TI)) (st : SS) (op : Op) (k : SV → Prop) : Prop :=
  match op with
  | .move x => evK st x k
  | .assign x => evK st x k
  | .pick c a b => pickK st c a b k
  | .nilCheck x => evK st x fun x => nilCheckK x k
  | .binOp op T x (.const .nilIface) _ => evK st x fun x => ifaceK tt op T x k
  | .binOp op T x y _ => evK st x fun x => evK st y fun y => binK tt op T x y k
  | .unOp op _ x => evK st x fun x => unK op x k
  | .convert s d x => evK st x fun x => convK tt st s d x k
  | .slice T x lo hi none => evK st x fun x => sliceK tt st T x lo hi k
  | .fieldAddr S x f => evK st x fun x => fieldK tt S f fun o _ => moveK x o k
  | .field S x f => evK st x fun x => fieldVK tt S x f k
  | .indexAddr T x i => evK st x fun x => evK st i fun i => indexAtK tt T x i k
  | .index T x i => evK st x fun x => evK st i fun i => indexK tt T x i k
  | .load T x => evK st x fun x => loadK tt st T x k
  | .extract t i => evK st t fun t => (match t with | .tup l => nthS l i k | _ => False)
  | .build T ps => buildK tt st T ps.toList k
  | .makeFunc f ⟨a⟩ ⟨c⟩ => evLK st a fun a => evLK st c fun c => k (.fn f a c)
  | .sliceToArrayPointer T x => evK st x fun x => arrayAtK tt T x k
  | .entry it => evK st it fun it => entryK st it k
  | .lookup T m x ok => evK st m fun m => evK st x fun x => lookupK tt st T m x ok k
  | .call { callee := .builtin .len, args := ⟨[x]⟩, argTypes := ⟨[T]⟩ } => evK st x fun x => lenK tt st T x k
  | .call { callee := .builtin .cap, args := ⟨[x]⟩, argTypes := ⟨[T]⟩ } => evK st x fun x => capK tt T x k
  | .call { callee := .builtin .min, args := ⟨[x, y]⟩, argTypes := _ } => evK st x fun x => evK st y fun y => minK x y k
  | .call { callee := .builtin .max, args := ⟨[x, y]⟩, argTypes := _ } => evK st x fun x => evK st y fun y => maxK x y k
  | _ => False
theorem pureK_elim {P : Program} {tt : List (Option TI)} (ht : TOk P tt) {st : SS} {op : Op} {k : SV → Prop} (h : pureK tt st op k) {o : Oper} (ho : o.op = op) : ∃ y, k y ∧ Yl P st o y := by
  unfold pureK at h
  split at h
  · obtain ⟨y, h1, h2⟩ := evK_elim h
    exact ⟨y, h1, fun ρ F a w hb hs => by simp [execOp, ho, h2 ρ F a w hb]⟩
  · obtain ⟨y, h1, h2⟩ := evK_elim h
    exact ⟨y, h1, fun ρ F a w hb hs => by simp [execOp, ho, h2 ρ F a w hb]⟩
  · obtain ⟨c, h1, h2⟩ := evK_elim h
    have go : ∀ (t : Bool) (z : Operand), (∀ ρ, den ρ c = .bool t) → (∀ ρ F a w, Base ρ F st a w → (execOp a.eval o).run P w = .ok (.value (a.eval z)) w) → evK st z k → ∃ y, k y ∧ Yl P st o y := by
      intro t z hc hz he
      obtain ⟨y, h3, h4⟩ := evK_elim he
      exact ⟨y, h3, fun ρ F a w hb hs => by rw [hz ρ F a w hb, h4 ρ F a w hb]⟩
    have run : ∀ (t : Bool) (x y : Operand) (C : Operand), o.op = .pick C x y → (∀ ρ F a w, Base ρ F st a w → a.eval C = .bool t) → ∀ ρ F a w, Base ρ F st a w → (execOp a.eval o).run P w = .ok (.value (a.eval (if t then x else y))) w := by
      intro t x y C hop hC ρ F a w hb
      simp only [execOp, hop, hC ρ F a w hb, asBool, Sem.run_bind, Sem.run_pure, Result.andThen_ok]
      cases t <;> rfl
    split at h1
    · exact go true _ (fun ρ => rfl) (fun ρ F a w hb => run true _ _ _ ho (fun ρ F a w hb => by rw [h2 ρ F a w hb]; rfl) ρ F a w hb) h1
    · exact go false _ (fun ρ => rfl) (fun ρ F a w hb => run false _ _ _ ho (fun ρ F a w hb => by rw [h2 ρ F a w hb]; rfl) ρ F a w hb) h1
    · rename_i t
      cases t
      · exact go false _ (fun ρ => rfl) (fun ρ F a w hb => run false _ _ _ ho (fun ρ F a w hb => by rw [h2 ρ F a w hb]; rfl) ρ F a w hb) (h1.2 rfl)
      · exact go true _ (fun ρ => rfl) (fun ρ F a w hb => run true _ _ _ ho (fun ρ F a w hb => by rw [h2 ρ F a w hb]; rfl) ρ F a w hb) (h1.1 rfl)
    · exact h1.elim
  · obtain ⟨y, h1, h2⟩ := evK_elim h
    unfold nilCheckK at h1
    split at h1
    · exact ⟨_, h1, fun ρ F a w hb hs => by simp [execOp, ho, h2 ρ F a w hb, den]⟩
    · exact ⟨_, h1, fun ρ F a w hb hs => by simp [execOp, ho, h2 ρ F a w hb, den]⟩
    · exact ⟨_, h1, fun ρ F a w hb hs => by simp [execOp, ho, h2 ρ F a w hb, den]⟩
    · exact ⟨_, h1, fun ρ F a w hb hs => by simp [execOp, ho, h2 ρ F a w hb, den]⟩
    · exact h1.elim
  · obtain ⟨x, h1, h2⟩ := evK_elim h
    obtain ⟨r, h5, h6⟩ := ifaceK_elim (P := P) ht h1
    refine ⟨r, h5, fun ρ F a w hb hs => ?_⟩
    rename_i X _
    have hc : a.eval (.const .nilIface) = .nilIface := rfl
    simp only [execOp, ho, Sem.run_bind, h2 ρ F a w hb, hc]
    have := h6 ρ w X
    simp only [Sem.run_bind] at this
    rw [this]; rfl
  · obtain ⟨x, h1, h2⟩ := evK_elim h
    obtain ⟨y, h3, h4⟩ := evK_elim h1
    obtain ⟨r, h5, h6⟩ := binK_elim (P := P) ht h3
    refine ⟨r, h5, fun ρ F a w hb hs => ?_⟩
    simp only [execOp, ho, Sem.run_bind, h2 ρ F a w hb, h4 ρ F a w hb]
    have := h6 ρ w
    simp only [Sem.run_bind] at this
    rw [this]; rfl
  · obtain ⟨x, h1, h2⟩ := evK_elim h
    obtain ⟨r, h5, h6⟩ := unK_elim (P := P) h1
    exact ⟨r, h5, fun ρ F a w hb hs => by simp only [execOp, ho, Sem.run_bind, h2 ρ F a w hb, h6]; rfl⟩
  · obtain ⟨x, h1, h2⟩ := evK_elim h
    obtain ⟨r, h5, h6⟩ := convK_elim (P := P) ht h1
    exact ⟨r, h5, fun ρ F a w hb hs => by simp only [execOp, ho, Sem.run_bind, h2 ρ F a w hb, h6 ρ F a w hb hs]; rfl⟩
  · obtain ⟨x, h1, h2⟩ := evK_elim h
    obtain ⟨r, h5, h6⟩ := sliceK_elim (P := P) ht h1
    exact ⟨r, h5, fun ρ F a w hb hs => by simp only [execOp, ho, Sem.run_bind, h2 ρ F a w hb, Option.map_none, h6 ρ F a w hb]; rfl⟩
  · obtain ⟨x, h1, h2⟩ := evK_elim h
    obtain ⟨fs, fd, fi, h3, h4, h5, h6, h7⟩ := fieldK_elim (P := P) ht h1
    obtain ⟨y, h8, h9⟩ := moveK_elim h7
    refine ⟨y, h8, fun ρ F a w hb hs => ?_⟩
    obtain ⟨ad, h10, h11⟩ := h9 ρ
    simp only [execOp, ho, Sem.run_bind, h2 ρ F a w hb, h10, run_fieldAt h3 h4 h5 h6, h11]; rfl
  · obtain ⟨x, h1, h2⟩ := evK_elim h
    obtain ⟨r, h5, h6⟩ := fieldVK_elim (P := P) ht h1
    exact ⟨r, h5, fun ρ F a w hb hs => by simp only [execOp, ho, Sem.run_bind, h2 ρ F a w hb, h6]; rfl⟩
  · obtain ⟨x, h1, h2⟩ := evK_elim h
    obtain ⟨y, h3, h4⟩ := evK_elim h1
    obtain ⟨r, h5, h6⟩ := indexAtK_elim (P := P) ht h3
    exact ⟨r, h5, fun ρ F a w hb hs => by simp only [execOp, ho, Sem.run_bind, h2 ρ F a w hb, h4 ρ F a w hb, h6]; rfl⟩
  · obtain ⟨x, h1, h2⟩ := evK_elim h
    obtain ⟨y, h3, h4⟩ := evK_elim h1
    obtain ⟨r, h5, h6⟩ := indexK_elim (P := P) ht h3
    exact ⟨r, h5, fun ρ F a w hb hs => by simp only [execOp, ho, Sem.run_bind, h2 ρ F a w hb, h4 ρ F a w hb, h6]; rfl⟩
  · obtain ⟨x, h1, h2⟩ := evK_elim h
    obtain ⟨r, h5, h6⟩ := loadK_elim (P := P) ht h1
    exact ⟨r, h5, fun ρ F a w hb hs => by simp only [execOp, ho, Sem.run_bind, h2 ρ F a w hb, h6 ρ F a w hb hs]; rfl⟩
  · obtain ⟨x, h1, h2⟩ := evK_elim h
    split at h1
    · rename_i l
      obtain ⟨y, h3, h4⟩ := nthS_elim h1
      refine ⟨y, h4, fun ρ F a w hb hs => ?_⟩
      simp [execOp, ho, h2 ρ F a w hb, den, Instr.extract, denL_get, h3]
    · exact h1.elim
  · obtain ⟨r, h5, h6⟩ := buildK_elim (P := P) ht h
    exact ⟨r, h5, fun ρ F a w hb hs => by simp only [execOp, ho, Sem.run_bind]; erw [h6 ρ F a w hb]; rfl⟩
  · obtain ⟨x, h1, h2⟩ := evLK_elim h
    obtain ⟨y, h3, h4⟩ := evLK_elim h1
    refine ⟨_, h3, fun ρ F a w hb hs => ?_⟩
    simp [execOp, ho, Instr.makeFunc, den, ← h2 ρ F a w hb, ← h4 ρ F a w hb]
  · obtain ⟨x, h1, h2⟩ := evK_elim h
    obtain ⟨r, h5, h6⟩ := arrayAtK_elim (P := P) ht h1
    exact ⟨r, h5, fun ρ F a w hb hs => by simp only [execOp, ho, Sem.run_bind, h2 ρ F a w hb, h6]; rfl⟩
  · obtain ⟨x, h1, h2⟩ := evK_elim h
    obtain ⟨r, h5, h6⟩ := entryK_elim (P := P) h1
    exact ⟨r, h5, fun ρ F a w hb hs => by simp only [execOp, ho, Sem.run_bind, h2 ρ F a w hb, h6 ρ F a w hb]; rfl⟩
  · obtain ⟨m, h1, h2⟩ := evK_elim h
    obtain ⟨x, h3, h4⟩ := evK_elim h1
    obtain ⟨r, h5, h6⟩ := lookupK_elim (P := P) ht h3
    exact ⟨r, h5, fun ρ F a w hb hs => by simp only [execOp, ho, Sem.run_bind, h2 ρ F a w hb, h4 ρ F a w hb, h6 ρ F a w hb]; rfl⟩
  · obtain ⟨x, h1, h2⟩ := evK_elim h
    obtain ⟨r, h5, h6⟩ := lenK_elim (P := P) ht h1
    refine ⟨r, h5, fun ρ F a w hb hs => ?_⟩
    have := h6 ρ F a w hb o.type
    simp [execOp, ho, resolve, invoke, builtin, h2 ρ F a w hb, this]
  · obtain ⟨x, h1, h2⟩ := evK_elim h
    obtain ⟨r, h5, h6⟩ := capK_elim (P := P) ht h1
    refine ⟨r, h5, fun ρ F a w hb hs => ?_⟩
    have := h6 ρ w o.type
    simp [execOp, ho, resolve, invoke, builtin, h2 ρ F a w hb, this]
  · obtain ⟨x, h1, h2⟩ := evK_elim h
    obtain ⟨y, h3, h4⟩ := evK_elim h1
    obtain ⟨r, h5, h6⟩ := minK_elim (P := P) h3
    refine ⟨r, h5, fun ρ F a w hb hs => ?_⟩
    simp [execOp, ho, resolve, invoke, builtin, h2 ρ F a w hb, h4 ρ F a w hb, h6]
  · obtain ⟨x, h1, h2⟩ := evK_elim h
    obtain ⟨y, h3, h4⟩ := evK_elim h1
    obtain ⟨r, h5, h6⟩ := maxK_elim (P := P) h3
    refine ⟨r, h5, fun ρ F a w hb hs => ?_⟩
    simp [execOp, ho, resolve, invoke, builtin, h2 ρ F a w hb, h4 ρ F a w hb, h6]
  · exact h.elim
end Go.Proofs.YtekgjjanikicnaaDoor.Sx

namespace Go.Proofs.YtekgjjanikicnaaDoor.Sx
open Go
set_option linter.unusedVariables false
set_option linter.unusedSimpArgs false

def rowFact (b : Nat) (xs : List Value) (T : TypeId) : Fact := ⟨fun k => k = b, fun w => CellsAt w b xs T, fun h e => h.loc (e _ rfl)⟩
mutual
/-- Region r by its place. -/
def sub (r b : Nat) : SV → SV
  | .v x => .v x
  | .b t => .b t
  | .k kd n => .k kd n
  | .p r' o => if Nat.beq r r' = true then .v (.pointer (some ⟨b, o, none⟩)) else .p r' o
  | .q r' o => if Nat.beq r r' = true then .v (.pointer (some ⟨b, o, none⟩)) else .q r' o
  | .s r' o len cap => if Nat.beq r r' = true then .v (.slice (some ⟨b, o, none⟩) len cap) else .s r' o len cap
  | .m r' => .m r'
  | .agg cs => .agg (subL r b cs)
  | .tup cs => .tup (subL r b cs)
  | .fn f a c => .fn f (subL r b a) (subL r b c)
def subL (r b : Nat) : List SV → List SV
  | [] => []
  | x :: l => sub r b x :: subL r b l
end
mutual
theorem den_sub {r b : Nat} {ρ : Nat → Nat} (h : ρ r = b) : ∀ x, den ρ (sub r b x) = den ρ x
  | .v _ => rfl
  | .b _ => rfl
  | .k _ _ => rfl
  | .p r' o => by
    simp only [sub]
    split
    · rename_i e; rw [← Nat.eq_of_beq_eq_true e]; simp only [den, h]
    · rfl
  | .q r' o => by
    simp only [sub]
    split
    · rename_i e; rw [← Nat.eq_of_beq_eq_true e]; simp only [den, h]
    · rfl
  | .s r' o len cap => by
    simp only [sub]
    split
    · rename_i e; rw [← Nat.eq_of_beq_eq_true e]; simp only [den, h]
    · rfl
  | .m _ => rfl
  | .agg cs => by simp only [sub, den, denL_sub h cs]
  | .tup cs => by simp only [sub, den, denL_sub h cs]
  | .fn f a c => by simp only [sub, den, denL_sub h a, denL_sub h c]
theorem denL_sub {r b : Nat} {ρ : Nat → Nat} (h : ρ r = b) : ∀ l, denL ρ (subL r b l) = denL ρ l
  | [] => rfl
  | x :: l => by simp only [subL, denL, den_sub h x, denL_sub h l]
end
def subO (r b : Nat) : SObj → SObj
  | .cells cs T => .cells (subL r b cs) T
  | .row xs T => .row xs T
  | .map es clk => .map es clk
  | .iter mr since seen stepped => .iter mr since seen stepped
  | .abs A => .abs A
theorem objOk_sub {r b : Nat} {ρ : Nat → Nat} (h : ρ r = b) (o : SObj) {w : World} {c : Nat} {F : Nat → Prop} (ho : ObjOk ρ o w c F) : ObjOk ρ (subO r b o) w c F := by
  cases o <;> simp only [subO, ObjOk, denL_sub h] at ho ⊢ <;> exact ho
theorem OkAt.share {B : Bs} {ρ : Nat → Nat} {F : Nat → Nat → Prop} {st : SS} {sz : Nat} {a : Act} {w : World} (h : OkAt B ρ F st sz a w) {r : Nat} {ob : SObj} {xs : List Value} {T : TypeId} (hr : (r, ob) ∈ st.hp)
    (hrow : ∀ ρ w b F, ObjOk ρ ob w b F → (∀ k, F k ↔ k = b) ∧ CellsAt w b xs T) {sl' : List (Nat × SV)} {hp' : List (Nat × SObj)} (hsl : ∀ t x', (t, x') ∈ sl' → ∃ x, (t, x) ∈ st.sl ∧ x' = sub r (ρ r) x)
    (hhp : ∀ j o', (j, o') ∈ hp' → j ≠ r ∧ ∃ o, (j, o) ∈ st.hp ∧ o' = subO r (ρ r) o) : OkAt B ρ F ⟨sl', hp', st.nx, rowFact (ρ r) xs T :: st.fx⟩ sz a w := by
  have hlt := h.heap.shape.lt r _ hr
  have hrw := hrow ρ w _ _ (h.heap.obj ρ (Ag.refl _ _) r _ hr)
  have own : ∀ k, Own hp' F k → Own st.hp F k := by
    rintro k ⟨j, o', hm, hk⟩
    obtain ⟨_, o, h1, _⟩ := hhp j o' hm
    exact ⟨j, o, h1, hk⟩
  have notown : ∀ k, Own hp' F k → k ≠ ρ r := by
    rintro k ⟨j, o', hm, hk⟩ e
    obtain ⟨h1, o, h2, _⟩ := hhp j o' hm
    exact h.heap.shape.dis j o r _ h2 hr h1 k hk (by rw [e]; exact (hrw.1 _).2 rfl)
  refine ⟨fun ρ' ha t x' hm => ?_, ⟨fun ρ' ha j o' hm => ?_, fun j o' hm => ?_, fun j o j' o' hm hm' hne => ?_, fun j o' hm => ?_, fun f hf => ?_⟩, h.size, h.base, h.n0, h.keeps, fun k hk => h.own k (own k hk), fun f hf => ?_, h.defers⟩
  · obtain ⟨x, h1, rfl⟩ := hsl t x' hm
    rw [den_sub (ha r hlt)]
    exact h.slot ρ' ha t x h1
  · obtain ⟨_, o, h1, rfl⟩ := hhp j o' hm
    exact objOk_sub (ha r hlt) o (h.heap.obj ρ' ha j o h1)
  · obtain ⟨_, o, h1, rfl⟩ := hhp j o' hm
    exact h.heap.shape.lt j o h1
  · obtain ⟨_, o1, h1, _⟩ := hhp j o hm
    obtain ⟨_, o2, h2, _⟩ := hhp j' o' hm'
    exact h.heap.shape.dis j o1 j' o2 h1 h2 hne
  · obtain ⟨_, o, h1, _⟩ := hhp j o' hm
    exact h.heap.shape.bnd j o h1
  · rcases List.mem_cons.1 hf with rfl | hf
    · exact ⟨hrw.2, fun k hk => ⟨fun ho => notown k ho hk, h.heap.shape.bnd r _ hr k ((hrw.1 k).2 hk)⟩⟩
    · have := h.heap.shape.fact f hf
      exact ⟨this.1, fun k hk => ⟨fun ho => (this.2 k hk).1 (own k ho), (this.2 k hk).2⟩⟩
  · rcases List.mem_cons.1 hf with rfl | hf
    · exact .inr fun k hk => h.own k ⟨r, _, hr, (hrw.1 k).2 hk⟩
    · exact h.facts f hf
/-! ### Written out -/
mutual
def subK (r b : Nat) : SV → (SV → Prop) → Prop
  | .v x, k => k (.v x)
  | .b t, k => k (.b t)
  | .k kd n, k => k (.k kd n)
  | .p r' o, k => match Nat.beq r r' with
    | true => k (.v (.pointer (some ⟨b, o, none⟩)))
    | false => k (.p r' o)
  | .q r' o, k => match Nat.beq r r' with
    | true => k (.v (.pointer (some ⟨b, o, none⟩)))
    | false => k (.q r' o)
  | .s r' o len cap, k => match Nat.beq r r' with
    | true => k (.v (.slice (some ⟨b, o, none⟩) len cap))
    | false => k (.s r' o len cap)
  | .m r', k => k (.m r')
  | .agg cs, k => subLK r b cs fun cs => k (.agg cs)
  | .tup cs, k => subLK r b cs fun cs => k (.tup cs)
  | .fn f a c, k => subLK r b a fun a => subLK r b c fun c => k (.fn f a c)
def subLK (r b : Nat) : List SV → (List SV → Prop) → Prop
  | [], k => k []
  | x :: l, k => subK r b x fun x => subLK r b l fun l => k (x :: l)
end
mutual
theorem subK_elim {r b : Nat} : ∀ {x : SV} {k : SV → Prop}, subK r b x k → k (sub r b x)
  | .v _, _, h => h
  | .b _, _, h => h
  | .k _ _, _, h => h
  | .p r' o, k, h => by
    rw [subK] at h; rw [sub]
    split at h
    · rename_i e; rw [if_pos e]; exact h
    · rename_i e; rw [if_neg (by rw [e]; simp)]; exact h
  | .q r' o, k, h => by
    rw [subK] at h; rw [sub]
    split at h
    · rename_i e; rw [if_pos e]; exact h
    · rename_i e; rw [if_neg (by rw [e]; simp)]; exact h
  | .s r' o len cap, k, h => by
    rw [subK] at h; rw [sub]
    split at h
    · rename_i e; rw [if_pos e]; exact h
    · rename_i e; rw [if_neg (by rw [e]; simp)]; exact h
  | .m _, _, h => h
  | .agg cs, k, h => by rw [subK] at h; rw [sub]; exact subLK_elim h
  | .tup cs, k, h => by rw [subK] at h; rw [sub]; exact subLK_elim h
  | .fn f a c, k, h => by rw [subK] at h; rw [sub]; exact subLK_elim (subLK_elim h)
theorem subLK_elim {r b : Nat} : ∀ {x : List SV} {k : List SV → Prop}, subLK r b x k → k (subL r b x)
  | [], _, h => h
  | x :: l, k, h => by rw [subLK] at h; rw [subL]; exact subLK_elim (subK_elim h)
end
def subSK (r b : Nat) : List (Nat × SV) → (List (Nat × SV) → Prop) → Prop
  | [], k => k []
  | (t, x) :: l, k => subK r b x fun x => subSK r b l fun l => k ((t, x) :: l)
theorem subSK_elim {r b : Nat} : ∀ {l : List (Nat × SV)} {k : List (Nat × SV) → Prop}, subSK r b l k → ∃ l', k l' ∧ ∀ t x', (t, x') ∈ l' → ∃ x, (t, x) ∈ l ∧ x' = sub r b x
  | [], k, h => ⟨[], h, fun _ _ h => by cases h⟩
  | (t, x) :: l, k, h => by
    rw [subSK] at h
    obtain ⟨l', h1, h2⟩ := subSK_elim (subK_elim h)
    refine ⟨_, h1, fun u x' hm => ?_⟩
    rcases List.mem_cons.1 hm with e | hm
    · cases e; exact ⟨x, List.mem_cons_self .., rfl⟩
    · obtain ⟨y, h3, h4⟩ := h2 u x' hm
      exact ⟨y, List.mem_cons_of_mem _ h3, h4⟩
def subOK (r b : Nat) : SObj → (SObj → Prop) → Prop
  | .cells cs T, k => subLK r b cs fun cs => k (.cells cs T)
  | .row xs T, k => k (.row xs T)
  | .map es clk, k => k (.map es clk)
  | .iter mr since seen stepped, k => k (.iter mr since seen stepped)
  | .abs A, k => k (.abs A)
theorem subOK_elim {r b : Nat} : ∀ {o : SObj} {k : SObj → Prop}, subOK r b o k → k (subO r b o)
  | .cells cs T, _, h => subLK_elim h
  | .row xs T, _, h => h
  | .map es clk, _, h => h
  | .iter mr since seen stepped, _, h => h
  | .abs A, _, h => h
def subHK (r b : Nat) : List (Nat × SObj) → (List (Nat × SObj) → Prop) → Prop
  | [], k => k []
  | (j, o) :: l, k => match Nat.beq r j with
    | true => subHK r b l k
    | false => subOK r b o fun o => subHK r b l fun l => k ((j, o) :: l)
theorem subHK_elim {r b : Nat} : ∀ {l : List (Nat × SObj)} {k : List (Nat × SObj) → Prop}, subHK r b l k → ∃ l', k l' ∧ ∀ j o', (j, o') ∈ l' → j ≠ r ∧ ∃ o, (j, o) ∈ l ∧ o' = subO r b o
  | [], k, h => ⟨[], h, fun _ _ h => by cases h⟩
  | (j, o) :: l, k, h => by
    rw [subHK] at h
    split at h
    · obtain ⟨l', h1, h2⟩ := subHK_elim h
      refine ⟨l', h1, fun j' o' hm => ?_⟩
      obtain ⟨h3, y, h4, h5⟩ := h2 j' o' hm
      exact ⟨h3, y, List.mem_cons_of_mem _ h4, h5⟩
    · rename_i e
      have hne : j ≠ r := fun e2 => by subst e2; simp at e
      obtain ⟨l', h1, h2⟩ := subHK_elim (subOK_elim h)
      refine ⟨_, h1, fun j' o' hm => ?_⟩
      rcases List.mem_cons.1 hm with e | hm
      · cases e; exact ⟨hne, o, List.mem_cons_self .., rfl⟩
      · obtain ⟨h3, y, h4, h5⟩ := h2 j' o' hm
        exact ⟨h3, y, List.mem_cons_of_mem _ h4, h5⟩
def shK (r : Nat) (st : SS) (k : SS → Prop) : Prop :=
  match st with
  | ⟨sl, hp, nx, fx⟩ => objK r hp fun ob => rowOfK ob fun xs T => ∀ b : Nat, subSK r b sl fun sl => subHK r b hp fun hp => k ⟨sl, hp, nx, rowFact b xs T :: fx⟩
theorem shK_elim {r : Nat} {st : SS} {k : SS → Prop} (h : shK r st k) {B : Bs} {ρ : Nat → Nat} {F : Nat → Nat → Prop} {sz : Nat} {a : Act} {w : World} (ho : OkAt B ρ F st sz a w) : ∃ st', k st' ∧ OkAt B ρ F st' sz a w := by
  obtain ⟨sl, hp, nx, fx⟩ := st
  obtain ⟨ob, h1, h2⟩ := objK_elim h
  obtain ⟨xs, T, h3, h4⟩ := rowOfK_elim h2
  obtain ⟨sl', h5, h6⟩ := subSK_elim (h3 (ρ r))
  obtain ⟨hp', h7, h8⟩ := subHK_elim h5
  exact ⟨_, h7, ho.share h1 h4 h6 h8⟩
/-- The rows whose places these values hold, one after the other. -/
def shLK : List SV → SS → (SS → Prop) → Prop
  | [], st, k => k st
  | .s r _ _ _ :: l, st, k => shK r st fun st => shLK l st k
  | _ :: l, st, k => shLK l st k
theorem shLK_elim : ∀ {l : List SV} {st : SS} {k : SS → Prop}, shLK l st k → ∀ {B : Bs} {ρ : Nat → Nat} {F : Nat → Nat → Prop} {sz : Nat} {a : Act} {w : World}, OkAt B ρ F st sz a w → ∃ st', k st' ∧ OkAt B ρ F st' sz a w
  | [], st, k, h, B, ρ, F, sz, a, w, ho => ⟨st, h, ho⟩
  | x :: l, st, k, h, B, ρ, F, sz, a, w, ho => by
    cases x with
    | s r _ _ _ =>
      obtain ⟨st', h1, h2⟩ := shK_elim (show shK r st fun st => shLK l st k from h) ho
      exact shLK_elim h1 h2
    | _ => exact shLK_elim (show shLK l st k from h) ho
/-- Ahead of an operation: what it lays into a row may hold no names. -/
def preK (op : Op) (st : SS) (k : SS → Prop) : Prop :=
  match op with
  | .store _ p x => evK st x fun x => (match x with
    | .s r _ _ _ => evK st p fun p => (match p with
      | .q r' _ => objK r' st.hp fun ob => (match ob with | .row _ _ => shK r st k | _ => k st)
      | .p r' _ => objK r' st.hp fun ob => (match ob with | .row _ _ => shK r st k | _ => k st)
      | _ => k st)
    | _ => k st)
  | .call { callee := .builtin .append, args := ⟨[_, x]⟩, argTypes := _ } => evK st x fun x => (match x with
    | .s r _ _ _ => objK r st.hp fun ob => (match ob with | .cells cs _ => shLK cs st k | _ => k st)
    | _ => k st)
  | _ => k st
theorem preK_elim {op : Op} {st : SS} {k : SS → Prop} (h : preK op st k) {B : Bs} {ρ : Nat → Nat} {F : Nat → Nat → Prop} {sz : Nat} {a : Act} {w : World} (ho : OkAt B ρ F st sz a w) : ∃ st', k st' ∧ OkAt B ρ F st' sz a w := by
  unfold preK at h
  split at h
  · obtain ⟨x, h1, _⟩ := evK_elim h
    split at h1
    · obtain ⟨p, h2, _⟩ := evK_elim h1
      split at h2
      · obtain ⟨ob, _, h3⟩ := objK_elim h2
        split at h3
        · exact shK_elim h3 ho
        · exact ⟨st, h3, ho⟩
      · obtain ⟨ob, _, h3⟩ := objK_elim h2
        split at h3
        · exact shK_elim h3 ho
        · exact ⟨st, h3, ho⟩
      · exact ⟨st, h2, ho⟩
    · exact ⟨st, h1, ho⟩
  · obtain ⟨x, h1, _⟩ := evK_elim h
    split at h1
    · obtain ⟨ob, _, h3⟩ := objK_elim h1
      split at h3
      · exact shLK_elim h3 ho
      · exact ⟨st, h3, ho⟩
    · exact ⟨st, h1, ho⟩
  · exact ⟨st, h, ho⟩
/-! ### append of n noughts -/
def appendZK (tt : List (Option TI)) (st : SS) (T : TypeId) (s x : SV) (k : SV → SS → Prop) : Prop :=
  tyK tt T fun ti => match ti.und with
    | .slice e => tyK tt e fun ei => (match Nat.beq ei.zero.length ei.size && Nat.blt 0 ei.bytes && Nat.blt 0 ei.size with
      | true => plainsK ei.zero fun zs => (match s with
        | .v (.slice none 0 0) => intK x fun _ n kn => natK kn n fun n => forceN ei.bytes fun eb => forceN ei.size fun z => (0 < n ∧ n * eb ≤ 140737488355328) ∧
            ∀ (m : Nat) (sp : List Value), sp.length = m * z → newK (.row (repRow zs n ++ sp) e) st fun r st' => k (.s r 0 n (n + m)) st'
        | _ => False)
      | false => False)
    | _ => False
theorem appendZK_elim {P : Program} {tt : List (Option TI)} (ht : TOk P tt) {st : SS} {T X : TypeId} {s x : SV} {k : SV → SS → Prop} (h : appendZK tt st T s x k) {kn : IntKind} (hX : P.underlying X = some (.int kn)) {o : Oper} {A B : Operand}
    (ho : o.op = .call { callee := .builtin .append, args := #[A, B], argTypes := #[T, X] }) (hA : ∀ ρ F a w, Base ρ F st a w → a.eval A = den ρ s) (hB : ∀ ρ F a w, Base ρ F st a w → a.eval B = den ρ x) : Stp P st o k := by
  obtain ⟨ti, hti, h1⟩ := tyK_elim h
  clear h
  have hT := tyFacts (ht T ti hti)
  split at h1
  · rename_i e hd
    obtain ⟨ei, hei, h2⟩ := tyK_elim h1
    clear h1
    have hE := tyFacts (ht _ ei hei)
    split at h2
    · rename_i hq
      simp only [Bool.and_eq_true, Nat.beq_eq, Nat.blt_eq] at hq
      obtain ⟨⟨hbq, hby⟩, hsz⟩ := hq
      obtain ⟨zs, h3, hzs⟩ := plainsK_elim h2
      split at h3
      · obtain ⟨kd, n, kk, h4, hx⟩ := intK_elim h3
        obtain ⟨hn0, h5⟩ := natK_elim h4
        obtain ⟨⟨h6, h7⟩, h8⟩ := forceN_elim (forceN_elim h5)
        have h7 : n.toNat * ei.bytes ≤ 140737488355328 := h7
        intro ρ F a w hb hh
        have hb0 := hb ρ (Ag.refl _ _)
        obtain ⟨i, z, hi, hi1, hi2, hi3, hi4⟩ := hE.info
        have hzc : z.cells.toList = zs := by rw [← hzs id, ← hi4, denL_ofV]
        have hzsz : z.cells.size = ei.size := by rw [← Array.length_toList, hzc, ← hzs id, denL_length, hbq]
        have hnn : n = ((n.toNat : Nat) : Int) := (Int.toNat_of_nonneg hn0).symm
        have hr := Go.Lib.run_append_nil_zeros (P := P) w T X o.type e i z kd kn (by rw [hT.und, hd]) hX hi hi3 n.toNat h6 (by rw [hi1]; exact hsz) (by have := Nat.le_mul_of_pos_right n.toNat hby; omega) (by rw [hi2]; omega)
        rw [← hnn] at hr
        have hge := grownCap_ge w n.toNat 0 e
        have cells : ∀ m : Nat, (Builtin.zeroCells z.cells m).toList = repRow zs m := fun m => by
          rw [rep_one]
          simp only [Builtin.zeroCells]
          rw [flatten_rep_get, hzc]
        have hlen : ∀ m : Nat, (repRow zs m).length = m * ei.size := fun m => by
          rw [rep_one]
          have : zs.length = ei.size := by rw [← hzs id, denL_length, hbq]
          simp [this]
        have h9 := newK_elim (h8 (grownCap w n.toNat 0 e - n.toNat) (repRow zs (grownCap w n.toNat 0 e - n.toNat)) (hlen _))
        obtain ⟨h11, h12⟩ := hh.drew.alloc (o := .row (repRow zs n.toNat ++ repRow zs (grownCap w n.toNat 0 e - n.toNat)) e) (ob := .cells (repRow zs n.toNat ++ repRow zs (grownCap w n.toNat 0 e - n.toNat)).toArray e) (fun ρ' hr => ⟨fun k => Iff.rfl, cellsAt_alloc w.drew _ e⟩)
        refine ⟨_, _, _, updR ρ st.nx w.heap.size, _, _, h9, .inl ?_, ?_, h11, Ag.updR ρ _, by omega, (keeps_drew _ w).trans (keeps_alloc _ _ _) (fun j hj => .inl hj), h12⟩
        · simp only [execOp, ho, resolve, invoke, builtin, Sem.run_bind, Sem.run_pure, Result.andThen_ok, List.map_toArray, List.map_cons, List.map_nil, hA ρ F a w hb0, hB ρ F a w hb0, hx ρ, den]
          rw [hr]
          have e1 : n.toNat + (grownCap w n.toNat 0 e - n.toNat) = grownCap w n.toNat 0 e := by omega
          have e2 : Builtin.zeroCells z.cells n.toNat ++ Builtin.zeroCells z.cells (grownCap w n.toNat 0 e - n.toNat) = (repRow zs n.toNat ++ repRow zs (grownCap w n.toNat 0 e - n.toNat)).toArray := by
            apply Array.ext'
            rw [Array.toList_append, cells, cells]
          simp [updR_same, e1, e2]
        · intro ρ'' hr''
          simp only [den]
          rw [hr'' st.nx (by omega)]
      · exact h3.elim
    · exact h2.elim
  · exact h1.elim
/-- append, of a row or of n noughts. -/
def appendXK (tt : List (Option TI)) (st : SS) (T X : TypeId) (s x : SV) (k : SV → SS → Prop) : Prop :=
  tyK tt X fun xi => match xi.und with
    | .int _ => appendZK tt st T s x k
    | _ => appendK tt st T X s x k
theorem appendXK_elim {P : Program} {tt : List (Option TI)} (ht : TOk P tt) {st : SS} {T X : TypeId} {s x : SV} {k : SV → SS → Prop} (h : appendXK tt st T X s x k) {o : Oper} {A B : Operand}
    (ho : o.op = .call { callee := .builtin .append, args := #[A, B], argTypes := #[T, X] }) (hA : ∀ ρ F a w, Base ρ F st a w → a.eval A = den ρ s) (hB : ∀ ρ F a w, Base ρ F st a w → a.eval B = den ρ x) : Stp P st o k := by
  obtain ⟨xi, hxi, h1⟩ := tyK_elim h
  have hX := tyFacts (ht X xi hxi)
  split at h1
  · rename_i kd hd
    exact appendZK_elim ht h1 (by rw [hX.und, hd]) ho hA hB
  · exact appendK_elim ht h1 ho hA hB
end Go.Proofs.YtekgjjanikicnaaDoor.Sx

namespace Go.Proofs.YtekgjjanikicnaaDoor.Sx
open Go
set_option linter.unusedVariables false
set_option linter.unusedSimpArgs false

/-- A call of function n, however the model runs it: in a frame of its own, or at once. -/
def CallsX (P : Program) (n : Nat) (args : Array Value) (w : World) (R : Ending → World → Prop) : Prop :=
  ((callFunc n args).run P w = .ok (.enter n args) w ∧ Calls P n args w R) ∨ ∃ v w', (callFunc n args).run P w = .ok (.value v) w' ∧ R (.returned v) w'
theorem CallsX.mono {P : Program} {n : Nat} {args : Array Value} {w : World} {R R' : Ending → World → Prop} (h : CallsX P n args w R) (hR : ∀ e w', R e w' → R' e w') : CallsX P n args w R' :=
  h.elim (fun h => .inl ⟨h.1, h.2.mono hR⟩) (fun ⟨v, w', h, hr⟩ => .inr ⟨v, w', h, hR _ _ hr⟩)
theorem CallsX.enters {P : Program} {n : Nat} {args : Array Value} {w : World} {R : Ending → World → Prop} (h : CallsX P n args w R) (hen : (callFunc n args).run P w = .ok (.enter n args) w) : Calls P n args w R :=
  h.elim (fun h => h.2) (fun ⟨v, w', h, _⟩ => by rw [hen] at h; cases h)
/-- What a call of function n is shown to do with the regions hp: whatever else there is stays. -/
structure Tri (P : Program) (n : Nat) (args : List SV) (hp : List (Nat × SObj)) (m : Nat) (fx : List Fact) (post : SV → List (Nat × SObj) → Nat → List Fact → Prop) : Prop where
  enter : True
  run : ∀ ρ F w, HpOk ρ F hp m fx w → (∀ ρ', Ag m ρ ρ' → denL ρ' args = denL ρ args) → CallsX P n (denL ρ args).toArray w (fun e w' => ∃ y hp' m' fx' ρ' F', post y hp' m' fx' ∧ e = .returned (den ρ' y) ∧
    (∀ ρ'', Ag m' ρ' ρ'' → den ρ'' y = den ρ' y) ∧ HpOk ρ' F' hp' m' fx' w' ∧ Ag m ρ ρ' ∧ m ≤ m' ∧ Keeps (Own hp F) w w' ∧ (∀ k, Own hp' F' k → Own hp F k ∨ w.heap.size ≤ k) ∧ (∀ f, f ∈ fx' → f ∈ fx ∨ ∀ k, f.G k → Own hp F k ∨ w.heap.size ≤ k))
theorem Tri.mono {P : Program} {n : Nat} {args : List SV} {hp : List (Nat × SObj)} {m : Nat} {fx : List Fact} {post post' : SV → List (Nat × SObj) → Nat → List Fact → Prop} (h : Tri P n args hp m fx post)
    (hp' : ∀ y h m f, post y h m f → post' y h m f) : Tri P n args hp m fx post' :=
  ⟨h.enter, fun ρ F w h1 h2 => (h.run ρ F w h1 h2).mono fun _ _ ⟨y, a, b, c, d, e, f, g⟩ => ⟨y, a, b, c, d, e, hp' _ _ _ _ f, g⟩⟩
def appL : List SV → List SV → (List SV → Prop) → Prop
  | [], l, k => k l
  | x :: r, l, k => appL r l fun m => k (x :: m)
theorem appL_elim : ∀ {a b : List SV} {k : List SV → Prop}, appL a b k → k (a ++ b)
  | [], b, k, h => h
  | x :: r, b, k, h => by have := appL_elim (a := r) h; simpa using this
def callK (P : Program) (sz : Nat) (st : SS) (dst : Option Tmp) (f : Operand) (args : List Operand) (k : SS → Prop) : Prop :=
  evK st f fun f => match f with
    | .fn (.func n) first cap => evLK st args fun l => appL l cap fun l => appL first l fun l => match st with
      | ⟨sl, hp, nx, fx⟩ => Tri P n l hp nx fx (fun y hp' m' fx' => putK sz dst y ⟨sl, hp', m', fx'⟩ k)
    | _ => False
def stepK (tt : List (Option TI)) (sz : Nat) (st : SS) (o : Oper) (k : SS → Prop) : Prop :=
  match o.op with
  | .alloc T => tyK tt T fun ti => newK (.cells ti.zero T) st fun r st => putK sz o.dst (.p r 0) st k
  | .box T x => evK st x fun x => (match x with
    | .v (.agg a) => (∀ u ∈ a.toList, u.oneCell' = true) ∧ newK (.row a.toList T) st fun r st => putK sz o.dst (.p r 0) st k
    | x => cellsK x fun l => newK (.cells l T) st fun r st => putK sz o.dst (.p r 0) st k)
  | .store T p x => (match o.dst with | none => evK st p fun p => evK st x fun x => storeK tt st T p x k | some _ => False)
  | .buildSlice T len ps => buildSliceK tt st T len ps.toList fun y st => putK sz o.dst y st k
  | .makeSlice T l c => makeSliceK tt st T l c fun y st => putK sz o.dst y st k
  | .convert s d x => evK st x fun x => tyK tt d fun di => (match di.und with
    | .slice _ => (match x with
      | .s r off len cap => rebytesK tt st s d (.s r off len cap) fun y st => putK sz o.dst y st k
      | x => bytesK tt st s d x fun y st => putK sz o.dst y st k)
    | _ => convK tt st s d x fun y => putK sz o.dst y st k)
  | .call { callee := .builtin .append, args := ⟨[s, x]⟩, argTypes := ⟨[T, X]⟩ } => evK st s fun s => evK st x fun x => appendXK tt st T X s x fun y st => putK sz o.dst y st k
  | .call { callee := .builtin .copy, args := ⟨[d, x]⟩, argTypes := ⟨[T, _]⟩ } => evK st d fun d => evK st x fun x => copyK tt st T d x fun y st => putK sz o.dst y st k
  | .makeMap _ none => newK (.map #[] 0) st fun r st => putK sz o.dst (.m r) st k
  | .mapUpdate T m x v => (match o.dst with | none => evK st m fun m => evK st x fun x => evK st v fun v => mapUpdateK tt st T m x v k | some _ => False)
  | .range T m => evK st m fun m => rangeK tt st T m fun y st => putK sz o.dst y st k
  | .next it false => evK st it fun it => nextK st it fun y st => putK sz o.dst y st k
  | .call { callee := .builtin .clear, args := ⟨[m]⟩, argTypes := ⟨[T]⟩ } => evK st m fun m => clearK tt st T m fun st => putK sz o.dst (.tup []) st k
  | op => pureK tt st op fun y => putK sz o.dst y st k
/-- Two values made of parts, compared. -/
def AggEq (P : Program) (T : TypeId) (xs ys : List Value) (r : Bool) : Prop :=
  ∀ w, (Op.equal T (.agg ⟨xs⟩) (.agg ⟨ys⟩)).run P w = .ok r w ∧ ∀ o a b, (eqGuard o T a b (.agg ⟨xs⟩) (.agg ⟨ys⟩)).run P w = .ok () w
def isAggS : SV → Bool
  | .agg _ => true
  | .v (.agg _) => true
  | _ => false
def aggK (x : SV) (k : List Value → Prop) : Prop :=
  match x with
  | .agg cs => plainsK cs k
  | .v (.agg ⟨l⟩) => k l
  | _ => False
theorem aggK_elim {x : SV} {k : List Value → Prop} (h : aggK x k) : ∃ l, k l ∧ ∀ ρ, den ρ x = .agg ⟨l⟩ := by
  unfold aggK at h
  split at h
  · obtain ⟨vs, h1, h2⟩ := plainsK_elim h
    exact ⟨vs, h1, fun ρ => by simp only [den, h2 ρ]⟩
  · exact ⟨_, h, fun _ => rfl⟩
  · exact h.elim
def eqAggK (P : Program) (sz : Nat) (st : SS) (dst : Option Tmp) (op : BinOp) (T : TypeId) (x y : SV) (k : SS → Prop) : Prop :=
  aggK x fun xs => aggK y fun ys => match op with
    | .eql => ∃ r, AggEq P T xs ys r ∧ putK sz dst (.v (.bool r)) st k
    | .neq => ∃ r, AggEq P T xs ys r ∧ putK sz dst (.v (.bool (!r))) st k
    | _ => False
def opK (P : Program) (tt : List (Option TI)) (sz : Nat) (st : SS) (o : Oper) (k : SS → Prop) : Prop :=
  match o.op with
  | .call { callee := .value f, args := ⟨args⟩, argTypes := _ } => callK P sz st o.dst f args k
  | .binOp op T x y R => evK st x fun vx => (match isAggS vx with
    | true => evK st y fun vy => eqAggK P sz st o.dst op T vx vy k
    | false => preK (.binOp op T x y R) st fun st => stepK tt sz st o k)
  | op => preK op st fun st => stepK tt sz st o k
theorem Stp.use {P : Program} {st : SS} {o : Oper} {Kf : SV → SS → Prop} (h : Stp P st o Kf) {B : Bs} {ρ : Nat → Nat} {F : Nat → Nat → Prop} {sz : Nat} {a : Act} {w : World} (ho : OkAt B ρ F st sz a w) {Q : Exit → Act → World → Prop} {k : SS → Prop}
    (hk : ∀ y st', Kf y st' → (o.dst = none ∧ k st') ∨ putK sz o.dst y st' k) : o.wp P a w (fun a' w' => ∃ st' ρ' F', k st' ∧ OkAt B ρ' F' st' sz a' w') Q := by
  obtain ⟨y, hp', nx', ρ', F', w', h1, h2, h3, h4, h5, h6, h7, h8⟩ := h ρ F a w (fun ρ' hr => ho.toBase hr) ho.heap
  have ho' := ho.step h4 h5 h6 h7 h8 (fun f hf => .inl hf)
  rcases h2 with h2 | ⟨hd, h2⟩
  · simp only [Oper.wp, h2, Oper.upon]
    rcases hk _ _ h1 with ⟨hd, hk⟩ | hk
    · rw [hd]; exact ⟨_, ρ', F', hk, ho'⟩
    · obtain ⟨st', h9, h10⟩ := putK_elim hk ho' h3
      exact ⟨st', ρ', F', h9, h10⟩
  · simp only [Oper.wp, h2, Oper.upon]
    rcases hk _ _ h1 with ⟨_, hk⟩ | hk
    · rw [hd]; exact ⟨_, ρ', F', hk, ho'⟩
    · rw [hd] at hk ⊢
      exact ⟨_, ρ', F', hk, ho'⟩
theorem Yl.use {P : Program} {st : SS} {o : Oper} {y : SV} (h : Yl P st o y) {B : Bs} {ρ : Nat → Nat} {F : Nat → Nat → Prop} {sz : Nat} {a : Act} {w : World} (ho : OkAt B ρ F st sz a w) {Q : Exit → Act → World → Prop} {k : SS → Prop}
    (hk : putK sz o.dst y st k) : o.wp P a w (fun a' w' => ∃ st' ρ' F', k st' ∧ OkAt B ρ' F' st' sz a' w') Q := by
  have h1 := h ρ F a w (ho.toBase (Ag.refl _ _)) ho.heap.shape.fok
  simp only [Oper.wp, h1, Oper.upon]
  obtain ⟨st', h9, h10⟩ := putK_elim hk ho (fun ρ' hr => h.robust ho hr)
  exact ⟨st', ρ, F, h9, h10⟩
theorem allocStp {P : Program} {tt : List (Option TI)} (ht : TOk P tt) {st : SS} {T : TypeId} {ti : TI} (hti : tt[T]? = some (some ti)) {o : Oper} (ho : o.op = .alloc T) {Kf : SV → SS → Prop} (h : newK (.cells ti.zero T) st fun r st => Kf (.p r 0) st) : Stp P st o Kf := by
  have hT := tyFacts (ht T ti hti)
  refine Stp.alloc (newK_elim h) fun ρ F a w hb hh => ?_
  obtain ⟨z, h1, h2⟩ := zero_den hT w
  refine ⟨z.cells, T, fun ρ' hr => ⟨fun k => Iff.rfl, ?_⟩, .pointer (some ⟨w.heap.size, 0, none⟩), fun ρ' hr => by simp [den, hr], ?_⟩
  · have := cellsAt_alloc w (denL ρ' ti.zero) T
    rw [← h2 ρ', Array.toArray_toList] at this
    rw [← h2 ρ']
    exact this
  · simp only [execOp, ho, Instr.alloc, Sem.run_bind, h1, Result.andThen_ok, newVar, newRow, run_newObj, Sem.run_pure, World.alloc_eq]
theorem boxStp {P : Program} {st : SS} {T : TypeId} {X : Operand} {x : SV} (hx : ∀ ρ F a w, Base ρ F st a w → a.eval X = den ρ x) {l : List SV} (hl : ∀ ρ, (den ρ x).cells.toList = denL ρ l) {o : Oper} (ho : o.op = .box T X) {Kf : SV → SS → Prop} (h : newK (.cells l T) st fun r st => Kf (.p r 0) st) : Stp P st o Kf := by
  refine Stp.alloc (newK_elim h) fun ρ F a w hb hh => ?_
  refine ⟨(a.eval X).cells, T, fun ρ' hr => ⟨fun k => Iff.rfl, ?_⟩, .pointer (some ⟨w.heap.size, 0, none⟩), fun ρ' hr => by simp [den, hr], ?_⟩
  · have := cellsAt_alloc w (denL ρ' l) T
    rw [← hl ρ', Array.toArray_toList] at this
    rw [← hl ρ', hx ρ' F a w (hb ρ' hr)]
    exact this
  · simp only [execOp, ho, Instr.box, Sem.run_bind, newVar, newRow, run_newObj, Sem.run_pure, Result.andThen_ok, World.alloc_eq]
theorem stepK_sound {P : Program} {tt : List (Option TI)} (ht : TOk P tt) {sz : Nat} {st : SS} {o : Oper} {k : SS → Prop} (h : stepK tt sz st o k) {B : Bs} {ρ : Nat → Nat} {F : Nat → Nat → Prop} {a : Act} {w : World} (ho : OkAt B ρ F st sz a w) {Q : Exit → Act → World → Prop} :
    o.wp P a w (fun a' w' => ∃ st' ρ' F', k st' ∧ OkAt B ρ' F' st' sz a' w') Q := by
  unfold stepK at h
  split at h
  · rename_i T hop
    obtain ⟨ti, hti, h1⟩ := tyK_elim h
    exact (allocStp ht hti hop (Kf := fun y st => putK sz o.dst y st k) h1).use ho fun _ _ h => .inr h
  · rename_i T X hop
    obtain ⟨x, h1, h2⟩ := evK_elim h
    split at h1
    · rename_i ag
      obtain ⟨hone, h3⟩ := h1
      refine (Stp.alloc (Kf := fun y st => putK sz o.dst y st k) (y := .p _ 0) (newK_elim h3) fun ρ F a w hb hh => ?_).use ho fun _ _ h => .inr h
      refine ⟨ag, T, fun ρ' hr => ⟨fun k => Iff.rfl, ?_⟩, .pointer (some ⟨w.heap.size, 0, none⟩), fun ρ' hr => by simp [den, hr], ?_⟩
      · have := cellsAt_alloc w ag.toList T
        rwa [Array.toArray_toList] at this
      · simp only [execOp, hop, Instr.box, h2 ρ F a w (hb ρ (Ag.refl _ _)), den, Value.cells, Sem.run_bind, newVar, newRow, run_newObj, Sem.run_pure, Result.andThen_ok, World.alloc_eq]
    obtain ⟨l, h3, h4, _⟩ := cellsK_elim h1
    exact (boxStp h2 h4 hop (Kf := fun y st => putK sz o.dst y st k) h3).use ho fun _ _ h => .inr h
  · rename_i T p x hop
    split at h
    · rename_i hd
      obtain ⟨p', h1, h2⟩ := evK_elim h
      obtain ⟨x', h3, h4⟩ := evK_elim h1
      exact (storeK_elim ht h3 hop hd h2 h4).use ho fun _ _ h => .inl ⟨hd, h⟩
    · exact h.elim
  · rename_i T len ps hop
    exact (buildSliceK_elim (P := P) ht h hop).use ho fun _ _ h => .inr h
  · rename_i T l c hop
    exact (makeSliceK_elim (P := P) ht h hop).use ho fun _ _ h => .inr h
  · rename_i s d X hop
    obtain ⟨x, h1, h2⟩ := evK_elim h
    obtain ⟨di, hdi, h3⟩ := tyK_elim h1
    split at h3
    · split at h3
      · exact (rebytesK_elim (P := P) ht h3 hop h2).use ho fun _ _ h => .inr h
      · exact (bytesK_elim (P := P) ht h3 hop h2).use ho fun _ _ h => .inr h
    · obtain ⟨y, h5, h6⟩ := convK_elim (P := P) ht h3
      refine Yl.use (y := y) (fun ρ F a w hb hs => ?_) ho h5
      simp only [execOp, hop, Sem.run_bind, h2 ρ F a w hb, h6 ρ F a w hb hs]; rfl
  · rename_i s x T X hop
    obtain ⟨s', h1, h2⟩ := evK_elim h
    obtain ⟨x', h3, h4⟩ := evK_elim h1
    exact (appendXK_elim (P := P) ht h3 hop h2 h4).use ho fun _ _ h => .inr h
  · rename_i d x T X hop
    obtain ⟨s', h1, h2⟩ := evK_elim h
    obtain ⟨x', h3, h4⟩ := evK_elim h1
    exact (copyK_elim (P := P) ht h3 (ats := #[T, X]) rfl hop h2 h4).use ho fun _ _ h => .inr h
  · rename_i T hop
    refine Stp.use (Kf := fun y st => putK sz o.dst y st k) ?_ ho fun _ _ h => .inr h
    intro ρ F a w hb hh
    obtain ⟨h6, h7⟩ := hh.alloc (o := .map #[] 0) (ob := .map #[] 0) (fun ρ' hr => ⟨fun k => Iff.rfl, heap_alloc_new w _⟩)
    refine ⟨_, _, _, updR ρ st.nx w.heap.size, _, w.alloc (.map #[] 0), newK_elim h, .inl ?_, ?_, h6, Ag.updR ρ _, by omega, keeps_alloc _ w _, h7⟩
    · simp only [execOp, hop, Option.map_none, Instr.makeMap, Sem.run_bind, run_newObj, Sem.run_pure, Result.andThen_ok, World.alloc_eq, den, updR_same]
    · intro ρ'' hr
      simp only [den]
      rw [hr st.nx (by omega)]
  · rename_i T m x v hop
    split at h
    · rename_i hd
      obtain ⟨m', h1, h2⟩ := evK_elim h
      obtain ⟨x', h3, h4⟩ := evK_elim h1
      obtain ⟨v', h5, h6⟩ := evK_elim h3
      exact (mapUpdateK_elim ht h5 hop hd h2 h4 h6).use ho fun _ _ h => .inl ⟨hd, h⟩
    · exact h.elim
  · rename_i T m hop
    obtain ⟨m', h1, h2⟩ := evK_elim h
    exact (rangeK_elim (P := P) ht h1 hop h2).use ho fun _ _ h => .inr h
  · rename_i it hop
    obtain ⟨m', h1, h2⟩ := evK_elim h
    exact (nextK_elim (P := P) h1 hop h2).use ho fun _ _ h => .inr h
  · rename_i m T hop
    obtain ⟨m', h1, h2⟩ := evK_elim h
    exact (clearK_elim (P := P) (k := fun y st => putK sz o.dst y st k) ht h1 hop h2).use ho fun _ _ h => .inr h
  · obtain ⟨y, h1, h2⟩ := pureK_elim (P := P) ht h rfl
    exact h2.use ho h1
theorem opK_sound {P : Program} {tt : List (Option TI)} (ht : TOk P tt) {sz : Nat} {st : SS} {o : Oper} {k : SS → Prop} (h : opK P tt sz st o k) {B : Bs} {ρ : Nat → Nat} {F : Nat → Nat → Prop} {a : Act} {w : World} (ho : OkAt B ρ F st sz a w) {Q : Exit → Act → World → Prop} :
    o.wp P a w (fun a' w' => ∃ st' ρ' F', k st' ∧ OkAt B ρ' F' st' sz a' w') Q := by
  unfold opK at h
  split at h
  · rename_i f args ats hop
    unfold callK at h
    obtain ⟨fv, h1, h2⟩ := evK_elim h
    split at h1
    · rename_i n first cap
      obtain ⟨l, h3, h4⟩ := evLK_elim h1
      have h5 := appL_elim (appL_elim h3)
      obtain ⟨sl, hp, nx, fx⟩ := st
      have hb := ho.toBase (Ag.refl _ _)
      have hrun : (execOp a.eval o).run P w = (callFunc n (denL ρ (first ++ (l ++ cap))).toArray).run P w := by
        have e1 : (args.map a.eval) = denL ρ l := h4 ρ F a w hb
        have e2 : (a.eval f) = .func (.func n) (denL ρ first).toArray (denL ρ cap).toArray := h2 ρ F a w hb
        simp only [execOp, hop, resolve, List.map_toArray, e1, e2, Deferred.ofValue, Sem.run_bind, Sem.run_pure, Result.andThen_ok, invoke]
        have e3 : (denL ρ first).toArray ++ (denL ρ l).toArray ++ (denL ρ cap).toArray = (denL ρ (first ++ (l ++ cap))).toArray := by
          simp [denL_append]
        rw [e3]
      have hrob : ∀ ρ', Ag nx ρ ρ' → denL ρ' (first ++ (l ++ cap)) = denL ρ (first ++ (l ++ cap)) := by
        intro ρ' hr
        have hb' := ho.toBase (ρ' := ρ') hr
        have e1 : denL ρ' l = denL ρ l := by rw [← h4 ρ' F a w hb', ← h4 ρ F a w hb]
        have e2 : den ρ' (SV.fn (.func n) first cap) = den ρ (SV.fn (.func n) first cap) := by rw [← h2 ρ' F a w hb', ← h2 ρ F a w hb]
        simp only [den, Value.func.injEq, true_and] at e2
        have e3 := congrArg Array.toList e2.1
        have e4 := congrArg Array.toList e2.2
        simp only [List.toList_toArray] at e3 e4
        rw [denL_append, denL_append, denL_append, denL_append, e1, e3, e4]
      have fin : ∀ y hp' m' fx' ρ' F' w', putK sz o.dst y ⟨sl, hp', m', fx'⟩ k → (∀ ρ'', Ag m' ρ' ρ'' → den ρ'' y = den ρ' y) → HpOk ρ' F' hp' m' fx' w' → Ag nx ρ ρ' → nx ≤ m' → Keeps (Own hp F) w w' →
          (∀ k, Own hp' F' k → Own hp F k ∨ w.heap.size ≤ k) → (∀ f, f ∈ fx' → f ∈ fx ∨ ∀ k, f.G k → Own hp F k ∨ w.heap.size ≤ k) → ∃ st' ρ2 F2, k st' ∧ OkAt B ρ2 F2 st' sz (a.put o.dst (den ρ' y)) w' := by
        intro y hp' m' fx' ρ' F' w' hk h6 h7 h8 h9 h10 h11 h11'
        obtain ⟨st', h12, h13⟩ := putK_elim hk (ho.step h7 h8 h9 h10 h11 h11') h6
        exact ⟨st', ρ', F', h12, h13⟩
      rcases h5.run ρ F w ho.heap hrob with ⟨hen, hc⟩ | ⟨v, w', hv, y, hp', m', fx', ρ', F', hk, he, h6, h7, h8, h9, h10, h11, h11'⟩
      · simp only [Oper.wp, hrun, hen, Oper.upon]
        refine hc.mono fun e w' hpost => ?_
        obtain ⟨y, hp', m', fx', ρ', F', hk, rfl, h6, h7, h8, h9, h10, h11, h11'⟩ := hpost
        exact fin y hp' m' fx' ρ' F' w' hk h6 h7 h8 h9 h10 h11 h11'
      · simp only [Oper.wp, hrun, hv, Oper.upon]
        obtain rfl : v = den ρ' y := by cases he; rfl
        exact fin y hp' m' fx' ρ' F' w' hk h6 h7 h8 h9 h10 h11 h11'
    · exact h1.elim
  · rename_i op T X Y R hop
    obtain ⟨vx, h1, h2⟩ := evK_elim h
    split at h1
    · obtain ⟨vy, h3, h4⟩ := evK_elim h1
      unfold eqAggK at h3
      obtain ⟨xs, h5, h6⟩ := aggK_elim h3
      obtain ⟨ys, h7, h8⟩ := aggK_elim h5
      have hb := ho.toBase (Ag.refl _ _)
      have e1 : a.eval X = .agg ⟨xs⟩ := by rw [h2 ρ F a w hb, h6]
      have e2 : a.eval Y = .agg ⟨ys⟩ := by rw [h4 ρ F a w hb, h8]
      have fin : ∀ r : Bool, (execOp a.eval o).run P w = .ok (.value (.bool r)) w → putK sz o.dst (.v (.bool r)) st k → o.wp P a w (fun a' w' => ∃ st' ρ' F', k st' ∧ OkAt B ρ' F' st' sz a' w') Q := by
        intro r hr hk
        simp only [Oper.wp, hr, Oper.upon]
        obtain ⟨st', h9, h10⟩ := putK_elim hk ho (fun _ _ => rfl)
        exact ⟨st', ρ, F, h9, h10⟩
      split at h7
      · obtain ⟨r, hr, hk⟩ := h7
        refine fin r ?_ hk
        simp only [execOp, hop, e1, e2, Sem.run_bind, (hr w).2, Result.andThen_ok, binOp, (hr w).1, Sem.run_pure]
      · obtain ⟨r, hr, hk⟩ := h7
        refine fin (!r) ?_ hk
        simp only [execOp, hop, e1, e2, Sem.run_bind, (hr w).2, Result.andThen_ok, binOp, (hr w).1, Sem.run_pure]
      · exact h7.elim
    · obtain ⟨st', h3, h4⟩ := preK_elim h1 ho
      exact stepK_sound ht h3 h4
  · obtain ⟨st', h1, h2⟩ := preK_elim h ho
    exact stepK_sound ht h1 h2

/-! ### guards, lists of operations -/
def guardK (sz : Nat) (ops : List Oper) (o : Oper) (st : SS) (ky kn : SS → Prop) : Prop :=
  match o.guard with
  | none => ky st
  | some (j, want) => nthK ops j fun oj => match oj.dst with
    | none => False
    | some t => getK t st.sl fun v => match v with
      | .b s => (match want, s with
        | true, true => ky st
        | false, false => ky st
        | _, _ => kn st)
      | .v (.bool s) => (match want with
        | true => (s = true → putK sz (some t) (.b true) st ky) ∧ (s = false → putK sz (some t) (.b false) st kn)
        | false => (s = true → putK sz (some t) (.b true) st kn) ∧ (s = false → putK sz (some t) (.b false) st ky))
      | .tup [] => kn st
      | _ => False
def opsK (P : Program) (tt : List (Option TI)) (sz : Nat) (ops : List Oper) (l : List Oper) : SS → (SS → Prop) → Prop :=
  List.rec (motive := fun _ => SS → (SS → Prop) → Prop) (fun st k => k st)
    (fun o _ ih st k => guardK sz ops o st (fun st => opK P tt sz st o fun st => ih st k) (fun st => putK sz o.dst (.tup []) st fun st => ih st k)) l
theorem opsK_nil {P : Program} {tt : List (Option TI)} {sz : Nat} {ops : List Oper} {st : SS} {k : SS → Prop} : opsK P tt sz ops [] st k = k st := rfl
theorem opsK_cons {P : Program} {tt : List (Option TI)} {sz : Nat} {ops : List Oper} {o : Oper} {r : List Oper} {st : SS} {k : SS → Prop} : opsK P tt sz ops (o :: r) st k = guardK sz ops o st (fun st => opK P tt sz st o fun st => opsK P tt sz ops r st k) (fun st => putK sz o.dst (.tup []) st fun st => opsK P tt sz ops r st k) := rfl
theorem Act.put_same {a : Act} {t : Tmp} {v : Value} (h : a.tmps[t]? = some v) : a.put (some t) v = a := by
  cases a with
  | mk tmps defers =>
    simp only [Act.put, Act.mk.injEq, and_true]
    apply Array.ext_getElem?
    intro i
    rw [Array.getElem?_setIfInBounds]
    split
    · rename_i hi
      subst hi
      have h' : tmps[t]? = some v := h
      have := Array.getElem?_eq_some_iff.1 h'
      obtain ⟨h1, h2⟩ := this
      rw [if_pos h1, h']
    · rfl
theorem guardK_sound {P : Program} {sz : Nat} {ops : List Oper} {o : Oper} {st : SS} {ky kn : SS → Prop} (h : guardK sz ops o st ky kn) {B : Bs} {ρ : Nat → Nat} {F : Nat → Nat → Prop} {a : Act} {w : World} (ho : OkAt B ρ F st sz a w) :
    (Region.wanted o (yielded ops.toArray a.tmps) = true ∧ ∃ st', ky st' ∧ OkAt B ρ F st' sz a w) ∨ (Region.wanted o (yielded ops.toArray a.tmps) = false ∧ ∃ st', kn st' ∧ OkAt B ρ F st' sz a w) := by
  unfold guardK at h
  split at h
  · rename_i hg
    exact .inl ⟨by simp [Region.wanted, hg], st, h, ho⟩
  · rename_i j want hg
    obtain ⟨oj, h1, h2⟩ := nthK_elim h
    split at h2
    · exact h2.elim
    · rename_i t hd
      obtain ⟨v, h3, h4⟩ := getK_elim h2
      have hs := ho.slot ρ (Ag.refl _ _) t v h3
      have hy : ∀ s : Bool, den ρ v = .bool s → yielded ops.toArray a.tmps j = some s := by
        intro s hv
        simp only [yielded, List.getElem?_toArray, h1, Option.bind_some, hd]
        rw [hs, hv]
      have hw : ∀ s : Bool, den ρ v = .bool s → Region.wanted o (yielded ops.toArray a.tmps) = (s == want) := by
        intro s hv
        simp only [Region.wanted, hg, hy s hv]
        cases s <;> cases want <;> rfl
      split at h4
      · rename_i s
        split at h4
        · exact .inl ⟨hw true rfl, st, h4, ho⟩
        · exact .inl ⟨hw false rfl, st, h4, ho⟩
        · rename_i h5 h6
          refine .inr ⟨?_, st, h4, ho⟩
          rw [hw s rfl]
          cases s <;> cases want <;> simp_all
      · rename_i s
        have key : ∀ b : Bool, s = b → ∀ k, putK sz (some t) (.b b) st k → ∃ st', k st' ∧ OkAt B ρ F st' sz a w := by
          rintro b rfl k hk
          obtain ⟨st', h5, h6⟩ := putK_elim hk ho (fun _ _ => rfl)
          rw [Act.put_same (by rw [hs]; rfl)] at h6
          exact ⟨st', h5, h6⟩
        split at h4
        · cases hs' : s with
          | true => exact .inl ⟨by rw [hw s rfl, hs']; rfl, key true hs' _ (h4.1 hs')⟩
          | false => exact .inr ⟨by rw [hw s rfl, hs']; rfl, key false hs' _ (h4.2 hs')⟩
        · cases hs' : s with
          | true => exact .inr ⟨by rw [hw s rfl, hs']; rfl, key true hs' _ (h4.1 hs')⟩
          | false => exact .inl ⟨by rw [hw s rfl, hs']; rfl, key false hs' _ (h4.2 hs')⟩
      · refine .inr ⟨?_, st, h4, ho⟩
        have h5 : yielded ops.toArray a.tmps j = none := by
          simp only [yielded, List.getElem?_toArray, h1, Option.bind_some, hd]
          rw [hs]; rfl
        simp only [Region.wanted, hg, h5]
        cases want <;> rfl
      · exact h4.elim
def Lift (B : Bs) (sz : Nat) (K : Exit → SS → Prop) (e : Exit) (a : Act) (w : World) : Prop := ∃ st ρ F, K e st ∧ OkAt B ρ F st sz a w
theorem opsK_sound {P : Program} {tt : List (Option TI)} (ht : TOk P tt) {sz : Nat} {ops : List Oper} {K : Exit → SS → Prop} {B : Bs} : ∀ {l : List Oper} {st : SS}, opsK P tt sz ops l st (K .normal) → ∀ {ρ F a w}, OkAt B ρ F st sz a w →
    wpList P ops.toArray (Lift B sz K) l a w
  | [], st, h, ρ, F, a, w, ho => ⟨st, ρ, F, h, ho⟩
  | o :: r, st, h, ρ, F, a, w, ho => by
    unfold wpList
    rw [opsK_cons] at h
    rcases guardK_sound (P := P) h ho with ⟨hw, st', h1, h2⟩ | ⟨hw, st', h1, h2⟩
    · rw [if_pos hw]
      refine .inl (Oper.wp_mono (fun a' w' hx => ?_) (opK_sound (Q := Lift B sz K) ht h1 h2))
      obtain ⟨st', ρ', F', h3, h4⟩ := hx
      exact opsK_sound ht h3 h4
    · rw [if_neg (by rw [hw]; simp)]
      obtain ⟨st'', h3, h4⟩ := putK_elim h1 h2 (fun _ _ => rfl)
      exact opsK_sound ht h3 h4
end Go.Proofs.YtekgjjanikicnaaDoor.Sx

namespace Go.Proofs.YtekgjjanikicnaaDoor.Sx
open Go
set_option linter.unusedVariables false
set_option linter.unusedSimpArgs false

/-! ### Code -/
structure LoopVC (P : Program) (sz n0 : Nat) (body : Code) (st : SS) (K : Exit → SS → Prop) : Prop where
  out : ∀ (B : Bs) ρ F a w, B.n0 = n0 → OkAt B ρ F st sz a w → (Code.loop body).wp P (Lift B sz K) a w
structure DrawVC (P : Program) (sz n0 : Nat) (id : Nat) (ops : List Oper) (st : SS) (K : Exit → SS → Prop) : Prop where
  out : ∀ (B : Bs) ρ F a w, B.n0 = n0 → OkAt B ρ F st sz a w → (Code.region id ops.toArray true).wp P (Lift B sz K) a w
def knownK (sz : Nat) (c : Operand) (t : Bool) (st : SS) (k : SS → Prop) : Prop :=
  match c with
  | .tmp d => putK sz (some d) (.b t) st k
  | _ => k st
def codeK (P : Program) (tt : List (Option TI)) (sz n0 : Nat) (c : Code) : SS → (Exit → SS → Prop) → Prop :=
  Code.rec (motive := fun _ => SS → (Exit → SS → Prop) → Prop)
    (fun st K => K .normal st)
    (fun id ops draw st K => match ops with
      | ⟨ops⟩ => (match draw with
        | false => opsK P tt sz ops ops st (K .normal)
        | true => DrawVC P sz n0 id ops st K))
    (fun _ _ ia ib st K => ia st fun e st => match e with
      | .normal => ib st K
      | e => K e st)
    (fun c _ _ ia ib st K => evK st c fun v => match v with
      | .b true => ia st K
      | .b false => ib st K
      | .v (.bool t) => (t = true → knownK sz c true st fun st => ia st K) ∧ (t = false → knownK sz c false st fun st => ib st K)
      | _ => False)
    (fun id _ ia st K => ia st fun e st => match e with
      | .exit j => (match Nat.beq j id with | true => K .normal st | false => K (.exit j) st)
      | e => K e st)
    (fun body _ st K => LoopVC P sz n0 body st K)
    (fun _ _ _ _ _ _ _ _ => False)
    (fun id st K => K (.exit id) st)
    (fun _ _ _ _ => False)
    (fun _ _ _ => False)
    (fun _ _ _ => False)
    (fun st K => K .ret st)
    (fun _ _ _ => False) c
theorem Lift.imp {B : Bs} {sz : Nat} {K K' : Exit → SS → Prop} {e e' : Exit} {a : Act} {w : World} (h : Lift B sz K e a w) (hk : ∀ st, K e st → K' e' st) : Lift B sz K' e' a w := by
  obtain ⟨st, ρ, F, h1, h2⟩ := h; exact ⟨st, ρ, F, hk _ h1, h2⟩
theorem codeK_sound {P : Program} {tt : List (Option TI)} (ht : TOk P tt) {sz n0 : Nat} : ∀ {c : Code} {st : SS} {K : Exit → SS → Prop}, codeK P tt sz n0 c st K → ∀ {B : Bs} {ρ F a w}, B.n0 = n0 → OkAt B ρ F st sz a w → c.wp P (Lift B sz K) a w
  | .skip, st, K, h, B, ρ, F, a, w, hn, ho => wp_skip ⟨st, ρ, F, h, ho⟩
  | .region id ⟨ops⟩ draw, st, K, h, B, ρ, F, a, w, hn, ho => by
    cases draw with
    | false => exact wp_region_lit (l := ops) (opsK_sound ht (K := K) (show opsK P tt sz ops ops st (K .normal) from h) ho)
    | true => exact (show DrawVC P sz n0 id ops st K from h).out B ρ F a w hn ho
  | .seq x y, st, K, h, B, ρ, F, a, w, hn, ho => by
    refine wp_seq (wp_mono (codeK_sound ht (c := x) h hn ho) fun e a' w' hq => ?_)
    obtain ⟨st', ρ', F', h1, h2⟩ := hq
    cases e with
    | normal => exact codeK_sound ht (c := y) h1 hn h2
    | exit id => exact ⟨st', ρ', F', h1, h2⟩
    | goto l => exact ⟨st', ρ', F', h1, h2⟩
    | ret => exact ⟨st', ρ', F', h1, h2⟩
    | panic c => exact ⟨st', ρ', F', h1, h2⟩
    | outgrown => exact ⟨st', ρ', F', h1, h2⟩
  | .cond c x y, st, K, h, B, ρ, F, a, w, hn, ho => by
    obtain ⟨v, h1, h2⟩ := evK_elim h
    have hv := h2 ρ F a w (ho.toBase (Ag.refl _ _))
    have key : ∀ (t : Bool) (k : SS → Prop), den ρ v = .bool t → knownK sz c t st k → ∃ st', k st' ∧ OkAt B ρ F st' sz a w := by
      intro t k hd hk
      unfold knownK at hk
      split at hk
      · rename_i d
        obtain ⟨st', h5, h6⟩ := putK_elim hk ho (fun _ _ => rfl)
        rw [hd] at hv
        have hd' : a.tmps[d]? = some (.bool t) := by
          simp only [Act.eval, Array.getD_eq_getD_getElem?] at hv
          cases hg : a.tmps[d]? with
          | none => rw [hg] at hv; simp [undef] at hv
          | some z => rw [hg] at hv; simp at hv; rw [hv]
        rw [Act.put_same (by rw [hd']; rfl)] at h6
        exact ⟨st', h5, h6⟩
      · exact ⟨st, hk, ho⟩
    split at h1
    · exact wp_cond_true (by rw [hv]; rfl) (codeK_sound ht (c := x) h1 hn ho)
    · exact wp_cond_false (by rw [hv]; rfl) (codeK_sound ht (c := y) h1 hn ho)
    · rename_i t
      cases t with
      | true =>
        obtain ⟨st', h5, h6⟩ := key true _ rfl (h1.1 rfl)
        exact wp_cond_true (by rw [hv]; rfl) (codeK_sound ht (c := x) h5 hn h6)
      | false =>
        obtain ⟨st', h5, h6⟩ := key false _ rfl (h1.2 rfl)
        exact wp_cond_false (by rw [hv]; rfl) (codeK_sound ht (c := y) h5 hn h6)
    · exact h1.elim
  | .block id x, st, K, h, B, ρ, F, a, w, hn, ho => by
    refine wp_block (wp_mono (codeK_sound ht (c := x) h hn ho) fun e a' w' hq => ?_)
    obtain ⟨st', ρ', F', h1, h2⟩ := hq
    cases e with
    | exit j =>
      simp only at h1
      show if j = id then Lift B sz K Exit.normal a' w' else Lift B sz K (Exit.exit j) a' w'
      split at h1
      · rename_i hb
        rw [if_pos (Nat.eq_of_beq_eq_true hb)]
        exact ⟨st', ρ', F', h1, h2⟩
      · rename_i hb
        rw [if_neg (fun e : j = id => by rw [e] at hb; simp at hb)]
        exact ⟨st', ρ', F', h1, h2⟩
    | normal => exact ⟨st', ρ', F', h1, h2⟩
    | goto l => exact ⟨st', ρ', F', h1, h2⟩
    | ret => exact ⟨st', ρ', F', h1, h2⟩
    | panic c => exact ⟨st', ρ', F', h1, h2⟩
    | outgrown => exact ⟨st', ρ', F', h1, h2⟩
  | .loop body, st, K, h, B, ρ, F, a, w, hn, ho => (show LoopVC P sz n0 body st K from h).out B ρ F a w hn ho
  | .exit id, st, K, h, B, ρ, F, a, w, hn, ho => wp_exit ⟨st, ρ, F, h, ho⟩
  | .ret, st, K, h, B, ρ, F, a, w, hn, ho => wp_ret ⟨st, ρ, F, h, ho⟩
  | .rangeFunc .., st, K, h, B, ρ, F, a, w, hn, ho => (show False from h).elim
  | .scope _, st, K, h, B, ρ, F, a, w, hn, ho => (show False from h).elim
  | .label _, st, K, h, B, ρ, F, a, w, hn, ho => (show False from h).elim
  | .goto _, st, K, h, B, ρ, F, a, w, hn, ho => (show False from h).elim
  | .refuse _, st, K, h, B, ρ, F, a, w, hn, ho => (show False from h).elim

/-! ### One state within another -/
/-- Regions of the second state are those of the first, renamed. -/
def sg (σ : List Nat) (i : Nat) : Nat := σ.getD i 0
def AgS (n : Nat) (σ : List Nat) (ρ ρ'' : Nat → Nat) : Prop := ∀ i, i < n → ρ'' i = ρ (sg σ i)
def SEq (n : Nat) (σ : List Nat) (x y : SV) : Prop := ∀ ρ ρ'', AgS n σ ρ ρ'' → den ρ'' x = den ρ y
def OSub (n : Nat) (σ : List Nat) (o' o : SObj) : Prop := ∀ ρ ρ'', AgS n σ ρ ρ'' → ∀ w b F, ObjOk ρ o w b F → ObjOk ρ'' o' w b F
theorem SEq.v (n : Nat) (σ : List Nat) (x : Value) : SEq n σ (.v x) (.v x) := fun _ _ _ => rfl
theorem SEq.eq {n : Nat} {σ : List Nat} {x y : Value} (h : x = y) : SEq n σ (.v x) (.v y) := fun _ _ _ => h
theorem OSub.row {n : Nat} {σ : List Nat} {xs ys : List Value} {T : TypeId} (h : xs = ys) : OSub n σ (.row xs T) (.row ys T) := fun _ _ _ _ _ _ ho => by subst h; exact ho
theorem OSub.abs {n : Nat} {σ : List Nat} {A : AR} : OSub n σ (.abs A) (.abs A) := fun _ _ _ _ _ _ ho => ho
def slotsSub (n : Nat) (σ : List Nat) (sl : List (Nat × SV)) : List (Nat × SV) → Prop
  | [] => True
  | (t, x) :: r => getK t sl (fun y => SEq n σ x y) ∧ slotsSub n σ sl r
def heapSub (n : Nat) (σ : List Nat) (hp : List (Nat × SObj)) : List (Nat × SObj) → Prop
  | [] => True
  | (r, o') :: l => objK (sg σ r) hp (fun o => OSub n σ o' o) ∧ heapSub n σ hp l
/-- The names' list: within bounds, one to one, the first n0 as they are. -/
def namesOk (n0 nx nx' : Nat) (σ : List Nat) (keys : List Nat) : Bool :=
  Nat.ble n0 nx' && (List.range n0).all (fun i => Nat.beq (sg σ i) i) && keys.all (fun r => Nat.blt r nx' && Nat.blt (sg σ r) nx) && keys.all (fun r => keys.all fun r' => Nat.beq r r' || !Nat.beq (sg σ r) (sg σ r'))
def Sub (n0 : Nat) (σ : List Nat) (st st' : SS) : Prop :=
  namesOk n0 st.nx st'.nx σ (st'.hp.map (·.1)) = true ∧ slotsSub st'.nx σ st.sl st'.sl ∧ heapSub st'.nx σ st.hp st'.hp ∧ (∀ f, f ∈ st'.fx → f ∈ st.fx)
theorem slotsSub_mem {n : Nat} {σ : List Nat} {sl : List (Nat × SV)} : ∀ {l : List (Nat × SV)}, slotsSub n σ sl l → ∀ t x, (t, x) ∈ l → ∃ y, (t, y) ∈ sl ∧ SEq n σ x y
  | [], _, t, x, hm => by cases hm
  | (t', x') :: r, h, t, x, hm => by
    rcases List.mem_cons.1 hm with e | hm
    · cases e; exact getK_elim h.1
    · exact slotsSub_mem h.2 t x hm
theorem heapSub_mem {n : Nat} {σ : List Nat} {hp : List (Nat × SObj)} : ∀ {l : List (Nat × SObj)}, heapSub n σ hp l → ∀ r o', (r, o') ∈ l → ∃ o, (sg σ r, o) ∈ hp ∧ OSub n σ o' o
  | [], _, r, o', hm => by cases hm
  | (r', o'') :: l, h, r, o', hm => by
    rcases List.mem_cons.1 hm with e | hm
    · cases e; exact objK_elim h.1
    · exact heapSub_mem h.2 r o' hm
theorem namesOk_spec {n0 nx nx' : Nat} {σ keys : List Nat} (h : namesOk n0 nx nx' σ keys = true) : n0 ≤ nx' ∧ (∀ i, i < n0 → sg σ i = i) ∧ (∀ r ∈ keys, r < nx' ∧ sg σ r < nx) ∧ (∀ r ∈ keys, ∀ r' ∈ keys, r ≠ r' → sg σ r ≠ sg σ r') := by
  simp only [namesOk, Bool.and_eq_true, List.all_eq_true, List.mem_range, Bool.or_eq_true, Bool.not_eq_true', Nat.beq_eq, Nat.blt_eq] at h
  obtain ⟨⟨⟨h1, h2⟩, h3⟩, h4⟩ := h
  refine ⟨Nat.le_of_ble_eq_true h1, h2, h3, fun r hr r' hr' hne he => ?_⟩
  rcases h4 r hr r' hr' with h5 | h5
  · exact hne h5
  · rw [he] at h5; simp at h5
theorem Sub.ok {n0 : Nat} {σ : List Nat} {st st' : SS} (h : Sub n0 σ st st') {B : Bs} {ρ F sz a w} (hn : B.n0 = n0) (ho : OkAt B ρ F st sz a w) : ∃ ρ' F', OkAt B ρ' F' st' sz a w := by
  obtain ⟨h1, h2, h3, h4⟩ := h
  obtain ⟨k1, k2, k3, k4⟩ := namesOk_spec h1
  have mk : ∀ r o, (r, o) ∈ st'.hp → r ∈ st'.hp.map (·.1) := fun r o hm => List.mem_map.2 ⟨_, hm, rfl⟩
  have ownS : ∀ k, Own st'.hp (fun r => F (sg σ r)) k → Own st.hp F k := by
    rintro k ⟨r, o', hm, hF⟩
    obtain ⟨o, h5, _⟩ := heapSub_mem h3 r o' hm
    exact ⟨_, o, h5, hF⟩
  refine ⟨fun r => ρ (sg σ r), fun r => F (sg σ r), ?_, ⟨?_, ?_, ?_, ?_, ?_⟩, ho.size, ?_, by omega, ho.keeps, fun k hk => ho.own k (ownS k hk), fun f hf => ho.facts f (h4 f hf), ho.defers⟩
  · intro ρ'' hr t x hm
    obtain ⟨y, h5, h6⟩ := slotsSub_mem h2 t x hm
    rw [ho.slot ρ (Ag.refl _ _) t y h5, h6 ρ ρ'' (fun i hi => hr i hi)]
  · intro ρ'' hr r o' hm
    obtain ⟨o, h5, h6⟩ := heapSub_mem h3 r o' hm
    have := h6 ρ ρ'' (fun i hi => hr i hi) w (ρ (sg σ r)) (F (sg σ r)) (ho.heap.obj ρ (Ag.refl _ _) _ _ h5)
    rw [hr r (k3 r (mk r o' hm)).1]
    exact this
  · exact fun r o' hm => (k3 r (mk r o' hm)).1
  · intro r o1 r' o2 hm hm' hne
    obtain ⟨o, h5, _⟩ := heapSub_mem h3 r o1 hm
    obtain ⟨o', h5', _⟩ := heapSub_mem h3 r' o2 hm'
    exact ho.heap.shape.dis _ o _ o' h5 h5' (k4 r (mk r o1 hm) r' (mk r' o2 hm') hne)
  · intro r o' hm
    obtain ⟨o, h5, _⟩ := heapSub_mem h3 r o' hm
    exact ho.heap.shape.bnd _ o h5
  · intro f hf
    have := ho.heap.shape.fact f (h4 f hf)
    exact ⟨this.1, fun k hk => ⟨fun hu => (this.2 k hk).1 (ownS k hu), (this.2 k hk).2⟩⟩
  · intro r hr
    show ρ (sg σ r) = _
    rw [k2 r (by omega)]; exact ho.base r hr
/-- A loop by an invariant over whatever goes with it, and a number that falls. -/
theorem loop_rule {P : Program} {tt : List (Option TI)} (ht : TOk P tt) {sz n0 : Nat} {body : Code} {st : SS} {K : Exit → SS → Prop} {α : Type} (Inv : α → SS) (μ : α → Nat) (x0 : α) (σ : List Nat) (h0 : Sub n0 σ st (Inv x0))
    (hb : ∀ x, codeK P tt sz n0 body (Inv x) fun e st => match e with | .normal => ∃ x' σ, μ x' < μ x ∧ Sub n0 σ st (Inv x') | e => K e st) : LoopVC P sz n0 body st K := by
  refine ⟨fun B ρ F a w hn ho => ?_⟩
  obtain ⟨ρ1, F1, ho1⟩ := h0.ok hn ho
  refine wp_loop_ghost (fun n a w => ∃ x ρ F, μ x = n ∧ OkAt B ρ F (Inv x) sz a w) (μ x0) ⟨x0, ρ1, F1, rfl, ho1⟩ ?_
  rintro n a w ⟨x, ρ, F, rfl, ho⟩
  refine wp_mono (codeK_sound ht (hb x) hn ho) fun e a' w' hq => ?_
  obtain ⟨st', ρ', F', h1, h2⟩ := hq
  cases e with
  | normal =>
    obtain ⟨x', σ', h3, h4⟩ := h1
    obtain ⟨ρ2, F2, h5⟩ := h4.ok hn h2
    exact ⟨μ x', h3, x', ρ2, F2, rfl, h5⟩
  | exit id => exact ⟨st', ρ', F', h1, h2⟩
  | goto l => exact ⟨st', ρ', F', h1, h2⟩
  | ret => exact ⟨st', ρ', F', h1, h2⟩
  | panic c => exact ⟨st', ρ', F', h1, h2⟩
  | outgrown => exact ⟨st', ρ', F', h1, h2⟩

/-! ### A function -/
def resOneK (tt : List (Option TI)) (st : SS) (r : ResultVar) (k : SV → Prop) : Prop :=
  match r with
  | .tmp t => getK t st.sl k
  | .cell a T => getK a st.sl fun p => loadK tt st T p k
def resLK (tt : List (Option TI)) (st : SS) : List ResultVar → (List SV → Prop) → Prop
  | [], k => k []
  | r :: l, k => resOneK tt st r fun y => resLK tt st l fun ys => k (y :: ys)
def resK (tt : List (Option TI)) (st : SS) (rs : List ResultVar) (k : SV → Prop) : Prop :=
  resLK tt st rs fun ys => match ys with
    | [y] => k y
    | ys => k (.tup ys)
def resSem (tmps : Array Value) : ResultVar → Sem Value
  | .tmp t => pure (tmps.getD t undef)
  | .cell c t => do loadVar t (← asAddr (tmps.getD c undef))
theorem resOneK_elim {P : Program} {tt : List (Option TI)} (ht : TOk P tt) {st : SS} {r : ResultVar} {k : SV → Prop} (h : resOneK tt st r k) :
    ∃ y, k y ∧ ∀ ρ F a w, Base ρ F st a w → FOk st.fx w → (resSem a.tmps r).run P w = .ok (den ρ y) w := by
  unfold resOneK at h
  split at h
  · obtain ⟨y, h1, h2⟩ := getK_elim h
    exact ⟨y, h2, fun ρ F a w hb hs => by simp [resSem, hb.slot _ _ h1]⟩
  · obtain ⟨p, h1, h2⟩ := getK_elim h
    obtain ⟨y, h3, h4⟩ := loadK_elim (P := P) ht h2
    refine ⟨y, h3, fun ρ F a w hb hs => ?_⟩
    have h5 := h4 ρ F a w hb hs
    simp only [resSem, Sem.run_bind, Array.getD_eq_getD_getElem?, hb.slot _ _ h1, Option.getD_some]
    simp only [Instr.loadAt, Sem.run_bind] at h5
    have e : (Instr.sureAddr (den ρ p)).run P w = (asAddr (den ρ p)).run P w ∨ ∃ s, (Instr.sureAddr (den ρ p)).run P w = .halt s w := by
      cases den ρ p with
      | pointer ad => cases ad with
        | none => exact .inr ⟨_, rfl⟩
        | some ad => exact .inl rfl
      | _ => exact .inr ⟨_, rfl⟩
    rcases e with e | ⟨s, e⟩
    · rw [← e]; exact h5
    · rw [e] at h5; simp at h5
theorem resLK_elim {P : Program} {tt : List (Option TI)} (ht : TOk P tt) {st : SS} : ∀ {rs : List ResultVar} {k : List SV → Prop}, resLK tt st rs k →
    ∃ ys, k ys ∧ ∀ ρ F a w, Base ρ F st a w → FOk st.fx w → (rs.mapM (resSem a.tmps)).run P w = .ok (denL ρ ys) w
  | [], k, h => ⟨[], h, fun ρ F a w hb hs => rfl⟩
  | r :: l, k, h => by
    obtain ⟨y, h1, h2⟩ := resOneK_elim (P := P) ht h
    obtain ⟨ys, h3, h4⟩ := resLK_elim ht h1
    refine ⟨y :: ys, h3, fun ρ F a w hb hs => ?_⟩
    simp only [List.mapM_cons, Sem.run_bind, h2 ρ F a w hb hs, Result.andThen_ok, h4 ρ F a w hb hs, Sem.run_pure, denL_cons]
theorem resK_elim {P : Program} {tt : List (Option TI)} (ht : TOk P tt) {st : SS} {fn : Func} {k : SV → Prop} (h : resK tt st fn.results.toList k) :
    ∃ y, k y ∧ ∀ ρ F a w, Base ρ F st a w → FOk st.fx w → (results fn a.tmps).run P w = .ok (den ρ y) w := by
  obtain ⟨ys, h1, h2⟩ := resLK_elim (P := P) ht h
  have hm : ∀ ρ F a w, Base ρ F st a w → FOk st.fx w → (fn.results.mapM (resSem a.tmps)).run P w = .ok (denL ρ ys).toArray w := by
    intro ρ F a w hb hs
    rw [← Array.toArray_toList (xs := fn.results), List.mapM_toArray]
    simp only [Sem.run_map, h2 ρ F a w hb hs, Result.andThen_ok]
  split at h1
  · rename_i y
    refine ⟨y, h1, fun ρ F a w hb hs => ?_⟩
    unfold results
    simp only [Sem.run_bind]
    erw [hm ρ F a w hb hs]
    simp
  · rename_i hne
    refine ⟨_, h1, fun ρ F a w hb hs => ?_⟩
    unfold results
    simp only [Sem.run_bind]
    erw [hm ρ F a w hb hs]
    have hl : ys.length ≠ 1 := fun hl => by
      obtain ⟨y, hy⟩ := List.length_eq_one_iff.1 hl
      exact hne y hy
    simp [hl, den]
def numb : Nat → List SV → List (Nat × SV)
  | _, [] => []
  | n, x :: r => (n, x) :: numb (n + 1) r
theorem numb_mem : ∀ {l : List SV} {n t : Nat} {x : SV}, (t, x) ∈ numb n l → n ≤ t ∧ l[t - n]? = some x
  | [], n, t, x, h => by cases h
  | y :: r, n, t, x, h => by
    rcases List.mem_cons.1 h with e | h
    · cases e; exact ⟨Nat.le_refl _, by simp⟩
    · obtain ⟨h1, h2⟩ := numb_mem h
      refine ⟨by omega, ?_⟩
      have e : t - n = (t - (n + 1)) + 1 := by omega
      rw [e]; simpa using h2
def finK (tt : List (Option TI)) (st : SS) (rs : List ResultVar) (post : SV → List (Nat × SObj) → Nat → List Fact → Prop) : Prop :=
  match st with
  | ⟨sl, hp, nx, fx⟩ => resK tt ⟨sl, hp, nx, fx⟩ rs fun y => post y hp nx fx
theorem Tri.of_code {P : Program} {tt : List (Option TI)} (ht : TOk P tt) {n : Nat} {fn : Func} {c : Code} {sz : Nat} {sl : List (Nat × SV)} {rs : List ResultVar} (hf : P.funcs[n]? = some fn) (hb : fn.body = some c) (hsz : fn.ntmps = sz) (hrs : fn.results.toList = rs)
    (hname : (fn.name == "runtime.NumGoroutine") = false) {args : List SV} (hsl : numb 0 args = sl) (hle : args.length ≤ sz) {hp : List (Nat × SObj)} {m : Nat} {fx : List Fact} {post : SV → List (Nat × SObj) → Nat → List Fact → Prop}
    (h : codeK P tt sz m c ⟨sl, hp, m, fx⟩ fun e st => match e with
      | .normal => finK tt st rs post
      | .ret => finK tt st rs post
      | _ => False) : Tri P n args hp m fx post := by
  subst hsl hsz hrs
  refine ⟨trivial, fun ρ F w hh hr => .inl ⟨?_, ?_⟩⟩
  · have hn : fn.name ≠ "runtime.NumGoroutine" := fun e => by rw [e] at hname; simp at hname
    simp [callFunc, hf, hn, hb]
  · refine calls_of_wp hf hb ?_
    have ho : OkAt ⟨m, ρ, w, Own hp F, fx⟩ ρ F ⟨numb 0 args, hp, m, fx⟩ fn.ntmps { tmps := (denL ρ args).toArray ++ Array.replicate (fn.ntmps - (denL ρ args).toArray.size) undef, defers := [] } w := by
      refine ⟨fun ρ' hr' t x hm => ?_, hh, ?_, Ag.refl _ _, Nat.le_refl _, Keeps.refl _ _, fun k hk => .inl hk, fun f hf => .inl hf, rfl⟩
      · obtain ⟨_, h1⟩ := numb_mem hm
        simp only [Nat.sub_zero] at h1
        have h2 := hr ρ' hr'
        have h3 : (denL ρ args)[t]? = some (den ρ' x) := by rw [← h2, denL_get, h1]; rfl
        have h4 := List.getElem?_eq_some_iff.1 h3
        obtain ⟨h5, _⟩ := h4
        rw [Array.getElem?_append_left (by simpa using h5)]
        simpa using h3
      · simp; omega
    refine wp_mono (codeK_sound ht h rfl ho) fun e a' w' hq => ?_
    obtain ⟨st, ρ', F', h1, h2⟩ := hq
    have fin : finK tt st fn.results.toList post → a'.defers = [] ∧ ∃ v, (results fn a'.tmps).run P w' = .ok v w' ∧ ∃ y hp' m' fx' ρ' F', post y hp' m' fx' ∧ Ending.returned v = .returned (den ρ' y) ∧
      (∀ ρ'', Ag m' ρ' ρ'' → den ρ'' y = den ρ' y) ∧ HpOk ρ' F' hp' m' fx' w' ∧ Ag m ρ ρ' ∧ m ≤ m' ∧ Keeps (Own hp F) w w' ∧ (∀ k, Own hp' F' k → Own hp F k ∨ w.heap.size ≤ k) ∧ (∀ f, f ∈ fx' → f ∈ fx ∨ ∀ k, f.G k → Own hp F k ∨ w.heap.size ≤ k) := by
      intro hres
      obtain ⟨y, h3, h4⟩ := resK_elim (P := P) ht hres
      have h5 := h4 ρ' F' a' w' (h2.toBase (Ag.refl _ _)) h2.heap.shape.fok
      refine ⟨h2.defers, _, h5, y, _, _, _, ρ', F', h3, rfl, fun ρ'' hr'' => ?_, h2.heap, h2.base, h2.n0, h2.keeps, h2.own, h2.facts⟩
      have h6 := h4 ρ'' F' a' w' (h2.toBase hr'') h2.heap.shape.fok
      rw [h5] at h6
      simpa using h6.symm
    cases e with
    | normal => exact fin h1
    | ret => exact fin h1
    | exit id => exact (show False from h1).elim
    | goto l => exact (show False from h1).elim
    | panic c => exact (show False from h1).elim
    | outgrown => exact (show False from h1).elim
end Go.Proofs.YtekgjjanikicnaaDoor.Sx

namespace Go.Proofs.YtekgjjanikicnaaDoor.Sx
open Go
set_option linter.unusedVariables false
set_option linter.unusedSimpArgs false

mutual
def ren (s : Nat → Nat) : SV → SV
  | .v x => .v x
  | .b t => .b t
  | .k kd n => .k kd n
  | .p r o => .p (s r) o
  | .q r o => .q (s r) o
  | .s r o len cap => .s (s r) o len cap
  | .m r => .m (s r)
  | .agg cs => .agg (renL s cs)
  | .tup cs => .tup (renL s cs)
  | .fn f a c => .fn f (renL s a) (renL s c)
def renL (s : Nat → Nat) : List SV → List SV
  | [] => []
  | x :: r => ren s x :: renL s r
end
mutual
theorem den_ren (s ρ : Nat → Nat) : ∀ x, den ρ (ren s x) = den (fun i => ρ (s i)) x
  | .v x => rfl
  | .b t => rfl
  | .k kd n => rfl
  | .p r o => rfl
  | .q r o => rfl
  | .s r o len cap => rfl
  | .m r => rfl
  | .agg cs => by simp only [ren, den, denL_ren s ρ cs]
  | .tup cs => by simp only [ren, den, denL_ren s ρ cs]
  | .fn f a c => by simp only [ren, den, denL_ren s ρ a, denL_ren s ρ c]
theorem denL_ren (s ρ : Nat → Nat) : ∀ l, denL ρ (renL s l) = denL (fun i => ρ (s i)) l
  | [] => rfl
  | x :: r => by simp only [renL, denL_cons, den_ren s ρ x, denL_ren s ρ r]
end
def renO (s : Nat → Nat) : SObj → SObj
  | .cells cs T => .cells (renL s cs) T
  | .row xs T => .row xs T
  | .map es clk => .map es clk
  | .iter mr since seen stepped => .iter (s mr) since seen stepped
  | .abs A => .abs A
theorem objOk_ren (s ρ : Nat → Nat) (o : SObj) (w : World) (b : Nat) (F : Nat → Prop) : ObjOk ρ (renO s o) w b F ↔ ObjOk (fun i => ρ (s i)) o w b F := by
  cases o <;> simp only [renO, ObjOk, denL_ren]
def renH (s : Nat → Nat) : List (Nat × SObj) → List (Nat × SObj)
  | [] => []
  | (r, o) :: l => (s r, renO s o) :: renH s l
theorem renH_mem {s : Nat → Nat} : ∀ {h : List (Nat × SObj)} {r o}, (r, o) ∈ renH s h → ∃ i x, (i, x) ∈ h ∧ r = s i ∧ o = renO s x
  | [], r, o, h => by cases h
  | (i, x) :: l, r, o, h => by
    rcases List.mem_cons.1 h with e | h
    · cases e; exact ⟨i, x, List.mem_cons_self .., rfl, rfl⟩
    · obtain ⟨j, y, h1, h2, h3⟩ := renH_mem h
      exact ⟨j, y, List.mem_cons_of_mem _ h1, h2, h3⟩
/-- The regions that a contract does not name. -/
def restH (keys : List Nat) : List (Nat × SObj) → List (Nat × SObj)
  | [] => []
  | (r, o) :: l => match keys.any (Nat.beq r) with
    | true => restH keys l
    | false => (r, o) :: restH keys l
theorem restH_mem {keys : List Nat} : ∀ {h : List (Nat × SObj)} {r o}, (r, o) ∈ restH keys h → (r, o) ∈ h ∧ r ∉ keys
  | [], r, o, h => by cases h
  | (i, x) :: l, r, o, h => by
    unfold restH at h
    split at h
    · have := restH_mem h; exact ⟨List.mem_cons_of_mem _ this.1, this.2⟩
    · rename_i hk
      rcases List.mem_cons.1 h with e | h
      · cases e
        refine ⟨List.mem_cons_self .., fun hm => ?_⟩
        simp only [List.any_eq_false] at hk
        exact hk _ hm (by simp)
      · have := restH_mem h; exact ⟨List.mem_cons_of_mem _ this.1, this.2⟩
/-- The renaming: the contract's first m regions are the caller's by σ, those that it makes come behind the caller's. -/
def sh (m nx : Nat) (σ : List Nat) (i : Nat) : Nat := if i < m then sg σ i else nx + (i - m)
/-- σ has a name below nx for each of m, one to one; each of m is a region of the contract. -/
def callOk (m nx : Nat) (σ keys : List Nat) : Bool :=
  (List.range m).all (fun i => Nat.blt (sg σ i) nx) && keys.all (fun r => Nat.blt r m) && (List.range m).all (fun i => keys.any (Nat.beq i)) && (List.range m).all fun r => (List.range m).all fun r' => Nat.beq r r' || !Nat.beq (sg σ r) (sg σ r')
theorem callOk_spec {m nx : Nat} {σ keys : List Nat} (h : callOk m nx σ keys = true) : (∀ i, i < m → sg σ i < nx) ∧ (∀ r ∈ keys, r < m) ∧ (∀ i, i < m → i ∈ keys) ∧ (∀ r, r < m → ∀ r', r' < m → sg σ r = sg σ r' → r = r') := by
  simp only [callOk, Bool.and_eq_true, List.all_eq_true, List.mem_range, Bool.or_eq_true, Bool.not_eq_true', Nat.beq_eq, Nat.blt_eq, List.any_eq_true] at h
  obtain ⟨⟨⟨h1, h2⟩, h3⟩, h4⟩ := h
  refine ⟨h1, h2, fun i hi => ?_, fun r hr r' hr' he => ?_⟩
  · obtain ⟨x, h5, h6⟩ := h3 i hi
    rw [h6]; exact h5
  · rcases h4 r hr r' hr' with h5 | h5
    · exact h5
    · rw [he] at h5; simp at h5
/-- A contract, where there are more regions around, named otherwise. -/
theorem Tri.frame {P : Program} {n : Nat} {args : List SV} {hp : List (Nat × SObj)} {m : Nat} {fx : List Fact} {post : SV → List (Nat × SObj) → Nat → List Fact → Prop} (T : Tri P n args hp m fx post) (σ : List Nat)
    {args' : List SV} {H : List (Nat × SObj)} {nx : Nat} {FX : List Fact} {post' : SV → List (Nat × SObj) → Nat → List Fact → Prop} (hok : callOk m nx σ (hp.map (·.1)) = true)
    (hargs : ∀ ρ ρ'', AgS m σ ρ ρ'' → denL ρ'' args = denL ρ args') (hobj : heapSub m σ H hp) (hfx : ∀ f, f ∈ fx → f ∈ FX)
    (hpost : ∀ y h m1 f1, m ≤ m1 → post y h m1 f1 → post' (ren (sh m nx σ) y) (renH (sh m nx σ) h ++ restH (hp.map fun e => sg σ e.1) H) (nx + (m1 - m)) (f1 ++ FX)) : Tri P n args' H nx FX post' := by
  obtain ⟨k1, k2, k2', k3⟩ := callOk_spec hok
  have mk : ∀ r o, (r, o) ∈ hp → r ∈ hp.map (·.1) := fun r o hm => List.mem_map.2 ⟨_, hm, rfl⟩
  refine ⟨T.enter, fun ρ F w hh hr => ?_⟩
  have ag0 : AgS m σ ρ (fun i => ρ (sg σ i)) := fun _ _ => rfl
  have ownS : ∀ k, Own hp (fun r => F (sg σ r)) k → Own H F k := by
    rintro k ⟨r, o', hm, hF⟩
    obtain ⟨o, h5, _⟩ := heapSub_mem hobj r o' hm
    exact ⟨_, o, h5, hF⟩
  have hsm : HpOk (fun i => ρ (sg σ i)) (fun i => F (sg σ i)) hp m fx w := by
    refine ⟨fun ρ'' hr'' r o' hm => ?_, ⟨fun r o' hm => k2 r (mk r o' hm), ?_, ?_, ?_⟩⟩
    · obtain ⟨o, h5, h6⟩ := heapSub_mem hobj r o' hm
      have := h6 ρ ρ'' (fun i hi => hr'' i hi) w (ρ (sg σ r)) (F (sg σ r)) (hh.obj ρ (Ag.refl _ _) _ _ h5)
      rw [hr'' r (k2 r (mk r o' hm))]
      exact this
    · intro r o1 r' o2 hm hm' hne
      obtain ⟨o, h5, _⟩ := heapSub_mem hobj r o1 hm
      obtain ⟨o', h5', _⟩ := heapSub_mem hobj r' o2 hm'
      exact hh.shape.dis _ o _ o' h5 h5' (fun he => hne (k3 r (k2 r (mk r o1 hm)) r' (k2 r' (mk r' o2 hm')) he))
    · intro r o' hm
      obtain ⟨o, h5, _⟩ := heapSub_mem hobj r o' hm
      exact hh.shape.bnd _ o h5
    · intro f hf
      have := hh.shape.fact f (hfx f hf)
      exact ⟨this.1, fun k hk => ⟨fun hu => (this.2 k hk).1 (ownS k hu), (this.2 k hk).2⟩⟩
  have hrob : ∀ ρ'', Ag m (fun i => ρ (sg σ i)) ρ'' → denL ρ'' args = denL (fun i => ρ (sg σ i)) args := by
    intro ρ'' hr''
    rw [hargs ρ ρ'' (fun i hi => hr'' i hi), hargs ρ _ ag0]
  have hcall := T.run _ _ w hsm hrob
  rw [hargs ρ _ ag0] at hcall
  refine hcall.mono fun e w' hq => ?_
  obtain ⟨y, h, m1, f1, ρ1, F1, hp1, rfl, hy, hh1, hag, hm1, hkeep, hown, hfacts⟩ := hq
  have hR := hpost y h m1 f1 hm1 hp1
  -- the names behind the call
  let ρ2 : Nat → Nat := fun j => if j < nx then ρ j else ρ1 (m + (j - nx))
  have hρ2 : ∀ j, j < nx → ρ2 j = ρ j := fun j hj => if_pos hj
  have s_lt : ∀ i, i < m1 → sh m nx σ i < nx + (m1 - m) := by
    intro i hi
    unfold sh
    by_cases hlt : i < m
    · rw [if_pos hlt]; have := k1 i hlt; omega
    · rw [if_neg hlt]; omega
  have e2 : ∀ i, i < m1 → ρ2 (sh m nx σ i) = ρ1 i := by
    intro i hi
    simp only [ρ2, sh]
    by_cases hlt : i < m
    · rw [if_pos hlt, if_pos (k1 i hlt), hag i hlt]
    · rw [if_neg hlt, if_neg (by omega)]
      congr 1; omega
  have s_inj : ∀ i, i < m1 → ∀ j, j < m1 → sh m nx σ i = sh m nx σ j → i = j := by
    intro i hi j hj he
    simp only [sh] at he
    by_cases h1 : i < m <;> by_cases h2 : j < m
    · rw [if_pos h1, if_pos h2] at he; exact k3 i h1 j h2 he
    · rw [if_pos h1, if_neg h2] at he; have := k1 i h1; omega
    · rw [if_neg h1, if_pos h2] at he; have := k1 j h2; omega
    · rw [if_neg h1, if_neg h2] at he; omega
  have hF : ∃ F2 : Nat → Nat → Prop, (∀ i, i < m1 → F2 (sh m nx σ i) = F1 i) ∧ ∀ j, j < nx → (∀ i, i < m → sg σ i ≠ j) → F2 j = F j := by
    refine ⟨fun j => if hj : ∃ i, i < m1 ∧ sh m nx σ i = j then F1 (Classical.choose hj) else F j, fun i hi => ?_, fun j hj hne => ?_⟩
    · have hx : ∃ i', i' < m1 ∧ sh m nx σ i' = sh m nx σ i := ⟨i, hi, rfl⟩
      simp only [dif_pos hx]
      have hc := Classical.choose_spec hx
      rw [s_inj _ hc.1 _ hi hc.2]
    · have hx : ¬ ∃ i, i < m1 ∧ sh m nx σ i = j := by
        rintro ⟨i, h1, h2⟩
        simp only [sh] at h2
        by_cases hlt : i < m
        · rw [if_pos hlt] at h2; exact hne i hlt h2
        · rw [if_neg hlt] at h2; omega
      simp only [dif_neg hx]
  obtain ⟨F2, hF1, hF2⟩ := hF
  have keyσ : ∀ r, r ∉ (hp.map fun e => sg σ e.1) → ∀ i, i < m → sg σ i ≠ r := by
    intro r hr i hi he
    refine hr (List.mem_map.2 ?_)
    obtain ⟨e, h1, h2⟩ := List.mem_map.1 (k2' i hi)
    exact ⟨e, h1, by rw [h2]; exact he⟩
  -- what is owned behind the call
  have own1 : ∀ k, Own (renH (sh m nx σ) h) F2 k → Own h F1 k := by
    rintro k ⟨r, o, hm, hk⟩
    obtain ⟨i, x, h1, rfl, rfl⟩ := renH_mem hm
    rw [hF1 i (hh1.shape.lt i x h1)] at hk
    exact ⟨i, x, h1, hk⟩
  have own2 : ∀ k, Own (restH (hp.map fun e => sg σ e.1) H) F2 k → ∃ r o, (r, o) ∈ H ∧ (∀ i, i < m → sg σ i ≠ r) ∧ F r k := by
    rintro k ⟨r, o, hm, hk⟩
    obtain ⟨h1, h2⟩ := restH_mem hm
    have h3 := keyσ r h2
    rw [hF2 r (hh.shape.lt r o h1) h3] at hk
    exact ⟨r, o, h1, h3, hk⟩
  have rest_not : ∀ r o, (r, o) ∈ H → (∀ i, i < m → sg σ i ≠ r) → ∀ k, F r k → ¬ Own hp (fun i => F (sg σ i)) k := by
    rintro r o hm hne k hk ⟨i, x, hi, hFi⟩
    obtain ⟨o', h5, _⟩ := heapSub_mem hobj i x hi
    exact hh.shape.dis _ o' r o h5 hm (hne i (k2 i (mk i x hi))) k hFi hk
  have rest_not1 : ∀ r o, (r, o) ∈ H → (∀ i, i < m → sg σ i ≠ r) → ∀ k, F r k → ¬ Own h F1 k := by
    intro r o hm hne k hk ho
    rcases hown k ho with h1 | h1
    · exact rest_not r o hm hne k hk h1
    · have := hh.shape.bnd r o hm k hk; omega
  have own3 : ∀ k, Own (renH (sh m nx σ) h ++ restH (hp.map fun e => sg σ e.1) H) F2 k → Own H F k ∨ w.heap.size ≤ k := by
    rintro k ⟨r, o, hm, hk⟩
    rcases List.mem_append.1 hm with hm | hm
    · rcases hown k (own1 k ⟨r, o, hm, hk⟩) with h1 | h1
      · exact .inl (ownS k h1)
      · exact .inr h1
    · obtain ⟨r', o', h1, _, h2⟩ := own2 k ⟨r, o, hm, hk⟩
      exact .inl ⟨r', o', h1, h2⟩
  have hkeep' : Keeps (Own H F) w w' := hkeep.mono ownS
  have ag2 : Ag nx ρ ρ2 := fun j hj => hρ2 j hj
  have hHp : HpOk ρ2 F2 (renH (sh m nx σ) h ++ restH (hp.map fun e => sg σ e.1) H) (nx + (m1 - m)) (f1 ++ FX) w' := by
    refine ⟨fun ρ'' hr'' r o hm => ?_, fun r o hm => ?_, fun r o r' o' hm hm' hne k hk hk' => ?_, fun r o hm k hk => ?_, fun f hf => ?_⟩
    · rcases List.mem_append.1 hm with hm | hm
      · obtain ⟨i, x, h1, rfl, rfl⟩ := renH_mem hm
        have hi := hh1.shape.lt i x h1
        rw [objOk_ren, hF1 i hi]
        refine hh1.obj (fun i => ρ'' (sh m nx σ i)) (fun j hj => ?_) i x h1
        show ρ'' (sh m nx σ j) = ρ1 j
        rw [hr'' _ (s_lt j hj), e2 j hj]
      · obtain ⟨h1, h2⟩ := restH_mem hm
        have h3 := keyσ r h2
        have hlt := hh.shape.lt r o h1
        rw [hF2 r hlt h3]
        refine (hh.obj ρ'' (fun j hj => by rw [hr'' j (by omega), hρ2 j hj]) r o h1).loc fun k hk => ?_
        exact hkeep.block k (hh.shape.bnd r o h1 k hk) (rest_not r o h1 h3 k hk)
    · rcases List.mem_append.1 hm with hm | hm
      · obtain ⟨i, x, h1, rfl, rfl⟩ := renH_mem hm
        exact s_lt i (hh1.shape.lt i x h1)
      · obtain ⟨h1, h2⟩ := restH_mem hm
        have := hh.shape.lt r o h1; omega
    · rcases List.mem_append.1 hm with hm | hm <;> rcases List.mem_append.1 hm' with hm' | hm'
      · obtain ⟨i, x, h1, rfl, rfl⟩ := renH_mem hm
        obtain ⟨j, y', h2, rfl, rfl⟩ := renH_mem hm'
        rw [hF1 i (hh1.shape.lt i x h1)] at hk
        rw [hF1 j (hh1.shape.lt j y' h2)] at hk'
        exact hh1.shape.dis i x j y' h1 h2 (fun e => hne (by rw [e])) k hk hk'
      · obtain ⟨r2, o2, h1, h2, h3⟩ := own2 k ⟨r', o', hm', hk'⟩
        exact rest_not1 r2 o2 h1 h2 k h3 (own1 k ⟨r, o, hm, hk⟩)
      · obtain ⟨r2, o2, h1, h2, h3⟩ := own2 k ⟨r, o, hm, hk⟩
        exact rest_not1 r2 o2 h1 h2 k h3 (own1 k ⟨r', o', hm', hk'⟩)
      · obtain ⟨h1, h2⟩ := restH_mem hm
        obtain ⟨h1', h2'⟩ := restH_mem hm'
        rw [hF2 r (hh.shape.lt r o h1) (keyσ r h2)] at hk
        rw [hF2 r' (hh.shape.lt r' o' h1') (keyσ r' h2')] at hk'
        exact hh.shape.dis r o r' o' h1 h1' hne k hk hk'
    · rcases List.mem_append.1 hm with hm | hm
      · obtain ⟨i, x, h1, h2⟩ := own1 k ⟨r, o, hm, hk⟩
        exact hh1.shape.bnd i x h1 k h2
      · obtain ⟨r', o', h1, _, h2⟩ := own2 k ⟨r, o, hm, hk⟩
        have := hh.shape.bnd r' o' h1 k h2
        have := hkeep.size
        omega
    · have big : f ∈ FX → f.Holds w' (Own (renH (sh m nx σ) h ++ restH (hp.map fun e => sg σ e.1) H) F2) := fun hf => f.mono (hh.shape.fact f hf) hkeep' own3
      rcases List.mem_append.1 hf with hf | hf
      · rcases hfacts f hf with h1 | h1
        · exact big (hfx f h1)
        · have h2 := hh1.shape.fact f hf
          refine ⟨h2.1, fun k hG => ⟨fun ho => ?_, (h2.2 k hG).2⟩⟩
          obtain ⟨r, o, hm, hk⟩ := ho
          rcases List.mem_append.1 hm with hm | hm
          · exact (h2.2 k hG).1 (own1 k ⟨r, o, hm, hk⟩)
          · obtain ⟨r', o', h3, h4, h5⟩ := own2 k ⟨r, o, hm, hk⟩
            rcases h1 k hG with h6 | h6
            · exact rest_not r' o' h3 h4 k h5 h6
            · have := hh.shape.bnd r' o' h3 k h5; omega
      · exact big hf
  have hden : ∀ ρ'', Ag (nx + (m1 - m)) ρ2 ρ'' → den ρ'' (ren (sh m nx σ) y) = den ρ1 y := by
    intro ρ'' hr''
    rw [den_ren]
    exact hy _ fun i hi => by show ρ'' (sh m nx σ i) = ρ1 i; rw [hr'' _ (s_lt i hi), e2 i hi]
  refine ⟨_, _, _, _, ρ2, F2, hR, by rw [hden ρ2 (Ag.refl _ _)], fun ρ'' hr'' => by rw [hden ρ'' hr'', hden ρ2 (Ag.refl _ _)], hHp, ag2, by omega, hkeep', own3, fun f hf => ?_⟩
  rcases List.mem_append.1 hf with hf | hf
  · rcases hfacts f hf with h1 | h1
    · exact .inl (hfx f h1)
    · exact .inr fun k hk => (h1 k hk).imp (ownS k) id
  · exact .inl hf
end Go.Proofs.YtekgjjanikicnaaDoor.Sx

namespace Go.Proofs.YtekgjjanikicnaaDoor.Sx
open Go Go.Proofs.YtekgjjanikicnaaDoorW.PrintLast
set_option linter.unusedVariables false
set_option linter.unusedSimpArgs false

/-! ### Names written out -/
mutual
def renK (s : Nat → Nat) : SV → (SV → Prop) → Prop
  | .v x, k => k (.v x)
  | .b t, k => k (.b t)
  | .k kd n, k => k (.k kd n)
  | .p r o, k => forceN (s r) fun r => k (.p r o)
  | .q r o, k => forceN (s r) fun r => k (.q r o)
  | .s r o len cap, k => forceN (s r) fun r => k (.s r o len cap)
  | .m r, k => forceN (s r) fun r => k (.m r)
  | .agg cs, k => renLK s cs fun cs => k (.agg cs)
  | .tup cs, k => renLK s cs fun cs => k (.tup cs)
  | .fn f a c, k => renLK s a fun a => renLK s c fun c => k (.fn f a c)
def renLK (s : Nat → Nat) : List SV → (List SV → Prop) → Prop
  | [], k => k []
  | x :: r, k => renK s x fun x => renLK s r fun r => k (x :: r)
end
mutual
theorem renK_elim {s : Nat → Nat} : ∀ {x : SV} {k : SV → Prop}, renK s x k → k (ren s x)
  | .v x, k, h => h
  | .b t, k, h => h
  | .k kd n, k, h => h
  | .p r o, k, h => forceN_elim (k := fun r => k (.p r o)) h
  | .q r o, k, h => forceN_elim (k := fun r => k (.q r o)) h
  | .s r o len cap, k, h => forceN_elim (k := fun r => k (.s r o len cap)) h
  | .m r, k, h => forceN_elim (k := fun r => k (.m r)) h
  | .agg cs, k, h => renLK_elim (k := fun cs => k (.agg cs)) h
  | .tup cs, k, h => renLK_elim (k := fun cs => k (.tup cs)) h
  | .fn f a c, k, h => renLK_elim (x := c) (k := fun c => k (.fn f (renL s a) c)) (renLK_elim (x := a) (k := fun a => renLK s c fun c => k (.fn f a c)) h)
theorem renLK_elim {s : Nat → Nat} : ∀ {x : List SV} {k : List SV → Prop}, renLK s x k → k (renL s x)
  | [], k, h => h
  | x :: r, k, h => renLK_elim (x := r) (k := fun r => k (ren s x :: r)) (renK_elim (x := x) (k := fun x => renLK s r fun r => k (x :: r)) h)
end
def renOK (s : Nat → Nat) : SObj → (SObj → Prop) → Prop
  | .cells cs T, k => renLK s cs fun cs => k (.cells cs T)
  | .row xs T, k => k (.row xs T)
  | .map es clk, k => k (.map es clk)
  | .iter mr since seen stepped, k => forceN (s mr) fun mr => k (.iter mr since seen stepped)
  | .abs A, k => k (.abs A)
theorem renOK_elim {s : Nat → Nat} {o : SObj} {k : SObj → Prop} (h : renOK s o k) : k (renO s o) := by
  cases o with
  | cells cs T => exact renLK_elim (k := fun cs => k (.cells cs T)) h
  | row xs T => exact h
  | map es clk => exact h
  | iter mr since seen stepped => exact forceN_elim (k := fun mr => k (.iter mr since seen stepped)) h
  | abs A => exact h
def renHK (s : Nat → Nat) : List (Nat × SObj) → List (Nat × SObj) → (List (Nat × SObj) → Prop) → Prop
  | [], rest, k => k rest
  | (r, o) :: l, rest, k => forceN (s r) fun r => renOK s o fun o => renHK s l rest fun l => k ((r, o) :: l)
theorem renHK_elim {s : Nat → Nat} : ∀ {h rest : List (Nat × SObj)} {k : List (Nat × SObj) → Prop}, renHK s h rest k → k (renH s h ++ rest)
  | [], rest, k, h => h
  | (r, o) :: l, rest, k, h => by
    have h1 := renOK_elim (k := fun o => renHK s l rest fun l => k ((s r, o) :: l)) (forceN_elim (k := fun r => renOK s o fun o => renHK s l rest fun l => k ((r, o) :: l)) h)
    exact renHK_elim (h := l) (k := fun l => k ((s r, renO s o) :: l)) h1
def restHK (keys : List Nat) : List (Nat × SObj) → (List (Nat × SObj) → Prop) → Prop
  | [], k => k []
  | (r, o) :: l, k => match keys.any (Nat.beq r) with
    | true => restHK keys l k
    | false => restHK keys l fun l => k ((r, o) :: l)
theorem restHK_elim {keys : List Nat} : ∀ {h : List (Nat × SObj)} {k : List (Nat × SObj) → Prop}, restHK keys h k → k (restH keys h)
  | [], k, h => h
  | (r, o) :: l, k, h => by
    unfold restHK at h
    unfold restH
    split at h
    · rename_i he; rw [he]; exact restHK_elim h
    · rename_i he; rw [he]; exact restHK_elim (k := fun l => k ((r, o) :: l)) h
def appFK : List Fact → List Fact → (List Fact → Prop) → Prop
  | [], l, k => k l
  | x :: r, l, k => appFK r l fun m => k (x :: m)
theorem appFK_elim : ∀ {a b : List Fact} {k : List Fact → Prop}, appFK a b k → k (a ++ b)
  | [], b, k, h => h
  | x :: r, b, k, h => appFK_elim (a := r) (k := fun m => k (x :: m)) h
/-- What follows a call by contract, all names written out. -/
def afterK (m nx : Nat) (σ keys : List Nat) (H : List (Nat × SObj)) (FX : List Fact) (y : SV) (h : List (Nat × SObj)) (m1 : Nat) (f1 : List Fact) (post' : SV → List (Nat × SObj) → Nat → List Fact → Prop) : Prop :=
  renK (sh m nx σ) y fun y => restHK (keys.map (sg σ)) H fun R => renHK (sh m nx σ) h R fun h => forceN (nx + (m1 - m)) fun n1 => appFK f1 FX fun fx => post' y h n1 fx
/-- A contract, where there are more regions around. -/
theorem Tri.at {P : Program} {n : Nat} {args : List SV} {hp : List (Nat × SObj)} {m : Nat} {fx : List Fact} {post : SV → List (Nat × SObj) → Nat → List Fact → Prop} (T : Tri P n args hp m fx post) (σ : List Nat)
    {args' : List SV} {H : List (Nat × SObj)} {nx : Nat} {FX : List Fact} {post' : SV → List (Nat × SObj) → Nat → List Fact → Prop} (hok : callOk m nx σ (hp.map (·.1)) = true)
    (hargs : ∀ ρ ρ'', AgS m σ ρ ρ'' → denL ρ'' args = denL ρ args') (hobj : heapSub m σ H hp) (hfx : ∀ f, f ∈ fx → f ∈ FX)
    (hpost : ∀ y h m1 f1, post y h m1 f1 → afterK m nx σ (hp.map (·.1)) H FX y h m1 f1 post') : Tri P n args' H nx FX post' := by
  refine T.frame σ hok hargs hobj hfx fun y h m1 f1 _ hp1 => ?_
  have h1 := hpost y h m1 f1 hp1
  unfold afterK at h1
  have h2 := restHK_elim (renK_elim h1)
  have h3 := appFK_elim (forceN_elim (renHK_elim h2))
  rw [List.map_map] at h3
  exact h3

/-! ### A region that draws its order -/
mutual
def idsB (n : Nat) : SV → Bool
  | .v _ => true
  | .b _ => true
  | .k _ _ => true
  | .p r _ => Nat.blt r n
  | .q r _ => Nat.blt r n
  | .s r _ _ _ => Nat.blt r n
  | .m r => Nat.blt r n
  | .agg cs => idsL n cs
  | .tup cs => idsL n cs
  | .fn _ a c => idsL n a && idsL n c
def idsL (n : Nat) : List SV → Bool
  | [] => true
  | x :: r => idsB n x && idsL n r
end
mutual
theorem den_ids {n : Nat} {ρ ρ' : Nat → Nat} (h : Ag n ρ ρ') : ∀ x, idsB n x = true → den ρ' x = den ρ x
  | .v _, _ => rfl
  | .b _, _ => rfl
  | .k _ _, _ => rfl
  | .p r o, hs => by simp only [idsB, Nat.blt_eq] at hs; simp only [den, h r hs]
  | .q r o, hs => by simp only [idsB, Nat.blt_eq] at hs; simp only [den, h r hs]
  | .s r o l c, hs => by simp only [idsB, Nat.blt_eq] at hs; simp only [den, h r hs]
  | .m r, hs => by simp only [idsB, Nat.blt_eq] at hs; simp only [den, h r hs]
  | .agg cs, hs => by simp only [idsB] at hs; simp only [den, denL_ids h cs hs]
  | .tup cs, hs => by simp only [idsB] at hs; simp only [den, denL_ids h cs hs]
  | .fn f a c, hs => by simp only [idsB, Bool.and_eq_true] at hs; simp only [den, denL_ids h a hs.1, denL_ids h c hs.2]
theorem denL_ids {n : Nat} {ρ ρ' : Nat → Nat} (h : Ag n ρ ρ') : ∀ l, idsL n l = true → denL ρ' l = denL ρ l
  | [], _ => rfl
  | x :: r, hs => by simp only [idsL, Bool.and_eq_true] at hs; simp only [denL_cons, den_ids h x hs.1, denL_ids h r hs.2]
end
def idsO (n : Nat) : SObj → Bool
  | .cells cs _ => idsL n cs
  | .row _ _ => true
  | .map _ _ => true
  | .iter mr _ _ _ => Nat.blt mr n
  | .abs _ => false
theorem objOk_ids {n : Nat} {ρ ρ' : Nat → Nat} (h : Ag n ρ ρ') {o : SObj} (hs : idsO n o = true) {w : World} {b : Nat} {G : Nat → Prop} : ObjOk ρ' o w b G ↔ ObjOk ρ o w b G := by
  cases o with
  | cells cs T => simp only [ObjOk, denL_ids h cs hs]
  | row xs T => exact Iff.rfl
  | map es clk => exact Iff.rfl
  | iter mr since seen stepped => simp only [idsO, Nat.blt_eq] at hs; simp only [ObjOk, h mr hs]
  | abs A => exact Iff.rfl
/-- Regions that nobody in the drawn region turns, and standing facts: what a load may lean on. -/
def SH (ρ : Nat → Nat) (hpS : List (Nat × SObj)) (fx : List Fact) (w : World) : Prop :=
  (∀ r o, (r, o) ∈ hpS → ObjOk ρ o w (ρ r) (fun k => k = ρ r)) ∧ FOk fx w
theorem objOk_own {n : Nat} {ρ : Nat → Nat} {o : SObj} (hs : idsO n o = true) {w : World} {b : Nat} {G : Nat → Prop} (h : ObjOk ρ o w b G) : ObjOk ρ o w b (fun k => k = b) := by
  cases o with
  | cells cs T => exact ⟨fun _ => Iff.rfl, h.2⟩
  | row xs T => exact ⟨fun _ => Iff.rfl, h.2⟩
  | map es clk => exact ⟨fun _ => Iff.rfl, h.2⟩
  | iter mr since seen stepped => exact ⟨fun _ => Iff.rfl, h.2⟩
  | abs A => cases hs
def idsH (n : Nat) (hpS : List (Nat × SObj)) : Bool := hpS.all fun e => Nat.blt e.1 n && idsO n e.2
theorem idsH_mem {n : Nat} {hpS : List (Nat × SObj)} (h : idsH n hpS = true) {r : Nat} {o : SObj} (hm : (r, o) ∈ hpS) : r < n ∧ idsO n o = true := by
  have := List.all_eq_true.1 h _ hm
  simpa [Nat.blt_eq] using this
def keepsH (hp : List (Nat × SObj)) : List (Nat × SObj) → Prop
  | [] => True
  | (r, o) :: l => objK r hp (fun o' => o' = o) ∧ keepsH hp l
theorem keepsH_mem {hp : List (Nat × SObj)} : ∀ {l : List (Nat × SObj)}, keepsH hp l → ∀ r o, (r, o) ∈ l → (r, o) ∈ hp
  | [], _, r, o, hm => by cases hm
  | (r', o') :: l, h, r, o, hm => by
    rcases List.mem_cons.1 hm with e | hm
    · cases e
      obtain ⟨x, h1, h2⟩ := objK_elim h.1
      rw [← h2]; exact h1
    · exact keepsH_mem h.2 r o hm
inductive Step where
  | any (i : Nat)
  | load (i : Nat)
  | one (i : Nat)
  | last (i : Nat)
/-- Is the plan one of the region's orders, and may each load be taken where it is? -/
def planOk (ops : Array Oper) (ds : List Nat) : List Step → Array Bool → Bool
  | [], l => Region.ready .any ops l == []
  | .any i :: r, l => anyB .any ops l (l.setIfInBounds i true) i && planOk ops ds r (l.setIfInBounds i true)
  | .load i :: r, l => takeB .any ops ds l (l.setIfInBounds i true) i && ds.all (fun d => !l.getD d false) && planOk ops ds r (l.setIfInBounds i true)
  | .one i :: r, l => readyB .any ops l (l.setIfInBounds i true) i && !ds.contains i && ds.all (fun d => !l.getD d false) && planOk ops ds r (l.setIfInBounds i true)
  | .last i :: r, l => readyB .any ops l (l.setIfInBounds i true) i && ds.contains i && planOk ops ds r (l.setIfInBounds i true)
def planK (P : Program) (tt : List (Option TI)) (sz : Nat) (ops : List Oper) (hpS : List (Nat × SObj)) (fxS : List Fact) : List Step → SS → (SS → Prop) → Prop
  | [], st, k => k st
  | .any i :: r, st, k => nthK ops i fun o => guardK sz ops o st (fun st => match st with
      | ⟨sl, hp, nx, fx⟩ => pureK tt ⟨sl, [], nx, []⟩ o.op fun y => putK sz o.dst y ⟨sl, hp, nx, fx⟩ fun st => planK P tt sz ops hpS fxS r st k)
      (fun st => putK sz o.dst (.tup []) st fun st => planK P tt sz ops hpS fxS r st k)
  | .load i :: r, st, k => nthK ops i fun o => guardK sz ops o st (fun st => match st with
      | ⟨sl, hp, nx, fx⟩ => pureK tt ⟨sl, hpS, nx, fxS⟩ o.op fun y => putK sz o.dst y ⟨sl, hp, nx, fx⟩ fun st => planK P tt sz ops hpS fxS r st k)
      (fun st => putK sz o.dst (.tup []) st fun st => planK P tt sz ops hpS fxS r st k)
  | .one i :: r, st, k => nthK ops i fun o => guardK sz ops o st (fun st => opK P tt sz st o fun st => keepsH st.hp hpS ∧ (∀ f, f ∈ fxS → f ∈ st.fx) ∧ planK P tt sz ops hpS fxS r st k)
      (fun st => putK sz o.dst (.tup []) st fun st => planK P tt sz ops hpS fxS r st k)
  | .last i :: r, st, k => nthK ops i fun o => guardK sz ops o st (fun st => opK P tt sz st o fun st => planK P tt sz ops hpS fxS r st k)
      (fun st => putK sz o.dst (.tup []) st fun st => planK P tt sz ops hpS fxS r st k)
theorem SH.of_ok {B : Bs} {ρ ρ0 : Nat → Nat} {F : Nat → Nat → Prop} {st : SS} {sz : Nat} {a : Act} {w : World} (h : OkAt B ρ F st sz a w) {hpS : List (Nat × SObj)} {n : Nat} {fxS : List Fact} (hag : Ag n ρ0 ρ) (hsc : idsH n hpS = true)
    (hm : ∀ r o, (r, o) ∈ hpS → (r, o) ∈ st.hp) (hf : ∀ f, f ∈ fxS → f ∈ st.fx) : SH ρ0 hpS fxS w := by
  refine ⟨fun r o ho => ?_, fun f hf' => h.heap.shape.fok f (hf f hf')⟩
  obtain ⟨h1, h2⟩ := idsH_mem hsc ho
  have h3 := h.heap.obj ρ (Ag.refl _ _) r o (hm r o ho)
  rw [← hag r h1]
  exact objOk_own h2 ((objOk_ids hag h2).1 h3)
theorem SH.base {ρ ρ0 : Nat → Nat} {hpS : List (Nat × SObj)} {n : Nat} {fxS : List Fact} {w' : World} (h : SH ρ0 hpS fxS w') (hag : Ag n ρ0 ρ) (hsc : idsH n hpS = true) {sl : List (Nat × SV)} {nx : Nat} {a : Act} (hsl : ∀ t x, (t, x) ∈ sl → a.tmps[t]? = some (den ρ x)) :
    Base ρ (fun r k => k = ρ r) ⟨sl, hpS, nx, fxS⟩ a w' := by
  refine ⟨hsl, fun r o ho => ?_⟩
  obtain ⟨h1, h2⟩ := idsH_mem hsc ho
  have h3 := h.1 r o ho
  rw [← hag r h1] at h3
  exact (objOk_ids hag h2).2 h3
/-- The state as it is here, taken for the beginning. -/
theorem OkAt.rebase {B : Bs} {ρ : Nat → Nat} {F : Nat → Nat → Prop} {st : SS} {sz : Nat} {a : Act} {w : World} (h : OkAt B ρ F st sz a w) : OkAt ⟨st.nx, ρ, w, Own st.hp F, st.fx⟩ ρ F st sz a w :=
  ⟨h.slot, h.heap, h.size, Ag.refl _ _, Nat.le_refl _, Keeps.refl _ _, fun _ hk => .inl hk, fun _ hf => .inl hf, h.defers⟩
theorem OkAt.compose {B : Bs} {ρ ρ' : Nat → Nat} {F F' : Nat → Nat → Prop} {st st' : SS} {sz : Nat} {a a' : Act} {w w' : World} (h : OkAt B ρ F st sz a w) (h' : OkAt ⟨st.nx, ρ, w, Own st.hp F, st.fx⟩ ρ' F' st' sz a' w') : OkAt B ρ' F' st' sz a' w' :=
  ⟨h'.slot, h'.heap, h'.size, fun r hr => (h'.base r (Nat.lt_of_lt_of_le hr h.n0)).trans (h.base r hr), Nat.le_trans h.n0 h'.n0, h.keeps.trans h'.keeps h.own,
   fun k hk => (h'.own k hk).elim (h.own k) (fun h1 => .inr (Nat.le_trans h.keeps.size h1)),
   fun f hf => (h'.facts f hf).elim (h.facts f) (fun h1 => .inr fun k hk => (h1 k hk).elim (h.own k) (fun h2 => .inr (Nat.le_trans h.keeps.size h2))), h'.defers⟩
theorem plan_sound {P : Program} {tt : List (Option TI)} (ht : TOk P tt) {sz : Nat} {ops : List Oper} {hpS : List (Nat × SObj)} {fxS : List Fact} {ds : List Nat} {n : Nat} {ρ0 : Nat → Nat} (hsc : idsH n hpS = true) {B : Bs} {K : Exit → SS → Prop} :
    ∀ (pl : List Step) (l : Array Bool), planOk ops.toArray ds pl l = true → ∀ {st : SS} {ρ F a w}, planK P tt sz ops hpS fxS pl st (K .normal) → OkAt B ρ F st sz a w → Ag n ρ0 ρ → n ≤ st.nx →
    ((∀ d ∈ ds, l.getD d false = false) → SH ρ0 hpS fxS w) → wpAnyLast P .any ops.toArray (NoPanic (Lift B sz K)) (SH ρ0 hpS fxS) ds pl.length l a w
  | [], l, hp, st, ρ, F, a, w, h, ho, hag, hn, hS => done_ hp ⟨st, ρ, F, h, ho⟩
  | s :: r, l, hp, st, ρ, F, a, w, h, ho, hag, hn, hS => by
    have setD : ∀ (i d : Nat), (l.setIfInBounds i true).getD d false = false → l.getD d false = false := fun i d hd => by
      by_cases e : d = i
      · subst e
        by_cases hb : d < l.size
        · rw [Array.getD_eq_getD_getElem?, Array.getElem?_setIfInBounds_self_of_lt hb] at hd; simp at hd
        · rw [Array.getD_eq_getD_getElem?, Array.getElem?_eq_none (Nat.le_of_not_lt hb)]; rfl
      · rw [← getD_set_ne false (Ne.symm e)]; exact hd
    have hr0 := ho.rebase
    cases s with
    | any i =>
      simp only [planOk, Bool.and_eq_true] at hp
      obtain ⟨oi, h1, h2⟩ := nthK_elim h
      have hi : ops.toArray[i]? = some oi := by simpa using h1
      have go : ∀ (v : Value) (st' : SS), Yields P ops.toArray oi v a → planK P tt sz ops hpS fxS r st' (K .normal) → OkAt ⟨st.nx, ρ, w, Own st.hp F, st.fx⟩ ρ F st' sz (a.put oi.dst v) w → wpAnyLast P .any ops.toArray (NoPanic (Lift B sz K)) (SH ρ0 hpS fxS) ds (r.length + 1) l a w :=
        fun v st' hy h3 h4 => pure_ (l.setIfInBounds i true) hi rfl hp.1 (fun _ _ _ hq => hq) hy rfl (plan_sound ht hsc r _ hp.2 h3 (ho.compose h4) hag (Nat.le_trans hn h4.n0) (fun hd => hS fun d hm => setD i d (hd d hm)))
      rcases guardK_sound (P := P) h2 hr0 with ⟨hw, st', h3, h4⟩ | ⟨hw, st', h3, h4⟩
      · obtain ⟨sl, hp', nx, fx⟩ := st'
        obtain ⟨y, h5, h6⟩ := pureK_elim (P := P) ht h3 rfl
        have hrun : ∀ w, (execOp a.eval oi).run P w = .ok (.value (den ρ y)) w := fun w =>
          h6 ρ (fun _ _ => False) a w ⟨h4.slot ρ (Ag.refl _ _), fun r o hm => by cases hm⟩ (fun f hf => by cases hf)
        have hrob : ∀ ρ', Ag nx ρ ρ' → den ρ' y = den ρ y := by
          intro ρ' hr
          have e1 := h6 ρ' (fun _ _ => False) a w ⟨h4.slot ρ' hr, fun r o hm => by cases hm⟩ (fun f hf => by cases hf)
          rw [hrun w] at e1
          simpa using e1.symm
        obtain ⟨st'', h7, h8⟩ := putK_elim h5 h4 hrob
        exact go _ st'' (.inl ⟨hw, hrun⟩) h7 h8
      · obtain ⟨st'', h7, h8⟩ := putK_elim h3 h4 (fun _ _ => rfl)
        exact go _ st'' (.inr ⟨hw, rfl⟩) h7 h8
    | load i =>
      simp only [planOk, Bool.and_eq_true, List.all_eq_true, Bool.not_eq_true'] at hp
      obtain ⟨⟨hp1, hp2⟩, hp3⟩ := hp
      have hS0 := hS hp2
      obtain ⟨oi, h1, h2⟩ := nthK_elim h
      have hi : ops.toArray[i]? = some oi := by simpa using h1
      have go : ∀ (v : Value) (st' : SS), YieldsIf P ops.toArray (SH ρ0 hpS fxS) oi v a → planK P tt sz ops hpS fxS r st' (K .normal) → OkAt ⟨st.nx, ρ, w, Own st.hp F, st.fx⟩ ρ F st' sz (a.put oi.dst v) w → wpAnyLast P .any ops.toArray (NoPanic (Lift B sz K)) (SH ρ0 hpS fxS) ds (r.length + 1) l a w :=
        fun v st' hy h3 h4 => take_ (l.setIfInBounds i true) hi rfl hp1 (fun _ _ _ hq => hq) hy hS0 rfl (plan_sound ht hsc r _ hp3 h3 (ho.compose h4) hag (Nat.le_trans hn h4.n0) (fun _ => hS0))
      rcases guardK_sound (P := P) h2 hr0 with ⟨hw, st', h3, h4⟩ | ⟨hw, st', h3, h4⟩
      · obtain ⟨sl, hp', nx, fx⟩ := st'
        obtain ⟨y, h5, h6⟩ := pureK_elim (P := P) ht h3 rfl
        have hle : n ≤ nx := Nat.le_trans hn h4.n0
        have hrun : ∀ ρ', Ag nx ρ ρ' → ∀ w', SH ρ0 hpS fxS w' → (execOp a.eval oi).run P w' = .ok (.value (den ρ' y)) w' := fun ρ' hr w' hs =>
          h6 ρ' _ a w' (hs.base (hag.trans hr hle) hsc (h4.slot ρ' hr)) hs.2
        have hrob : ∀ ρ', Ag nx ρ ρ' → den ρ' y = den ρ y := by
          intro ρ' hr
          have e1 := hrun ρ' hr w hS0
          rw [hrun ρ (Ag.refl _ _) w hS0] at e1
          simpa using e1.symm
        obtain ⟨st'', h7, h8⟩ := putK_elim h5 h4 hrob
        exact go _ st'' (.inl ⟨hw, fun w' hs => hrun ρ (Ag.refl _ _) w' hs⟩) h7 h8
      · obtain ⟨st'', h7, h8⟩ := putK_elim h3 h4 (fun _ _ => rfl)
        exact go _ st'' (.inr ⟨hw, rfl⟩) h7 h8
    | one i =>
      simp only [planOk, Bool.and_eq_true, List.all_eq_true, Bool.not_eq_true'] at hp
      obtain ⟨⟨⟨hp1, hp2⟩, hp4⟩, hp3⟩ := hp
      have hds : i ∉ ds := by simpa using hp2
      obtain ⟨oi, h1, h2⟩ := nthK_elim h
      have hi : ops.toArray[i]? = some oi := by simpa using h1
      refine one_ (l.setIfInBounds i true) hi rfl hp1 hds fun K' hK' => ?_
      have hK : ∀ a' w', SH ρ0 hpS fxS w' → (SH ρ0 hpS fxS w' → wpAnyLast P .any ops.toArray (NoPanic (Lift B sz K)) (SH ρ0 hpS fxS) ds r.length (l.setIfInBounds i true) a' w') → K' a' w' := hK'
      rcases guardK_sound (P := P) h2 hr0 with ⟨hw, st', h3, h4⟩ | ⟨hw, st', h3, h4⟩
      · rw [if_pos hw]
        refine Oper.wp_mono (fun a' w' hx => ?_) (opK_sound ht h3 h4)
        obtain ⟨st2, ρ', F', ⟨k1, k2, k3⟩, h5⟩ := hx
        have hag' : Ag n ρ0 ρ' := hag.trans h5.base hn
        have hs : SH ρ0 hpS fxS w' := SH.of_ok h5 hag' hsc (keepsH_mem k1) k2
        exact hK _ _ hs fun _ => plan_sound ht hsc r _ hp3 k3 (ho.compose h5) hag' (Nat.le_trans hn h5.n0) (fun _ => hs)
      · rw [if_neg (by rw [hw]; simp)]
        obtain ⟨st'', h7, h8⟩ := putK_elim h3 h4 (fun _ _ => rfl)
        have hs : SH ρ0 hpS fxS w := hS hp4
        exact hK _ _ hs fun _ => plan_sound ht hsc r _ hp3 h7 (ho.compose h8) hag (Nat.le_trans hn h8.n0) (fun _ => hs)
    | last i =>
      simp only [planOk, Bool.and_eq_true] at hp
      obtain ⟨⟨hp1, hp2⟩, hp3⟩ := hp
      have hds : i ∈ ds := by simpa using hp2
      obtain ⟨oi, h1, h2⟩ := nthK_elim h
      have hi : ops.toArray[i]? = some oi := by simpa using h1
      refine last_ (l.setIfInBounds i true) hi rfl hp1 hds fun K' hK' => ?_
      have hK : ∀ a' w', wpAnyLast P .any ops.toArray (NoPanic (Lift B sz K)) (SH ρ0 hpS fxS) ds r.length (l.setIfInBounds i true) a' w' → K' a' w' := hK'
      have hlt : i < l.size := by
        simp only [readyB, Bool.and_eq_true, beq_iff_eq] at hp1
        have hm : i ∈ Region.ready .any ops.toArray l := by rw [hp1.1]; simp
        have h5 := (mem_ready.1 hm).1
        refine Nat.lt_of_not_le fun hle => ?_
        rw [Array.getD_eq_getD_getElem?, Array.getElem?_eq_none hle] at h5
        simp at h5
      have hno : ∀ w', (∀ d ∈ ds, (l.setIfInBounds i true).getD d false = false) → SH ρ0 hpS fxS w' := fun w' hd => by
        have := hd i hds
        rw [Array.getD_eq_getD_getElem?, Array.getElem?_setIfInBounds_self_of_lt hlt] at this
        simp at this
      rcases guardK_sound (P := P) h2 hr0 with ⟨hw, st', h3, h4⟩ | ⟨hw, st', h3, h4⟩
      · rw [if_pos hw]
        refine Oper.wp_mono (fun a' w' hx => ?_) (opK_sound ht h3 h4)
        obtain ⟨st2, ρ', F', k3, h5⟩ := hx
        exact hK _ _ (plan_sound ht hsc r _ hp3 k3 (ho.compose h5) (hag.trans h5.base hn) (Nat.le_trans hn h5.n0) (hno w'))
      · rw [if_neg (by rw [hw]; simp)]
        obtain ⟨st'', h7, h8⟩ := putK_elim h3 h4 (fun _ _ => rfl)
        exact hK _ _ (plan_sound ht hsc r _ hp3 h7 (ho.compose h8) hag (Nat.le_trans hn h8.n0) (hno w))
theorem OkAt.drew {B : Bs} {ρ : Nat → Nat} {F : Nat → Nat → Prop} {st : SS} {sz : Nat} {a : Act} {w : World} (h : OkAt B ρ F st sz a w) : OkAt B ρ F st sz a w.drew :=
  ⟨h.slot, h.heap.drew, h.size, h.base, h.n0, h.keeps.trans (keeps_drew _ w) h.own, h.own, h.facts, h.defers⟩
/-- A region that draws its order, by a plan: hpS are regions that nothing in it turns (but what comes last). -/
theorem draw_rule {P : Program} {tt : List (Option TI)} (ht : TOk P tt) (hm : P.follows .mixedOrders = true) {sz n0 id : Nat} {ops : List Oper} {st : SS} {K : Exit → SS → Prop} (pl : List Step) (ds : List Nat) (hpS : List (Nat × SObj))
    (hok : planOk ops.toArray ds pl (Array.replicate ops.length false) = true) (hlen : pl.length = ops.length) (hsc : idsH st.nx hpS = true) (hk : keepsH st.hp hpS) (h : planK P tt sz ops hpS st.fx pl st (K .normal)) : DrawVC P sz n0 id ops st K := by
  refine ⟨fun B ρ F a w hn ho => wp_region_noPanic ?_⟩
  have hd := ho.drew
  have hS : SH ρ hpS st.fx w.drew := SH.of_ok hd (Ag.refl _ _) hsc (keepsH_mem hk) (fun f hf => hf)
  refine start_ (ds := ds) (Array.replicate ops.length false) hm (by simp) rfl hS fun _ => ?_
  rw [← hlen]
  exact plan_sound ht hsc pl _ (by rw [hlen]; exact hok) h hd (Ag.refl _ _) (Nat.le_refl _) (fun _ => hS)
/-! ### Plans that part: two operations that call or make may come up, in either order. -/
inductive Plan where
  | done
  | step (s : Step) (r : Plan)
  | two (i : Nat) (p : Plan) (j : Nat) (q : Plan)
def Plan.len : Plan → Nat
  | .done => 0
  | .step _ r => r.len + 1
  | .two _ p _ _ => p.len + 1
def Step.num : Step → Nat
  | .any i => i
  | .load i => i
  | .one i => i
  | .last i => i
def stepOk (ops : Array Oper) (ds : List Nat) (l : Array Bool) : Step → Bool
  | .any i => anyB .any ops l (l.setIfInBounds i true) i
  | .load i => takeB .any ops ds l (l.setIfInBounds i true) i && ds.all (fun d => !l.getD d false)
  | .one i => readyB .any ops l (l.setIfInBounds i true) i && !ds.contains i && ds.all (fun d => !l.getD d false)
  | .last i => readyB .any ops l (l.setIfInBounds i true) i && ds.contains i
def planOkT (ops : Array Oper) (ds : List Nat) : Plan → Array Bool → Bool
  | .done, l => Region.ready .any ops l == []
  | .step s r, l => stepOk ops ds l s && planOkT ops ds r (l.setIfInBounds s.num true)
  | .two i p j q, l => (Region.ready .any ops l == [i, j]) && !ds.contains i && !ds.contains j && ds.all (fun d => !l.getD d false) && (p.len == q.len) && planOkT ops ds p (l.setIfInBounds i true) && planOkT ops ds q (l.setIfInBounds j true)
def planKT (P : Program) (tt : List (Option TI)) (sz : Nat) (ops : List Oper) (hpS : List (Nat × SObj)) (fxS : List Fact) : Plan → SS → (SS → Prop) → Prop
  | .done, st, k => k st
  | .step (.any i) r, st, k => nthK ops i fun o => guardK sz ops o st (fun st => match st with
      | ⟨sl, hp, nx, fx⟩ => pureK tt ⟨sl, [], nx, []⟩ o.op fun y => putK sz o.dst y ⟨sl, hp, nx, fx⟩ fun st => planKT P tt sz ops hpS fxS r st k)
      (fun st => putK sz o.dst (.tup []) st fun st => planKT P tt sz ops hpS fxS r st k)
  | .step (.load i) r, st, k => nthK ops i fun o => guardK sz ops o st (fun st => match st with
      | ⟨sl, hp, nx, fx⟩ => pureK tt ⟨sl, hpS, nx, fxS⟩ o.op fun y => putK sz o.dst y ⟨sl, hp, nx, fx⟩ fun st => planKT P tt sz ops hpS fxS r st k)
      (fun st => putK sz o.dst (.tup []) st fun st => planKT P tt sz ops hpS fxS r st k)
  | .step (.one i) r, st, k => nthK ops i fun o => guardK sz ops o st (fun st => opK P tt sz st o fun st => keepsH st.hp hpS ∧ (∀ f, f ∈ fxS → f ∈ st.fx) ∧ planKT P tt sz ops hpS fxS r st k)
      (fun st => putK sz o.dst (.tup []) st fun st => planKT P tt sz ops hpS fxS r st k)
  | .step (.last i) r, st, k => nthK ops i fun o => guardK sz ops o st (fun st => opK P tt sz st o fun st => planKT P tt sz ops hpS fxS r st k)
      (fun st => putK sz o.dst (.tup []) st fun st => planKT P tt sz ops hpS fxS r st k)
  | .two i p j q, st, k => (nthK ops i fun o => guardK sz ops o st (fun st => opK P tt sz st o fun st => keepsH st.hp hpS ∧ (∀ f, f ∈ fxS → f ∈ st.fx) ∧ planKT P tt sz ops hpS fxS p st k)
      (fun st => putK sz o.dst (.tup []) st fun st => planKT P tt sz ops hpS fxS p st k)) ∧
      (nthK ops j fun o => guardK sz ops o st (fun st => opK P tt sz st o fun st => keepsH st.hp hpS ∧ (∀ f, f ∈ fxS → f ∈ st.fx) ∧ planKT P tt sz ops hpS fxS q st k)
      (fun st => putK sz o.dst (.tup []) st fun st => planKT P tt sz ops hpS fxS q st k))
theorem plan_soundT {P : Program} {tt : List (Option TI)} (ht : TOk P tt) {sz : Nat} {ops : List Oper} {hpS : List (Nat × SObj)} {fxS : List Fact} {ds : List Nat} {n : Nat} {ρ0 : Nat → Nat} (hsc : idsH n hpS = true) {B : Bs} {K : Exit → SS → Prop} :
    ∀ (pl : Plan) (l : Array Bool), planOkT ops.toArray ds pl l = true → ∀ {st : SS} {ρ F a w}, planKT P tt sz ops hpS fxS pl st (K .normal) → OkAt B ρ F st sz a w → Ag n ρ0 ρ → n ≤ st.nx →
    ((∀ d ∈ ds, l.getD d false = false) → SH ρ0 hpS fxS w) → wpAnyLast P .any ops.toArray (NoPanic (Lift B sz K)) (SH ρ0 hpS fxS) ds pl.len l a w
  | .done, l, hp, st, ρ, F, a, w, h, ho, hag, hn, hS => done_ hp ⟨st, ρ, F, h, ho⟩
  | .step s r, l, hp, st, ρ, F, a, w, h, ho, hag, hn, hS => by
    have setD : ∀ (i d : Nat), (l.setIfInBounds i true).getD d false = false → l.getD d false = false := fun i d hd => by
      by_cases e : d = i
      · subst e
        by_cases hb : d < l.size
        · rw [Array.getD_eq_getD_getElem?, Array.getElem?_setIfInBounds_self_of_lt hb] at hd; simp at hd
        · rw [Array.getD_eq_getD_getElem?, Array.getElem?_eq_none (Nat.le_of_not_lt hb)]; rfl
      · rw [← getD_set_ne false (Ne.symm e)]; exact hd
    have hr0 := ho.rebase
    cases s with
    | any i =>
      simp only [planOkT, stepOk, Step.num, Bool.and_eq_true] at hp
      obtain ⟨oi, h1, h2⟩ := nthK_elim h
      have hi : ops.toArray[i]? = some oi := by simpa using h1
      have go : ∀ (v : Value) (st' : SS), Yields P ops.toArray oi v a → planKT P tt sz ops hpS fxS r st' (K .normal) → OkAt ⟨st.nx, ρ, w, Own st.hp F, st.fx⟩ ρ F st' sz (a.put oi.dst v) w → wpAnyLast P .any ops.toArray (NoPanic (Lift B sz K)) (SH ρ0 hpS fxS) ds (r.len + 1) l a w :=
        fun v st' hy h3 h4 => pure_ (l.setIfInBounds i true) hi rfl hp.1 (fun _ _ _ hq => hq) hy rfl (plan_soundT ht hsc r _ hp.2 h3 (ho.compose h4) hag (Nat.le_trans hn h4.n0) (fun hd => hS fun d hm => setD i d (hd d hm)))
      rcases guardK_sound (P := P) h2 hr0 with ⟨hw, st', h3, h4⟩ | ⟨hw, st', h3, h4⟩
      · obtain ⟨sl, hp', nx, fx⟩ := st'
        obtain ⟨y, h5, h6⟩ := pureK_elim (P := P) ht h3 rfl
        have hrun : ∀ w, (execOp a.eval oi).run P w = .ok (.value (den ρ y)) w := fun w =>
          h6 ρ (fun _ _ => False) a w ⟨h4.slot ρ (Ag.refl _ _), fun r o hm => by cases hm⟩ (fun f hf => by cases hf)
        have hrob : ∀ ρ', Ag nx ρ ρ' → den ρ' y = den ρ y := by
          intro ρ' hr
          have e1 := h6 ρ' (fun _ _ => False) a w ⟨h4.slot ρ' hr, fun r o hm => by cases hm⟩ (fun f hf => by cases hf)
          rw [hrun w] at e1
          simpa using e1.symm
        obtain ⟨st'', h7, h8⟩ := putK_elim h5 h4 hrob
        exact go _ st'' (.inl ⟨hw, hrun⟩) h7 h8
      · obtain ⟨st'', h7, h8⟩ := putK_elim h3 h4 (fun _ _ => rfl)
        exact go _ st'' (.inr ⟨hw, rfl⟩) h7 h8
    | load i =>
      simp only [planOkT, stepOk, Step.num, Bool.and_eq_true, List.all_eq_true, Bool.not_eq_true'] at hp
      obtain ⟨⟨hp1, hp2⟩, hp3⟩ := hp
      have hS0 := hS hp2
      obtain ⟨oi, h1, h2⟩ := nthK_elim h
      have hi : ops.toArray[i]? = some oi := by simpa using h1
      have go : ∀ (v : Value) (st' : SS), YieldsIf P ops.toArray (SH ρ0 hpS fxS) oi v a → planKT P tt sz ops hpS fxS r st' (K .normal) → OkAt ⟨st.nx, ρ, w, Own st.hp F, st.fx⟩ ρ F st' sz (a.put oi.dst v) w → wpAnyLast P .any ops.toArray (NoPanic (Lift B sz K)) (SH ρ0 hpS fxS) ds (r.len + 1) l a w :=
        fun v st' hy h3 h4 => take_ (l.setIfInBounds i true) hi rfl hp1 (fun _ _ _ hq => hq) hy hS0 rfl (plan_soundT ht hsc r _ hp3 h3 (ho.compose h4) hag (Nat.le_trans hn h4.n0) (fun _ => hS0))
      rcases guardK_sound (P := P) h2 hr0 with ⟨hw, st', h3, h4⟩ | ⟨hw, st', h3, h4⟩
      · obtain ⟨sl, hp', nx, fx⟩ := st'
        obtain ⟨y, h5, h6⟩ := pureK_elim (P := P) ht h3 rfl
        have hle : n ≤ nx := Nat.le_trans hn h4.n0
        have hrun : ∀ ρ', Ag nx ρ ρ' → ∀ w', SH ρ0 hpS fxS w' → (execOp a.eval oi).run P w' = .ok (.value (den ρ' y)) w' := fun ρ' hr w' hs =>
          h6 ρ' _ a w' (hs.base (hag.trans hr hle) hsc (h4.slot ρ' hr)) hs.2
        have hrob : ∀ ρ', Ag nx ρ ρ' → den ρ' y = den ρ y := by
          intro ρ' hr
          have e1 := hrun ρ' hr w hS0
          rw [hrun ρ (Ag.refl _ _) w hS0] at e1
          simpa using e1.symm
        obtain ⟨st'', h7, h8⟩ := putK_elim h5 h4 hrob
        exact go _ st'' (.inl ⟨hw, fun w' hs => hrun ρ (Ag.refl _ _) w' hs⟩) h7 h8
      · obtain ⟨st'', h7, h8⟩ := putK_elim h3 h4 (fun _ _ => rfl)
        exact go _ st'' (.inr ⟨hw, rfl⟩) h7 h8
    | one i =>
      simp only [planOkT, stepOk, Step.num, Bool.and_eq_true, List.all_eq_true, Bool.not_eq_true'] at hp
      obtain ⟨⟨⟨hp1, hp2⟩, hp4⟩, hp3⟩ := hp
      have hds : i ∉ ds := by simpa using hp2
      obtain ⟨oi, h1, h2⟩ := nthK_elim h
      have hi : ops.toArray[i]? = some oi := by simpa using h1
      refine one_ (l.setIfInBounds i true) hi rfl hp1 hds fun K' hK' => ?_
      have hK : ∀ a' w', SH ρ0 hpS fxS w' → (SH ρ0 hpS fxS w' → wpAnyLast P .any ops.toArray (NoPanic (Lift B sz K)) (SH ρ0 hpS fxS) ds r.len (l.setIfInBounds i true) a' w') → K' a' w' := hK'
      rcases guardK_sound (P := P) h2 hr0 with ⟨hw, st', h3, h4⟩ | ⟨hw, st', h3, h4⟩
      · rw [if_pos hw]
        refine Oper.wp_mono (fun a' w' hx => ?_) (opK_sound ht h3 h4)
        obtain ⟨st2, ρ', F', ⟨k1, k2, k3⟩, h5⟩ := hx
        have hag' : Ag n ρ0 ρ' := hag.trans h5.base hn
        have hs : SH ρ0 hpS fxS w' := SH.of_ok h5 hag' hsc (keepsH_mem k1) k2
        exact hK _ _ hs fun _ => plan_soundT ht hsc r _ hp3 k3 (ho.compose h5) hag' (Nat.le_trans hn h5.n0) (fun _ => hs)
      · rw [if_neg (by rw [hw]; simp)]
        obtain ⟨st'', h7, h8⟩ := putK_elim h3 h4 (fun _ _ => rfl)
        have hs : SH ρ0 hpS fxS w := hS hp4
        exact hK _ _ hs fun _ => plan_soundT ht hsc r _ hp3 h7 (ho.compose h8) hag (Nat.le_trans hn h8.n0) (fun _ => hs)
    | last i =>
      simp only [planOkT, stepOk, Step.num, Bool.and_eq_true] at hp
      obtain ⟨⟨hp1, hp2⟩, hp3⟩ := hp
      have hds : i ∈ ds := by simpa using hp2
      obtain ⟨oi, h1, h2⟩ := nthK_elim h
      have hi : ops.toArray[i]? = some oi := by simpa using h1
      refine last_ (l.setIfInBounds i true) hi rfl hp1 hds fun K' hK' => ?_
      have hK : ∀ a' w', wpAnyLast P .any ops.toArray (NoPanic (Lift B sz K)) (SH ρ0 hpS fxS) ds r.len (l.setIfInBounds i true) a' w' → K' a' w' := hK'
      have hlt : i < l.size := by
        simp only [readyB, Bool.and_eq_true, beq_iff_eq] at hp1
        have hm : i ∈ Region.ready .any ops.toArray l := by rw [hp1.1]; simp
        have h5 := (mem_ready.1 hm).1
        refine Nat.lt_of_not_le fun hle => ?_
        rw [Array.getD_eq_getD_getElem?, Array.getElem?_eq_none hle] at h5
        simp at h5
      have hno : ∀ w', (∀ d ∈ ds, (l.setIfInBounds i true).getD d false = false) → SH ρ0 hpS fxS w' := fun w' hd => by
        have := hd i hds
        rw [Array.getD_eq_getD_getElem?, Array.getElem?_setIfInBounds_self_of_lt hlt] at this
        simp at this
      rcases guardK_sound (P := P) h2 hr0 with ⟨hw, st', h3, h4⟩ | ⟨hw, st', h3, h4⟩
      · rw [if_pos hw]
        refine Oper.wp_mono (fun a' w' hx => ?_) (opK_sound ht h3 h4)
        obtain ⟨st2, ρ', F', k3, h5⟩ := hx
        exact hK _ _ (plan_soundT ht hsc r _ hp3 k3 (ho.compose h5) (hag.trans h5.base hn) (Nat.le_trans hn h5.n0) (hno w'))
      · rw [if_neg (by rw [hw]; simp)]
        obtain ⟨st'', h7, h8⟩ := putK_elim h3 h4 (fun _ _ => rfl)
        exact hK _ _ (plan_soundT ht hsc r _ hp3 h7 (ho.compose h8) hag (Nat.le_trans hn h8.n0) (hno w))
  | .two i p j q, l, hp, st, ρ, F, a, w, h, ho, hag, hn, hS => by
    have hr0 := ho.rebase
    simp only [planOkT, Bool.and_eq_true, List.all_eq_true, Bool.not_eq_true', beq_iff_eq] at hp
    obtain ⟨⟨⟨⟨⟨⟨hp1, hdi⟩, hdj⟩, hp2⟩, hlen⟩, hpi⟩, hpj⟩ := hp
    have hdi : i ∉ ds := by simpa using hdi
    have hdj : j ∉ ds := by simpa using hdj
    obtain ⟨hki, hkj⟩ := h
    obtain ⟨oi, h1, h2⟩ := nthK_elim hki
    obtain ⟨oj, h1j, h2j⟩ := nthK_elim hkj
    have hi : ops.toArray[i]? = some oi := by simpa using h1
    have hj : ops.toArray[j]? = some oj := by simpa using h1j
    have side : ∀ (i : Nat) (oi : Oper) (p : Plan) (n1 : Nat), n1 = p.len → planOkT ops.toArray ds p (l.setIfInBounds i true) = true →
        guardK sz ops oi st (fun st => opK P tt sz st oi fun st => keepsH st.hp hpS ∧ (∀ f, f ∈ fxS → f ∈ st.fx) ∧ planKT P tt sz ops hpS fxS p st (K .normal)) (fun st => putK sz oi.dst (.tup []) st fun st => planKT P tt sz ops hpS fxS p st (K .normal)) →
        (∀ (l : Array Bool), planOkT ops.toArray ds p l = true → ∀ {st : SS} {ρ F a w}, planKT P tt sz ops hpS fxS p st (K .normal) → OkAt B ρ F st sz a w → Ag n ρ0 ρ → n ≤ st.nx →
          ((∀ d ∈ ds, l.getD d false = false) → SH ρ0 hpS fxS w) → wpAnyLast P .any ops.toArray (NoPanic (Lift B sz K)) (SH ρ0 hpS fxS) ds p.len l a w) →
        ∀ K' : Act → World → Prop, Shut (∀ a' w', SH ρ0 hpS fxS w' → (SH ρ0 hpS fxS w' → wpAnyLast P .any ops.toArray (NoPanic (Lift B sz K)) (SH ρ0 hpS fxS) ds n1 (l.setIfInBounds i true) a' w') → K' a' w') →
          if Region.wanted oi (yielded ops.toArray a.tmps) = true then Oper.wp P oi a w K' (NoPanic (Lift B sz K)) else K' (a.put oi.dst undef) w := by
      intro i oi p n1 e1 hp3 h2 ih K' hK'
      subst e1
      have hK : ∀ a' w', SH ρ0 hpS fxS w' → (SH ρ0 hpS fxS w' → wpAnyLast P .any ops.toArray (NoPanic (Lift B sz K)) (SH ρ0 hpS fxS) ds p.len (l.setIfInBounds i true) a' w') → K' a' w' := hK'
      rcases guardK_sound (P := P) h2 hr0 with ⟨hw, st', h3, h4⟩ | ⟨hw, st', h3, h4⟩
      · rw [if_pos hw]
        refine Oper.wp_mono (fun a' w' hx => ?_) (opK_sound ht h3 h4)
        obtain ⟨st2, ρ', F', ⟨k1, k2, k3⟩, h5⟩ := hx
        have hag' : Ag n ρ0 ρ' := hag.trans h5.base hn
        have hs : SH ρ0 hpS fxS w' := SH.of_ok h5 hag' hsc (keepsH_mem k1) k2
        exact hK _ _ hs fun _ => ih _ hp3 k3 (ho.compose h5) hag' (Nat.le_trans hn h5.n0) (fun _ => hs)
      · rw [if_neg (by rw [hw]; simp)]
        obtain ⟨st'', h7, h8⟩ := putK_elim h3 h4 (fun _ _ => rfl)
        have hs : SH ρ0 hpS fxS w := hS hp2
        exact hK _ _ hs fun _ => ih _ hp3 h7 (ho.compose h8) hag (Nat.le_trans hn h8.n0) (fun _ => hs)
    refine two_ (l.setIfInBounds i true) (l.setIfInBounds j true) hi hj rfl rfl (by simp [hp1]) hdi hdj ?_ ?_
    · exact side i oi p p.len rfl hpi h2 (plan_soundT ht hsc p)
    · exact side j oj q p.len hlen hpj h2j (plan_soundT ht hsc q)
theorem draw_tree {P : Program} {tt : List (Option TI)} (ht : TOk P tt) (hm : P.follows .mixedOrders = true) {sz n0 id : Nat} {ops : List Oper} {st : SS} {K : Exit → SS → Prop} (pl : Plan) (ds : List Nat) (hpS : List (Nat × SObj))
    (hok : planOkT ops.toArray ds pl (Array.replicate ops.length false) = true) (hlen : pl.len = ops.length) (hsc : idsH st.nx hpS = true) (hk : keepsH st.hp hpS) (h : planKT P tt sz ops hpS st.fx pl st (K .normal)) : DrawVC P sz n0 id ops st K := by
  refine ⟨fun B ρ F a w hn ho => wp_region_noPanic ?_⟩
  have hd := ho.drew
  have hS : SH ρ hpS st.fx w.drew := SH.of_ok hd (Ag.refl _ _) hsc (keepsH_mem hk) (fun f hf => hf)
  refine start_ (ds := ds) (Array.replicate ops.length false) hm (by simp) rfl hS fun _ => ?_
  rw [← hlen]
  exact plan_soundT ht hsc pl _ (by rw [hlen]; exact hok) h hd (Ag.refl _ _) (Nat.le_refl _) (fun _ => hS)
/-- What is to be shown at an end: nothing looks into it. -/
inductive Done (p : Prop) : Prop where
  | mk : p → Done p
theorem Done.out {p : Prop} : Done p → p
  | .mk h => h
end Go.Proofs.YtekgjjanikicnaaDoor.Sx
