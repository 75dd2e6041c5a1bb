/- A symbolic executor for the model's code, part 8b: maps whose keys are whole numbers. -/
import Derived.Test.YtekgjjanikicnaaSx8
import Derived.MapKept
namespace Go.Proofs.Ytekgjjanikicnaa.Sx
open Go
set_option linter.unusedVariables false
set_option linter.unusedSimpArgs false

def kdK (a b : IntKind) (k : Prop) : Prop := match decide (a = b) with | true => k | false => False
theorem kdK_elim {a b : IntKind} {k : Prop} (h : kdK a b k) : a = b ∧ k := by
  unfold kdK at h; split at h
  · rename_i hd; exact ⟨of_decide_eq_true hd, h⟩
  · exact h.elim

/-! ### Entries -/
def findJ : List MapEntry → Int → Nat → Option (Nat × Value)
  | [], _, _ => none
  | e :: r, i, n => match e.key with
    | .int _ k => if i = k then some (n, e.val) else findJ r i (n + 1)
    | _ => findJ r i (n + 1)
def findI (l : List MapEntry) (i : Int) : Option Value := (findJ l i 0).map (·.2)
structure MapOk (kd : IntKind) (es : Array MapEntry) (clk : Nat) : Prop where
  keys : ∀ e ∈ es.toList, ∃ k, e.key = .int kd k
  kdis : (es.toList.map (·.key)).Nodup
  bdis : (es.toList.map (·.born)).Nodup
  born : ∀ e ∈ es.toList, e.born < clk
theorem MapOk.empty (kd : IntKind) (clk : Nat) : MapOk kd #[] clk := ⟨by simp, by simp, by simp, by simp⟩
theorem findI_empty (i : Int) : findI [] i = none := rfl
theorem findNow_int {kd : IntKind} {i : Int} : ∀ (l : List MapEntry) (n : Nat), (∀ e ∈ l, ∃ k, e.key = .int kd k) → Instr.findNow (.int kd) (.int kd i) l n = some (findJ l i n)
  | [], n, _ => rfl
  | e :: r, n, h => by
    obtain ⟨k, hk⟩ := h e (List.mem_cons_self ..)
    have ih := findNow_int (i := i) r (n + 1) (fun e he => h e (List.mem_cons_of_mem _ he))
    simp only [Instr.findNow, hk, Instr.sameNow, if_true, findJ]
    by_cases he : i = k
    · subst he; simp
    · rw [show (i == k) = false by simpa using he, if_neg he]
      exact ih
theorem findJ_get : ∀ {l : List MapEntry} {i : Int} {n j : Nat} {v : Value}, findJ l i n = some (j, v) → ∃ d e q, j = n + d ∧ l[d]? = some e ∧ e.key = .int q i ∧ e.val = v
  | [], i, n, j, v, h => by cases h
  | e :: r, i, n, j, v, h => by
    have next : findJ r i (n + 1) = some (j, v) → ∃ d e' q, j = n + d ∧ (e :: r)[d]? = some e' ∧ e'.key = .int q i ∧ e'.val = v := fun h => by
      obtain ⟨d, e', q, h1, h2, h3⟩ := findJ_get h
      exact ⟨d + 1, e', q, by omega, by simpa using h2, h3⟩
    unfold findJ at h
    split at h
    · rename_i q k hk
      split at h
      · rename_i he
        subst he
        cases h
        exact ⟨0, e, q, rfl, rfl, hk, rfl⟩
      · exact next h
    · exact next h
theorem findJ_none : ∀ {l : List MapEntry} {i : Int} {n : Nat}, findJ l i n = none → ∀ e ∈ l, ∀ q, e.key ≠ .int q i
  | [], i, n, h, e, he, q => by cases he
  | e :: r, i, n, h, e', he, q => by
    unfold findJ at h
    split at h
    · rename_i q' k hk
      split at h
      · cases h
      · rename_i hne
        rcases List.mem_cons.1 he with rfl | he
        · rw [hk]; simp only [ne_eq, Value.int.injEq, not_and]; exact fun _ e => hne e.symm
        · exact findJ_none h e' he q
    · rename_i hno
      rcases List.mem_cons.1 he with rfl | he
      · exact fun e => hno _ _ e
      · exact findJ_none h e' he q
theorem findJ_shift : ∀ {l : List MapEntry} {i : Int} {n m : Nat}, (findJ l i n).map (·.2) = (findJ l i m).map (·.2)
  | [], i, n, m => rfl
  | e :: r, i, n, m => by
    unfold findJ
    split
    · split
      · rfl
      · exact findJ_shift
    · exact findJ_shift
theorem findI_cons (e : MapEntry) (r : List MapEntry) (i : Int) : findI (e :: r) i = match e.key with
    | .int _ k => if i = k then some e.val else findI r i
    | _ => findI r i := by
  unfold findI
  conv => lhs; unfold findJ
  split
  · split
    · rfl
    · exact findJ_shift
  · exact findJ_shift
theorem findI_some {l : List MapEntry} {i : Int} {v : Value} (h : findI l i = some v) : ∃ e ∈ l, (∃ q, e.key = .int q i) ∧ e.val = v := by
  unfold findI at h
  cases hj : findJ l i 0 with
  | none => rw [hj] at h; cases h
  | some x =>
    obtain ⟨j, v'⟩ := x
    rw [hj] at h
    cases h
    obtain ⟨d, e, q, _, h2, h3, h4⟩ := findJ_get hj
    exact ⟨e, List.mem_of_getElem? h2, ⟨q, h3⟩, h4⟩
theorem findI_none {l : List MapEntry} {i : Int} (h : findI l i = none) : ∀ e ∈ l, ∀ q, e.key ≠ .int q i := by
  unfold findI at h
  cases hj : findJ l i 0 with
  | none => exact findJ_none hj
  | some x => rw [hj] at h; cases h
theorem findI_mem : ∀ {l : List MapEntry} {i : Int} {e : MapEntry} {kd : IntKind}, (∀ e ∈ l, ∃ k, e.key = .int kd k) → (l.map (·.key)).Nodup → e ∈ l → e.key = .int kd i → findI l i = some e.val
  | x :: r, i, e, kd, hk, hn, he, hi => by
    rw [List.map_cons, List.nodup_cons] at hn
    obtain ⟨k, hx⟩ := hk x (List.mem_cons_self ..)
    rw [findI_cons, hx]
    simp only
    rcases List.mem_cons.1 he with rfl | he
    · rw [hi] at hx; cases hx; simp
    · by_cases h : i = k
      · subst h
        exact absurd (List.mem_map.2 ⟨e, he, by rw [hi, hx]⟩) hn.1
      · rw [if_neg h]
        exact findI_mem (fun e he => hk e (List.mem_cons_of_mem _ he)) hn.2 he hi
theorem MapOk.find {kd : IntKind} {es : Array MapEntry} {clk : Nat} (h : MapOk kd es clk) {e : MapEntry} {i : Int} (he : e ∈ es.toList) (hi : e.key = .int kd i) : findI es.toList i = some e.val := findI_mem h.keys h.kdis he hi
theorem MapOk.entry {kd : IntKind} {es : Array MapEntry} {clk : Nat} (h : MapOk kd es clk) {i : Int} {v : Value} (hf : findI es.toList i = some v) : ∃ e ∈ es.toList, e.key = .int kd i ∧ e.val = v := by
  obtain ⟨e, he, ⟨q, hq⟩, hv⟩ := findI_some hf
  obtain ⟨k, hk⟩ := h.keys e he
  rw [hk] at hq
  cases hq
  exact ⟨e, he, hk, hv⟩
/-- What a store leaves. -/
def updI (es : Array MapEntry) (clk : Nat) (kd : IntKind) (i : Int) (v : Value) : Array MapEntry × Nat :=
  match findJ es.toList i 0 with
  | some (j, _) => (es.modify j fun e => { e with key := .int kd i, val := v }, clk)
  | none => (es.push { key := .int kd i, val := v, born := clk }, clk + 1)
theorem map_modify_same {α β : Type} (g : α → β) (f : α → α) : ∀ (l : List α) (j : Nat), (∀ e, l[j]? = some e → g (f e) = g e) → (l.modify j f).map g = l.map g
  | [], j, h => by simp
  | x :: r, 0, h => by simp [List.modify, h x rfl]
  | x :: r, j + 1, h => by
    have := map_modify_same g f r j (fun e he => h e (by simpa using he))
    simp [List.modify_succ_cons, this]
theorem findI_modify {kd : IntKind} {i : Int} {v : Value} : ∀ (l : List MapEntry) (n j : Nat) (v0 : Value), findJ l i n = some (n + j, v0) → ∀ i', findI (l.modify j fun e => { e with key := .int kd i, val := v }) i' = if i' = i then some v else findI l i'
  | [], n, j, v0, h, i' => by cases h
  | e :: r, n, j, v0, h, i' => by
    unfold findJ at h
    have step : ∀ (hne : ∀ q, e.key ≠ .int q i), findJ r i (n + 1) = some (n + j, v0) → findI ((e :: r).modify j fun e => { e with key := .int kd i, val := v }) i' = if i' = i then some v else findI (e :: r) i' := by
      intro hne h
      obtain ⟨d, e', q, h1, _⟩ := findJ_get h
      obtain ⟨j', rfl⟩ : ∃ j', j = j' + 1 := ⟨d, by omega⟩
      have ih := findI_modify (kd := kd) (v := v) r (n + 1) j' v0 (by rw [h]; congr 2; omega) i'
      rw [List.modify_succ_cons, findI_cons, findI_cons, ih]
      split
      · rename_i q' k hk
        by_cases h2 : i' = i
        · subst h2
          have : i' ≠ k := fun e => hne q' (by rw [hk, e])
          simp [this]
        · simp [h2]
      · by_cases h2 : i' = i <;> simp [h2]
    split at h
    · rename_i q k hk
      split at h
      · rename_i he
        subst he
        simp only [Option.some.injEq, Prod.mk.injEq] at h
        obtain rfl : j = 0 := by omega
        simp only [List.modify_zero_cons]
        rw [findI_cons, findI_cons, hk]
        by_cases h2 : i' = i <;> simp [h2]
      · rename_i hne
        exact step (fun q' e => hne (by rw [hk] at e; cases e; rfl)) h
    · rename_i hno
      exact step (fun q' e => hno _ _ e) h
theorem findI_push {kd : IntKind} {i : Int} {v : Value} {b : Nat} : ∀ (l : List MapEntry), findI l i = none → ∀ i', findI (l ++ [{ key := .int kd i, val := v, born := b }]) i' = if i' = i then some v else findI l i'
  | [], h, i' => by simp [findI_cons, findI_empty]
  | e :: r, h, i' => by
    have hk := findI_none h e (List.mem_cons_self ..)
    rw [findI_cons] at h
    rw [List.cons_append, findI_cons, findI_cons]
    split at h
    · rename_i q k hk'
      split at h
      · cases h
      · rename_i hne
        have ih := findI_push (kd := kd) (v := v) (b := b) r h i'
        by_cases h2 : i' = i
        · subst h2; simp [hk', hne, ih]
        · simp [hk', ih, h2]
    · rename_i hno
      have ih := findI_push (kd := kd) (v := v) (b := b) r h i'
      cases hkey : e.key <;> simp_all
theorem updI_ok {kd : IntKind} {es : Array MapEntry} {clk : Nat} (h : MapOk kd es clk) (i : Int) (v : Value) :
    MapOk kd (updI es clk kd i v).1 (updI es clk kd i v).2 ∧ ∀ i', findI (updI es clk kd i v).1.toList i' = if i' = i then some v else findI es.toList i' := by
  unfold updI
  cases hj : findJ es.toList i 0 with
  | some x =>
    obtain ⟨j, v0⟩ := x
    simp only
    obtain ⟨d, e, q, h1, h2, h3, h4⟩ := findJ_get hj
    obtain rfl : d = j := by omega
    have hmem := List.mem_of_getElem? h2
    have hkd : e.key = .int kd i := by
      obtain ⟨k, hk⟩ := h.keys e hmem
      rw [hk] at h3; cases h3; exact hk
    have m1 : ((es.modify d fun e => { e with key := .int kd i, val := v }).toList.map (·.key)) = es.toList.map (·.key) := by
      rw [Array.toList_modify]
      exact map_modify_same _ _ _ _ (fun e' he => by rw [h2] at he; cases he; exact hkd.symm)
    have m2 : ((es.modify d fun e => { e with key := .int kd i, val := v }).toList.map (·.born)) = es.toList.map (·.born) := by
      rw [Array.toList_modify]
      exact map_modify_same _ _ _ _ (fun e' he => rfl)
    refine ⟨⟨fun e' he => ?_, by rw [m1]; exact h.kdis, by rw [m2]; exact h.bdis, fun e' he => ?_⟩, fun i' => ?_⟩
    · have : e'.key ∈ es.toList.map (·.key) := by rw [← m1]; exact List.mem_map.2 ⟨e', he, rfl⟩
      obtain ⟨e2, h5, h6⟩ := List.mem_map.1 this
      obtain ⟨k, hk⟩ := h.keys e2 h5
      exact ⟨k, by rw [← h6, hk]⟩
    · have : e'.born ∈ es.toList.map (·.born) := by rw [← m2]; exact List.mem_map.2 ⟨e', he, rfl⟩
      obtain ⟨e2, h5, h6⟩ := List.mem_map.1 this
      rw [← h6]; exact h.born e2 h5
    · rw [Array.toList_modify]
      exact findI_modify es.toList 0 d v0 (by rw [hj, Nat.zero_add]) i'
  | none =>
    simp only
    have hno := findJ_none hj
    refine ⟨⟨fun e' he => ?_, ?_, ?_, fun e' he => ?_⟩, fun i' => ?_⟩
    · rw [Array.toList_push, List.mem_append, List.mem_singleton] at he
      rcases he with he | rfl
      · exact h.keys e' he
      · exact ⟨i, rfl⟩
    · rw [Array.toList_push, List.map_append, List.nodup_append]
      refine ⟨h.kdis, by simp, fun a ha b hb => ?_⟩
      obtain ⟨e2, h5, rfl⟩ := List.mem_map.1 ha
      simp only [List.map_cons, List.map_nil, List.mem_singleton] at hb
      subst hb
      exact hno e2 h5 kd
    · rw [Array.toList_push, List.map_append, List.nodup_append]
      refine ⟨h.bdis, by simp, fun a ha b hb => ?_⟩
      obtain ⟨e2, h5, rfl⟩ := List.mem_map.1 ha
      simp only [List.map_cons, List.map_nil, List.mem_singleton] at hb
      subst hb
      have := h.born e2 h5
      omega
    · rw [Array.toList_push, List.mem_append, List.mem_singleton] at he
      rcases he with he | rfl
      · have := h.born e' he; omega
      · exact Nat.lt_succ_self _
    · rw [Array.toList_push]
      exact findI_push es.toList (by unfold findI; rw [hj]; rfl) i'

/-! ### What the model runs -/
def setO (w : World) (b : Nat) (o : Obj) : World := { w with heap := w.heap.setIfInBounds b o }
theorem setO_same {w : World} {b : Nat} {x : Obj} (hb : w.heap[b]? = some x) (o : Obj) : (setO w b o).heap[b]? = some o := by
  have h := (Array.getElem?_eq_some_iff.1 hb).1
  simp [setO, h]
theorem keeps_setO (w : World) (b : Nat) (o : Obj) : Keeps (fun k => k = b) w (setO w b o) :=
  ⟨rfl, rfl, rfl, by simp [setO], fun k _ hk => by simp only [setO]; rw [Array.getElem?_setIfInBounds_ne (Ne.symm hk)]⟩
def noCells : Obj → Bool
  | .cells _ _ _ => false
  | _ => true
theorem run_getObj {P : Program} {w : World} {b : Nat} {o : Obj} (hb : w.heap[b]? = some o) (hn : noCells o = true := by rfl) : (getObj b).run P w = .ok o w := by
  cases o <;> simp_all [noCells, getObj, Sem.run]
theorem run_setObj {P : Program} {w : World} {b : Nat} {x : Obj} (hb : w.heap[b]? = some x) (o : Obj) (hn : noCells x = true := by rfl) : (setObj b o).run P w = .ok () (setO w b o) := by
  cases x <;> simp_all [noCells, setObj, Sem.run, setO]
section
variable {P : Program} {T kt e : TypeId} {kd : IntKind} {w : World} {b : Nat} {es : Array MapEntry} {clk : Nat}
theorem run_checkKey (hk : P.underlying kt = some (.int kd)) (em : Bool) (i : Int) (w : World) : (Instr.checkKey em 10000 kt (.int kd i)).run P w = .ok () w := by
  have : ∀ n, (Instr.checkKey em (n + 1) kt (.int kd i)).run P w = .ok () w := fun n => by
    simp [Instr.checkKey, underlying, hk]
  exact this 9999
theorem run_findKey (hk : P.underlying kt = some (.int kd)) (hm : MapOk kd es clk) (i : Int) (w : World) : (Instr.findKey kt (.int kd i) es.toList).run P w = .ok (findJ es.toList i 0) w := by
  have hu : (underlying kt).run P w = .ok (.int kd) w := by simp [underlying, hk]
  simp only [Instr.findKey, Sem.run_bind, hu, Result.andThen_ok, findNow_int es.toList 0 hm.keys, Sem.run_pure]
theorem run_lookup (hT : P.underlying T = some (.map kt e)) (hk : P.underlying kt = some (.int kd)) (hb : w.heap[b]? = some (.map es clk)) (hm : MapOk kd es clk) (i : Int) (ok : Bool) {z : Value} (hz : (zeroValue e).run P w = .ok z w) :
    (Instr.lookup T (.map (some b)) (.int kd i) ok).run P w = .ok (match findI es.toList i with
      | some v => if ok then .tuple #[v, .bool true] else v
      | none => if ok then .tuple #[z, .bool false] else z) w := by
  have hu : (underlying T).run P w = .ok (.map kt e) w := by simp [underlying, hT]
  simp only [Instr.lookup, Sem.run_bind, hu, Result.andThen_ok, run_getObj hb, Sem.run_pure, run_checkKey hk, run_findKey hk hm]
  unfold findI
  cases findJ es.toList i 0 with
  | none => simp only [Option.map_none, Sem.run_bind, hz, Result.andThen_ok, Sem.run_pure]
  | some x => obtain ⟨j, v⟩ := x; simp only [Option.map_some, Sem.run_bind, Result.andThen_ok, Sem.run_pure]
theorem run_mapUpdate (hT : P.underlying T = some (.map kt e)) (hk : P.underlying kt = some (.int kd)) (hb : w.heap[b]? = some (.map es clk)) (hm : MapOk kd es clk) (i : Int) (v : Value) :
    (Instr.mapUpdate T (.map (some b)) (.int kd i) v).run P w = .ok () (setO w b (.map (updI es clk kd i v).1 (updI es clk kd i v).2)) := by
  have hu : (underlying T).run P w = .ok (.map kt e) w := by simp [underlying, hT]
  simp only [Instr.mapUpdate, Sem.run_bind, hu, Result.andThen_ok, run_getObj hb, run_checkKey hk, run_findKey hk hm]
  unfold updI
  cases hj : findJ es.toList i 0 with
  | none => simp only [run_setObj hb]
  | some x =>
    obtain ⟨j, v0⟩ := x
    obtain ⟨d, e0, q, h1, h2, h3, h4⟩ := findJ_get hj
    obtain rfl : d = j := by omega
    have hkd : e0.key = .int kd i := by
      obtain ⟨k, hk⟩ := hm.keys e0 (List.mem_of_getElem? h2)
      rw [hk] at h3; cases h3; exact hk
    have hg : es[d]? = some e0 := by simpa using h2
    have hst : (Instr.keyThatStays (((es[d]?).map (·.key)).getD (.int kd i)) (.int kd i)).run P w = .ok (.int kd i) w := by
      rw [hg]
      simp only [Option.map_some, Option.getD_some, hkd, Instr.keyThatStays]
      have : Instr.sameBits 10000 (.int kd i) (.int kd i) = true := by simp [Instr.sameBits]
      rw [this]; rfl
    simp only [Sem.run_bind, hst, Result.andThen_ok, run_setObj hb]
theorem run_range (hT : P.underlying T = some (.map kt e)) (hb : w.heap[b]? = some (.map es clk)) :
    (Instr.range T (.map (some b))).run P w = .ok (.pointer (some ⟨w.heap.size, 0, none⟩)) (w.alloc (.mapIter (some b) clk #[] clk)) := by
  have hu : (underlying T).run P w = .ok (.map kt e) w := by simp [underlying, hT]
  simp only [Instr.range, Sem.run_bind, hu, Result.andThen_ok, run_getObj hb, Sem.run_pure, run_newObj, World.alloc_eq]
theorem run_next {r : Nat} {seen : Array Nat} (hb : w.heap[b]? = some (.map es clk)) (hr : w.heap[r]? = some (.mapIter (some b) clk seen clk)) (hborn : ∀ e ∈ es.toList, e.born < clk) (ty : TypeId) :
    ∃ w', (w' = w ∨ w' = w.drew) ∧ ((∃ x, x ∈ es.toList ∧ seen.contains x.born = false ∧ (Instr.next (.pointer (some ⟨r, 0, none⟩)) false ty).run P w = .ok (.tuple #[.bool true, x.key, x.val]) (setO w' r (.mapIter (some b) clk (seen.push x.born) clk))) ∨
      ((∀ x ∈ es.toList, seen.contains x.born = true) ∧ (Instr.next (.pointer (some ⟨r, 0, none⟩)) false ty).run P w = .ok (.tuple #[.bool false]) w')) := by
  have hg : (!seen.isEmpty && !es.isEmpty && es.all (fun x => decide (x.born ≥ clk))) = false := by
    cases he : es.isEmpty with
    | true => simp
    | false =>
      have hne : es.toList ≠ [] := by
        intro h
        have : es = #[] := by apply Array.ext'; simpa using h
        subst this; simp at he
      obtain ⟨x, l, hl⟩ := List.exists_cons_of_ne_nil hne
      have hx : x ∈ es.toList := by rw [hl]; exact List.mem_cons_self ..
      have : es.all (fun x => decide (x.born ≥ clk)) = false := by
        rw [Array.all_eq_false']
        exact ⟨x, by simpa using hx, by have := hborn x hx; simp; omega⟩
      rw [this]; simp
  have hold : (es.filter fun x => !seen.contains x.born).filter (fun x => decide (x.born < clk)) = es.filter fun x => !seen.contains x.born := by
    apply Array.ext'
    rw [Array.toList_filter, Array.toList_filter, List.filter_eq_self]
    intro x hx
    have := hborn x (List.mem_filter.1 hx).1
    simpa using this
  have hnew : (es.filter fun x => !seen.contains x.born).filter (fun x => decide (x.born ≥ clk)) = #[] := by
    apply Array.ext'
    rw [Array.toList_filter, Array.toList_filter]
    have : ((es.toList.filter fun x => !seen.contains x.born).filter fun x => decide (x.born ≥ clk)) = [] := by
      rw [List.filter_eq_nil_iff]
      intro x hx
      have := hborn x (List.mem_filter.1 hx).1
      simp; omega
    simpa using this
  have hmem : ∀ x, x ∈ (es.filter fun x => !seen.contains x.born).toList → x ∈ es.toList ∧ seen.contains x.born = false := fun x hx => by
    rw [Array.toList_filter, List.mem_filter] at hx
    exact ⟨hx.1, by simpa using hx.2⟩
  generalize hleft : (es.filter fun x => !seen.contains x.born) = left at *
  have hrun : (Instr.next (.pointer (some ⟨r, 0, none⟩)) false ty).run P w = ((choose (.mapNext ((if left.isEmpty then #[none] else #[]) ++ (left ++ #[]).map some).size)).run P w).andThen fun n w1 =>
      (match ((if left.isEmpty then #[none] else #[]) ++ (left ++ #[]).map some : Array (Option MapEntry))[n]? with
        | some (some x) => do setObj r (.mapIter (some b) clk (seen.push x.born) clk); pure (.tuple #[.bool true, x.key, x.val])
        | some none => pure (.tuple #[.bool false])
        | none => stuck "Next: no such candidate" : Sem Value).run P w1 := by
    simp only [Instr.next, Sem.run_bind, run_getObj hr, Result.andThen_ok, run_getObj hb, hg, Bool.false_eq_true, if_false, hold, hnew, Sem.run_pure, hleft]
    rfl
  rw [hrun]
  have hch : ∃ n w1, (choose (.mapNext ((if left.isEmpty then #[none] else #[]) ++ (left ++ #[]).map some).size)).run P w = .ok n w1 ∧ (w1 = w ∨ w1 = w.drew) ∧ n < ((if left.isEmpty then #[none] else #[]) ++ (left ++ #[]).map some : Array (Option MapEntry)).size := by
    have hpos : 0 < ((if left.isEmpty then #[none] else #[]) ++ (left ++ #[]).map some : Array (Option MapEntry)).size := by
      cases hl : left.isEmpty with
      | true => simp; omega
      | false =>
        simp only [Array.isEmpty_eq_false_iff] at hl
        have : 0 < left.size := Array.size_pos_iff.2 hl
        simp; omega
    generalize ((if left.isEmpty then #[none] else #[]) ++ (left ++ #[]).map some : Array (Option MapEntry)).size = m at hpos
    rw [run_choose]
    by_cases hf : (Question.mapNext m).forced = true
    · rw [if_pos hf]; exact ⟨0, w, rfl, .inl rfl, hpos⟩
    · rw [if_neg hf]; exact ⟨_, w.drew, rfl, .inr rfl, Nat.mod_lt _ hpos⟩
  obtain ⟨n, w1, h1, h2, h3⟩ := hch
  refine ⟨w1, h2, ?_⟩
  rw [h1]
  simp only [Result.andThen_ok]
  have hr1 : w1.heap[r]? = some (.mapIter (some b) clk seen clk) := by rcases h2 with rfl | rfl <;> exact hr
  cases hl : left.isEmpty with
  | true =>
    have hnil : left = #[] := by simpa using hl
    subst hnil
    have h0 : n = 0 := by simp at h3; exact h3
    subst h0
    right
    have hg0 : ((if true = true then #[none] else #[]) ++ (#[] ++ #[]).map some : Array (Option MapEntry))[0]? = some none := by simp
    refine ⟨fun x hx => ?_, by rw [hg0]; simp only [Sem.run_pure]⟩
    cases hc : seen.contains x.born with
    | true => rfl
    | false =>
      have : x ∈ (es.filter fun x => !seen.contains x.born).toList := by
        rw [Array.toList_filter, List.mem_filter]; exact ⟨hx, by show (!seen.contains x.born) = true; rw [hc]; rfl⟩
      rw [hleft] at this
      simp at this
  | false =>
    left
    have hn : n < left.size := by simpa [hl] using h3
    have hx : left[n] ∈ left.toList := by simp
    obtain ⟨k1, k2⟩ := hmem _ hx
    refine ⟨left[n], k1, k2, ?_⟩
    have hget : ((if false = true then #[none] else #[]) ++ (left ++ #[]).map some : Array (Option MapEntry))[n]? = some (some left[n]) := by
      simp [hn]
    rw [hget]
    simp only [Sem.run_bind, run_setObj hr1, Result.andThen_ok, Sem.run_pure]
theorem run_entry {r : Nat} {seen : Array Nat} {since : Nat} (hb : w.heap[b]? = some (.map es clk)) (hr : w.heap[r]? = some (.mapIter (some b) since seen clk)) (hm : MapOk kd es clk) {e : MapEntry} (he : e ∈ es.toList) (hs : seen.back? = some e.born) :
    (Instr.entry (.pointer (some ⟨r, 0, none⟩))).run P w = .ok (.tuple #[e.key, e.val]) w := by
  have hf : es.find? (fun x => x.born == e.born) = some e := by
    cases hx : es.find? (fun x => x.born == e.born) with
    | none =>
      rw [Array.find?_eq_none] at hx
      exact absurd (by simp) (hx e (by simpa using he))
    | some x =>
      have h1 := Array.find?_some hx
      have h2 := Array.mem_of_find?_eq_some hx
      have : x.born = e.born := by simpa using h1
      have key : ∀ {l : List MapEntry}, (l.map (·.born)).Nodup → x ∈ l → e ∈ l → x = e := by
        intro l
        induction l with
        | nil => intro _ h; cases h
        | cons y l ih =>
          intro hn hx he
          rw [List.map_cons, List.nodup_cons] at hn
          rcases List.mem_cons.1 hx with e1 | hx1 <;> rcases List.mem_cons.1 he with e2 | he1
          · rw [e1, e2]
          · subst e1; exact absurd (List.mem_map.2 ⟨e, he1, this.symm⟩) hn.1
          · subst e2; exact absurd (List.mem_map.2 ⟨x, hx1, this⟩) hn.1
          · exact ih hn.2 hx1 he1
      rw [key hm.bdis (by simpa using h2) he]
  simp only [Instr.entry, Sem.run_bind, run_getObj hr, Result.andThen_ok, hs, run_getObj hb, bne_self_eq_false, Bool.false_eq_true, if_false, hf, Sem.run_pure]
theorem run_clear {d : TypeDesc} (hT : P.underlying T = some d) (hb : w.heap[b]? = some (.map es clk)) (ty : TypeId) :
    (Builtin.clear_ #[T] ty #[.map (some b)]).run P w = .ok (.tuple #[]) (setO w b (.map #[] clk)) := by
  have hu : (underlying T).run P w = .ok d w := by simp [underlying, hT]
  simp only [Builtin.clear_, List.getElem?_toArray, List.getElem?_cons_zero, Sem.run_bind, hu, Result.andThen_ok, run_getObj hb, run_setObj hb, Sem.run_pure]
end

/-! ### In the executor -/
def lookupK (tt : List (Option TI)) (st : SS) (T : TypeId) (m x : SV) (ok : Bool) (k : SV → Prop) : Prop :=
  tyK tt T fun ti => match ti.und with
    | .map kt e => tyK tt kt fun ki => tyK tt e fun ei => (match ki.und with
      | .int kd => (match m with
        | .m r => objK r st.hp fun ob => (match ob with
          | .map es clk => intK x fun kd' i _ => kdK kd kd' (MapOk kd es clk ∧
              (∀ v, findI es.toList i = some v → (match ok with | true => k (.tup [.v v, .b true]) | false => k (.v v))) ∧
              (findI es.toList i = none → ∀ z : Value, z.cells.toList.map ofV = ei.zero → (match ok with | true => k (.tup [.v z, .b false]) | false => k (.v z))))
          | _ => False)
        | _ => False)
      | _ => False)
    | _ => False
theorem lookupK_elim {P : Program} {tt : List (Option TI)} (ht : TOk P tt) {st : SS} {T : TypeId} {m x : SV} {ok : Bool} {k : SV → Prop} (h : lookupK tt st T m x ok k) :
    ∃ y, k y ∧ ∀ ρ F a w, Base ρ F st a w → (Instr.lookup T (den ρ m) (den ρ x) ok).run P w = .ok (den ρ y) w := by
  obtain ⟨ti, hti, h1⟩ := tyK_elim h
  clear h
  have hT := tyFacts (ht T ti hti)
  split at h1
  · rename_i kt e hd
    obtain ⟨ki, hki, h2⟩ := tyK_elim h1
    clear h1
    obtain ⟨ei, hei, h3⟩ := tyK_elim h2
    clear h2
    have hK := tyFacts (ht kt ki hki)
    have hE := tyFacts (ht e ei hei)
    split at h3
    · rename_i kd hkd
      split at h3
      · rename_i r
        obtain ⟨ob, hm, h4⟩ := objK_elim h3
        clear h3
        split at h4
        · rename_i es clk
          obtain ⟨kd', i, kn, h5, h6⟩ := intK_elim h4
          clear h4
          obtain ⟨rfl, h7, h8, h9⟩ := kdK_elim h5
          have hTu : P.underlying T = some (.map kt e) := by rw [hT.und, hd]
          have hKu : P.underlying kt = some (.int kd) := by rw [hK.und, hkd]
          obtain ⟨i0, z, hi, hi1, hi2, hi3, hi4⟩ := hE.info
          have hz : ∀ w, (zeroValue e).run P w = .ok z w := fun w => by simp [zeroValue, typeInfo, hi, hi3]
          have run : ∀ ρ F a w, Base ρ F st a w → _ := fun ρ F a w hb => run_lookup (ok := ok) hTu hKu (hb.obj _ _ hm).2 h7 i (hz w)
          cases hf : findI es.toList i with
          | some v =>
            have h10 := h8 v hf
            cases ok with
            | true => exact ⟨_, h10, fun ρ F a w hb => by simp only [h6 ρ]; have := run ρ F a w hb; rw [hf] at this; exact this⟩
            | false => exact ⟨_, h10, fun ρ F a w hb => by simp only [h6 ρ]; have := run ρ F a w hb; rw [hf] at this; exact this⟩
          | none =>
            have h10 := h9 hf z hi4
            cases ok with
            | true => exact ⟨_, h10, fun ρ F a w hb => by simp only [h6 ρ]; have := run ρ F a w hb; rw [hf] at this; exact this⟩
            | false => exact ⟨_, h10, fun ρ F a w hb => by simp only [h6 ρ]; have := run ρ F a w hb; rw [hf] at this; exact this⟩
        · exact h4.elim
      · exact h3.elim
    · exact h3.elim
  · exact h1.elim
/-- A value that hangs on no names. -/
def valK (x : SV) (k : Value → Prop) : Prop :=
  match x with
  | .v x => k x
  | .b t => k (.bool t)
  | .k kd n => k (.int kd n)
  | .agg cs => plainsK cs fun vs => k (.agg ⟨vs⟩)
  | _ => False
theorem valK_elim {x : SV} {k : Value → Prop} (h : valK x k) : ∃ v, k v ∧ ∀ ρ, den ρ x = v := by
  unfold valK at h
  split at h
  · exact ⟨_, h, fun _ => rfl⟩
  · exact ⟨_, h, fun _ => rfl⟩
  · exact ⟨_, h, fun _ => rfl⟩
  · obtain ⟨vs, h1, h2⟩ := plainsK_elim h
    exact ⟨_, h1, fun ρ => by simp only [den, h2 ρ]⟩
  · exact h.elim
def mapUpdateK (tt : List (Option TI)) (st : SS) (T : TypeId) (m x v : SV) (k : SS → Prop) : Prop :=
  tyK tt T fun ti => match ti.und with
    | .map kt _ => tyK tt kt fun ki => (match ki.und with
      | .int kd => (match m with
        | .m r => objK r st.hp fun ob => (match ob with
          | .map es clk => intK x fun kd' i _ => kdK kd kd' (valK v fun val => MapOk kd es clk ∧
              ∀ es' clk', MapOk kd es' clk' → (∀ j, findI es'.toList j = if j = i then some val else findI es.toList j) → withO r (.map es' clk') st k)
          | _ => False)
        | _ => False)
      | _ => False)
    | _ => False
theorem mapUpdateK_elim {P : Program} {tt : List (Option TI)} (ht : TOk P tt) {st : SS} {T : TypeId} {m x v : SV} {k : SS → Prop} (h : mapUpdateK tt st T m x v k) {o : Oper} {M X V : Operand} (ho : o.op = .mapUpdate T M X V) (hd : o.dst = none)
    (hM : ∀ ρ F a w, Base ρ F st a w → a.eval M = den ρ m) (hX : ∀ ρ F a w, Base ρ F st a w → a.eval X = den ρ x) (hV : ∀ ρ F a w, Base ρ F st a w → a.eval V = den ρ v) : Stp P st o (fun _ => k) := by
  obtain ⟨ti, hti, h1⟩ := tyK_elim h
  clear h
  have hT := tyFacts (ht T ti hti)
  split at h1
  · rename_i kt e hd'
    obtain ⟨ki, hki, h2⟩ := tyK_elim h1
    clear h1
    have hK := tyFacts (ht kt ki hki)
    split at h2
    · rename_i kd hkd
      split at h2
      · rename_i r
        obtain ⟨ob, hm, h4⟩ := objK_elim h2
        clear h2
        split at h4
        · rename_i es clk
          obtain ⟨kd', i, kn, h5, h6⟩ := intK_elim h4
          clear h4
          obtain ⟨rfl, h7⟩ := kdK_elim h5
          obtain ⟨val, ⟨h8, h9⟩, h10⟩ := valK_elim h7
          have hTu : P.underlying T = some (.map kt e) := by rw [hT.und, hd']
          have hKu : P.underlying kt = some (.int kd) := by rw [hK.und, hkd]
          obtain ⟨u1, u2⟩ := updI_ok h8 i val
          refine Stp.upd (y := .b true) (ob' := .map (updI es clk kd i val).1 (updI es clk kd i val).2) hm (h9 _ _ u1 u2) fun ρ F a w hb hh => ?_
          have hb0 := hb ρ (Ag.refl _ _)
          have hobj := hb0.obj r _ hm
          refine ⟨setO w (ρ r) (.map (updI es clk kd i val).1 (updI es clk kd i val).2), (keeps_setO w (ρ r) _).mono fun k hk => (hobj.1 k).2 hk, fun ρ' hr => ?_, fun _ _ => rfl, .inr ⟨hd, ?_⟩⟩
          · have hobj' := (hb ρ' hr).obj r _ hm
            refine ⟨hobj'.1, ?_⟩
            rw [hr r (hh.shape.lt r _ hm)]
            exact setO_same hobj.2 _
          · simp only [execOp, ho, hM ρ F a w hb0, hX ρ F a w hb0, hV ρ F a w hb0, h6 ρ, h10 ρ, den, run_mapUpdate hTu hKu hobj.2 h8, Sem.run_bind, Result.andThen_ok, Sem.run_pure]
        · exact h4.elim
      · exact h2.elim
    · exact h2.elim
  · exact h1.elim
def clearK (tt : List (Option TI)) (st : SS) (T : TypeId) (m : SV) (k : SS → Prop) : Prop :=
  tyK tt T fun _ => match m with
    | .m r => objK r st.hp fun ob => (match ob with
      | .map _ clk => withO r (.map #[] clk) st k
      | _ => False)
    | _ => False
theorem clearK_elim {P : Program} {tt : List (Option TI)} (ht : TOk P tt) {st : SS} {T : TypeId} {m : SV} {k : SV → SS → Prop} (h : clearK tt st T m (k (.tup []))) {o : Oper} {M : Operand}
    (ho : o.op = .call { callee := .builtin .clear, args := #[M], argTypes := #[T] })
    (hM : ∀ ρ F a w, Base ρ F st a w → a.eval M = den ρ m) : Stp P st o k := by
  obtain ⟨ti, hti, h1⟩ := tyK_elim h
  clear h
  have hT := tyFacts (ht T ti hti)
  split at h1
  · rename_i r
    obtain ⟨ob, hm, h4⟩ := objK_elim h1
    clear h1
    split at h4
    · rename_i es clk
      refine Stp.upd (y := .tup []) (ob' := .map #[] clk) hm h4 fun ρ F a w hb hh => ?_
      have hb0 := hb ρ (Ag.refl _ _)
      have hobj := hb0.obj r _ hm
      refine ⟨setO w (ρ r) (.map #[] clk), (keeps_setO w (ρ r) _).mono fun k hk => (hobj.1 k).2 hk, fun ρ' hr => ?_, fun _ _ => rfl, .inl ?_⟩
      · have hobj' := (hb ρ' hr).obj r _ hm
        refine ⟨hobj'.1, ?_⟩
        rw [hr r (hh.shape.lt r _ hm)]
        exact setO_same hobj.2 _
      · have e := run_clear (P := P) hT.und hobj.2 o.type
        simp only [execOp, ho, resolve, Sem.run_bind, Sem.run_pure, Result.andThen_ok, invoke, builtin]
        simp [hM ρ F a w hb0, den, e]
    · exact h4.elim
  · exact h1.elim
def rangeK (tt : List (Option TI)) (st : SS) (T : TypeId) (m : SV) (k : SV → SS → Prop) : Prop :=
  tyK tt T fun ti => match ti.und with
    | .map _ _ => (match m with
      | .m r => objK r st.hp fun ob => (match ob with
        | .map _ clk => newK (.iter r clk #[] clk) st fun r' st' => k (.p r' 0) st'
        | _ => False)
      | _ => False)
    | _ => False
theorem rangeK_elim {P : Program} {tt : List (Option TI)} (ht : TOk P tt) {st : SS} {T : TypeId} {m : SV} {k : SV → SS → Prop} (h : rangeK tt st T m k) {o : Oper} {M : Operand} (ho : o.op = .range T M)
    (hM : ∀ ρ F a w, Base ρ F st a w → a.eval M = den ρ m) : Stp P st o k := by
  obtain ⟨ti, hti, h1⟩ := tyK_elim h
  clear h
  have hT := tyFacts (ht T ti hti)
  split at h1
  · rename_i kt e hd
    have hTu : P.underlying T = some (.map kt e) := by rw [hT.und, hd]
    split at h1
    · rename_i r
      obtain ⟨ob, hm, h4⟩ := objK_elim h1
      clear h1
      split at h4
      · rename_i es clk
        have h5 := newK_elim h4
        intro ρ F a w hb hh
        have hb0 := hb ρ (Ag.refl _ _)
        have hobj := hb0.obj r _ hm
        have hlt := hh.shape.lt r _ hm
        obtain ⟨h6, h7⟩ := hh.alloc (o := .iter r clk #[] clk) (ob := .mapIter (some (ρ r)) clk #[] clk) (fun ρ' hr => ⟨fun k => Iff.rfl, by rw [hr r hlt]; exact heap_alloc_new w _⟩)
        refine ⟨_, _, _, updR ρ st.nx w.heap.size, _, w.alloc (.mapIter (some (ρ r)) clk #[] clk), h5, .inl ?_, ?_, h6, Ag.updR ρ _, by omega, keeps_alloc _ w _, h7⟩
        · simp only [execOp, ho, Sem.run_bind, hM ρ F a w hb0, den, run_range hTu hobj.2, Result.andThen_ok, Sem.run_pure, updR_same]
        · intro ρ'' hr
          simp only [den]
          rw [hr st.nx (by omega)]
      · exact h4.elim
    · exact h1.elim
  · exact h1.elim
def entryK (st : SS) (it : SV) (k : SV → Prop) : Prop :=
  match it with
  | .p r 0 => objK r st.hp fun ob => (match ob with
    | .iter mr since seen stepped => objK mr st.hp fun om => (match om with
      | .map es clk => (stepped = clk ∧ MapOk .i64 es clk) ∧ ∃ x i, (x ∈ es.toList ∧ x.key = .int .i64 i ∧ seen.back? = some x.born) ∧ k (.tup [.v (.int .i64 i), .v x.val])
      | _ => False)
    | _ => False)
  | _ => False
theorem entryK_elim {P : Program} {st : SS} {it : SV} {k : SV → Prop} (h : entryK st it k) : ∃ y, k y ∧ ∀ ρ F a w, Base ρ F st a w → (Instr.entry (den ρ it)).run P w = .ok (den ρ y) w := by
  unfold entryK at h
  split at h
  · rename_i r
    obtain ⟨ob, hm, h1⟩ := objK_elim h
    clear h
    split at h1
    · rename_i mr since seen stepped
      obtain ⟨om, hmm, h2⟩ := objK_elim h1
      clear h1
      split at h2
      · obtain ⟨⟨hst, hok⟩, x, i, ⟨hx, hi, hs⟩, hk⟩ := h2
        subst hst
        refine ⟨_, hk, fun ρ F a w hb => ?_⟩
        simp only [den]
        rw [run_entry (hb.obj mr _ hmm).2 (hb.obj r _ hm).2 hok hx hs, hi]
        rfl
      · exact h2.elim
    · exact h1.elim
  · exact h.elim
def nextK (st : SS) (it : SV) (k : SV → SS → Prop) : Prop :=
  match it with
  | .p r 0 => objK r st.hp fun ob => (match ob with
    | .iter mr since seen stepped => objK mr st.hp fun om => (match om with
      | .map es clk => (since = clk ∧ stepped = clk ∧ MapOk .i64 es clk) ∧
          (∀ x i, x ∈ es.toList → x.key = .int .i64 i → seen.contains x.born = false → withO r (.iter mr since (seen.push x.born) stepped) st (k (.tup [.b true, .v (.int .i64 i), .v x.val]))) ∧
          ((∀ x ∈ es.toList, seen.contains x.born = true) → k (.tup [.b false]) st)
      | _ => False)
    | _ => False)
  | _ => False
theorem nextK_elim {P : Program} {st : SS} {it : SV} {k : SV → SS → Prop} (h : nextK st it k) {o : Oper} {I : Operand} (ho : o.op = .next I false)
    (hI : ∀ ρ F a w, Base ρ F st a w → a.eval I = den ρ it) : Stp P st o k := by
  unfold nextK at h
  split at h
  · rename_i r
    obtain ⟨ob, hm, h1⟩ := objK_elim h
    clear h
    split at h1
    · rename_i mr since seen stepped
      obtain ⟨om, hmm, h2⟩ := objK_elim h1
      clear h1
      split at h2
      · rename_i es clk
        obtain ⟨⟨rfl, rfl, hok⟩, hy, hn⟩ := h2
        intro ρ F a w hb hh
        have hb0 := hb ρ (Ag.refl _ _)
        have o1 := hb0.obj r _ hm
        have o2 := hb0.obj mr _ hmm
        have run : ∀ v w', (Instr.next (.pointer (some ⟨ρ r, 0, none⟩)) false o.type).run P w = .ok v w' → (execOp a.eval o).run P w = .ok (.value v) w' := fun v w' hr => by
          simp only [execOp, ho, Sem.run_bind, hI ρ F a w hb0, den, hr, Result.andThen_ok, Sem.run_pure]
        obtain ⟨w1, hw1, hc⟩ := run_next (P := P) o2.2 o1.2 hok.born o.type
        have hk1 : Keeps (F r) w w1 := by
          rcases hw1 with rfl | rfl
          · exact Keeps.refl _ _
          · exact keeps_drew _ w
        rcases hc with ⟨x, hx, hs, hrun⟩ | ⟨hall, hrun⟩
        · obtain ⟨i, hi⟩ := hok.keys x hx
          have h3 := hy x i hx hi hs
          rw [hi] at hrun
          obtain ⟨sl, hp, nx, fx⟩ := st
          obtain ⟨hp', h5, h6⟩ := setOK_elim h3
          have hk2 : Keeps (F r) w (setO w1 (ρ r) (.mapIter (some (ρ mr)) stepped (seen.push x.born) stepped)) := hk1.trans ((keeps_setO w1 (ρ r) _).mono fun k hk => (o1.1 k).2 hk) (fun j hj => .inl hj)
          have e1 : w1.heap[ρ r]? = w.heap[ρ r]? := by rcases hw1 with rfl | rfl <;> rfl
          obtain ⟨h7, h8⟩ := hh.upd h6 hk2 ⟨_, hm⟩ (fun ρ' hr => by
            have o1' := (hb ρ' hr).obj r _ hm
            have hr1 : ρ' r = ρ r := hr r (hh.shape.lt r _ hm)
            have hr2 : ρ' mr = ρ mr := hr mr (hh.shape.lt mr _ hmm)
            refine ⟨o1'.1, ?_⟩
            rw [hr1, hr2]
            exact setO_same (e1.trans o1.2) _)
          exact ⟨_, hp', nx, ρ, F, _, h5, .inl (run _ _ hrun), fun _ _ => rfl, h7, Ag.refl _ _, Nat.le_refl _, hk2.mono fun k hk => ⟨r, _, hm, hk⟩, fun k hk => .inl (h8 k hk)⟩
        · refine ⟨_, _, _, ρ, F, w1, hn hall, .inl (run _ _ hrun), fun _ _ => rfl, ?_, Ag.refl _ _, Nat.le_refl _, hk1.mono fun k hk => ⟨r, _, hm, hk⟩, fun k hk => .inl hk⟩
          rcases hw1 with rfl | rfl
          · exact hh
          · exact hh.drew
      · exact h2.elim
    · exact h1.elim
  · exact h.elim
end Go.Proofs.Ytekgjjanikicnaa.Sx
