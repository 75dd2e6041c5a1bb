/- The disk, plainly: its cache as the map has it, and a sync of it, entry by entry in any order. -/
import Derived.Test.YtekgjjanikicnaaDk1
namespace Go.Proofs.Ytekgjjanikicnaa.Sx
open Go
set_option linter.unusedSimpArgs false
set_option linter.unusedVariables false

theorem bv_inj {a b : UInt8} (h : bv a = bv b) : a = b := by
  simp only [bv, Value.int.injEq, true_and] at h
  exact UInt8.toNat_inj.1 (by omega)
theorem secV_inj {s t : Sec} (h : secV s = secV t) : s = t := by
  simp only [secV, Value.agg.injEq] at h
  have h : s.map bv = t.map bv := by simpa using h
  exact List.map_inj_right (fun a b => bv_inj) |>.1 h
/-- The entries of the map are what was written since. -/
structure Holds (es : Array MapEntry) (clk : Nat) (c : Int → Option Sec) : Prop where
  ok : MapOk .i64 es clk
  find : ∀ i, findI es.toList i = (c i).map secV
theorem Holds.empty (clk : Nat) : Holds #[] clk fun _ => none := ⟨MapOk.empty _ _, fun i => rfl⟩
theorem Holds.put {es : Array MapEntry} {clk : Nat} {c : Int → Option Sec} (h : Holds es clk c) {es' : Array MapEntry} {clk' : Nat} {i : Int} {b : Sec} (h1 : MapOk .i64 es' clk') (h2 : ∀ j, findI es'.toList j = if j = i then some (secV b) else findI es.toList j) :
    Holds es' clk' fun j => if j = i then some b else c j := by
  refine ⟨h1, fun j => ?_⟩
  rw [h2 j]
  split
  · rfl
  · exact h.find j
theorem Holds.get {es : Array MapEntry} {clk : Nat} {c : Int → Option Sec} (h : Holds es clk c) {i : Int} {v : Value} (hf : findI es.toList i = some v) : ∃ s, c i = some s ∧ v = secV s := by
  rw [h.find i] at hf
  cases hc : c i with
  | none => rw [hc] at hf; cases hf
  | some s => rw [hc] at hf; cases hf; exact ⟨s, rfl, rfl⟩
theorem Holds.miss {es : Array MapEntry} {clk : Nat} {c : Int → Option Sec} (h : Holds es clk c) {i : Int} (hf : findI es.toList i = none) : c i = none := by
  rw [h.find i] at hf
  cases hc : c i with
  | none => rfl
  | some s => rw [hc] at hf; cases hf
theorem Holds.entry {es : Array MapEntry} {clk : Nat} {c : Int → Option Sec} (h : Holds es clk c) {e : MapEntry} {i : Int} (he : e ∈ es.toList) (hk : e.key = .int .i64 i) : ∃ s, c i = some s ∧ e.val = secV s :=
  h.get (h.ok.find he hk)
def keyIs (e : MapEntry) (i : Int) : Bool := match e.key with | .int .i64 k => k == i | _ => false
theorem keyIs_iff {e : MapEntry} {i : Int} : keyIs e i = true ↔ e.key = .int .i64 i := by
  unfold keyIs
  split
  · rename_i k hk; rw [hk]; simp
  · rename_i h; constructor
    · intro h; cases h
    · intro e; exact absurd e (h i)
/-- What lasts, with the entries that were seen laid upon it. -/
def synced (es : Array MapEntry) (seen : Array Nat) (l : List Sec) (c : Int → Option Sec) : List Sec :=
  l.mapIdx fun i s => if es.toList.any (fun e => keyIs e (i : Int) && seen.contains e.born) = true then (c (i : Int)).getD s else s
theorem synced_any {es : Array MapEntry} {seen : Array Nat} {i : Int} : es.toList.any (fun e => keyIs e i && seen.contains e.born) = true ↔ ∃ e ∈ es.toList, e.key = .int .i64 i ∧ seen.contains e.born = true := by
  simp only [List.any_eq_true, Bool.and_eq_true, keyIs_iff]
theorem synced_length (es : Array MapEntry) (seen : Array Nat) (l : List Sec) (c : Int → Option Sec) : (synced es seen l c).length = l.length := by simp [synced]
theorem synced_get {es : Array MapEntry} {seen : Array Nat} {l : List Sec} {c : Int → Option Sec} {i : Nat} :
    (synced es seen l c)[i]? = l[i]?.map fun s => if es.toList.any (fun e => keyIs e (i : Int) && seen.contains e.born) = true then (c (i : Int)).getD s else s := by simp only [synced, List.getElem?_mapIdx]
theorem synced_start (es : Array MapEntry) (l : List Sec) (c : Int → Option Sec) : synced es #[] l c = l := by
  apply List.ext_getElem?
  intro i
  rw [synced_get]
  cases l[i]? with
  | none => rfl
  | some s => simp
theorem synced_end {es : Array MapEntry} {clk : Nat} {seen : Array Nat} {l : List Sec} {c : Int → Option Sec} (h : Holds es clk c) (hall : ∀ e ∈ es.toList, seen.contains e.born = true) : synced es seen l c = laid l c := by
  apply List.ext_getElem?
  intro i
  rw [synced_get, laid_get]
  cases l[i]? with
  | none => rfl
  | some s =>
    simp only [Option.map_some, Option.some.injEq]
    split
    · rfl
    · rename_i hno
      rw [synced_any] at hno
      cases hc : c (i : Int) with
      | none => rfl
      | some t =>
        have hf : findI es.toList (i : Int) = some (secV t) := by rw [h.find, hc]; rfl
        obtain ⟨e, he, hk, _⟩ := h.ok.entry hf
        exact absurd ⟨e, he, hk, hall e he⟩ hno
theorem nodup_map_inj {α β : Type} {f : α → β} : ∀ {l : List α}, (l.map f).Nodup → ∀ {a b : α}, a ∈ l → b ∈ l → f a = f b → a = b
  | x :: r, h, a, b, ha, hb, e => by
    rw [List.map_cons, List.nodup_cons] at h
    rcases List.mem_cons.1 ha with e1 | ha1 <;> rcases List.mem_cons.1 hb with e2 | hb1
    · rw [e1, e2]
    · subst e1; exact absurd (List.mem_map.2 ⟨b, hb1, e.symm⟩) h.1
    · subst e2; exact absurd (List.mem_map.2 ⟨a, ha1, e⟩) h.1
    · exact nodup_map_inj h.2 ha1 hb1 e
theorem synced_step {es : Array MapEntry} {clk : Nat} {seen : Array Nat} {l : List Sec} {c : Int → Option Sec} (h : Holds es clk c) {e : MapEntry} {i : Nat} {t : Sec} (he : e ∈ es.toList) (hk : e.key = .int .i64 (i : Int)) (hc : c (i : Int) = some t) :
    (synced es seen l c).set i t = synced es (seen.push e.born) l c := by
  apply List.ext_getElem?
  intro j
  rw [List.getElem?_set, synced_get, synced_get, synced_length]
  by_cases hij : i = j
  · subst hij
    rw [if_pos rfl]
    by_cases hl : i < l.length
    · rw [if_pos hl, List.getElem?_eq_getElem hl]
      simp only [Option.map_some, Option.some.injEq]
      rw [if_pos (synced_any.2 ⟨e, he, hk, by simp⟩), hc]; rfl
    · rw [if_neg hl, List.getElem?_eq_none (by omega)]; rfl
  · rw [if_neg hij]
    cases l[j]? with
    | none => rfl
    | some s =>
      simp only [Option.map_some, Option.some.injEq]
      have : (∃ e' ∈ es.toList, e'.key = .int .i64 (j : Int) ∧ seen.contains e'.born = true) ↔ (∃ e' ∈ es.toList, e'.key = .int .i64 (j : Int) ∧ (seen.push e.born).contains e'.born = true) := by
        constructor
        · rintro ⟨e', h1, h2, h3⟩
          exact ⟨e', h1, h2, by simp at h3 ⊢; exact .inl h3⟩
        · rintro ⟨e', h1, h2, h3⟩
          refine ⟨e', h1, h2, ?_⟩
          simp at h3 ⊢
          rcases h3 with h3 | h3
          · exact h3
          · have := nodup_map_inj h.ok.bdis h1 he h3
            subst this
            rw [hk] at h2
            simp only [Value.int.injEq, true_and] at h2
            exact absurd (by omega) hij
      rw [← synced_any, ← synced_any] at this
      simp only [this]
theorem unseen_lt {es : Array MapEntry} {seen : Array Nat} {e : MapEntry} (he : e ∈ es.toList) (hs : seen.contains e.born = false) :
    (es.toList.filter fun x => !(seen.push e.born).contains x.born).length < (es.toList.filter fun x => !seen.contains x.born).length := by
  have key : ∀ l : List MapEntry, (l.filter fun x => !(seen.push e.born).contains x.born).length ≤ (l.filter fun x => !seen.contains x.born).length ∧ (e ∈ l → (l.filter fun x => !(seen.push e.born).contains x.born).length < (l.filter fun x => !seen.contains x.born).length) := by
    intro l
    induction l with
    | nil => exact ⟨Nat.le_refl _, fun h => by cases h⟩
    | cons x r ih =>
      have imp : seen.contains x.born = true → (seen.push e.born).contains x.born = true := by
        intro h; simp at h ⊢; exact .inl h
      obtain ⟨h1, h2⟩ := ih
      cases hx : seen.contains x.born with
      | true =>
        have hx' := imp hx
        simp only [List.filter_cons, hx, hx', Bool.not_true, Bool.false_eq_true, if_false]
        refine ⟨h1, fun hm => ?_⟩
        rcases List.mem_cons.1 hm with rfl | hm
        · rw [hs] at hx; cases hx
        · exact h2 hm
      | false =>
        cases hx' : (seen.push e.born).contains x.born with
        | true =>
          simp only [List.filter_cons, hx, hx', Bool.not_true, Bool.not_false, Bool.false_eq_true, if_false, if_true, List.length_cons]
          exact ⟨by omega, fun _ => by omega⟩
        | false =>
          simp only [List.filter_cons, hx, hx', Bool.not_false, if_true, List.length_cons]
          refine ⟨by omega, fun hm => ?_⟩
          rcases List.mem_cons.1 hm with rfl | hm
          · simp at hx'
          · have := h2 hm; omega
  exact (key _).2 he
end Go.Proofs.Ytekgjjanikicnaa.Sx
