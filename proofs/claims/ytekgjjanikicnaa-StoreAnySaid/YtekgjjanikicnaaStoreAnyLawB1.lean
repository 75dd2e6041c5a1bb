/- Lemmas of this proof, part 1: 18 texts joined. -/
import Derived.Test.YtekgjjanikicnaaSxN
import Derived.Test.YtekgjjanikicnaaSxG
import Derived.Test.YtekgjjanikicnaaTT
import Derived.Lib.UnsafeStr
import Derived.Lib.Builder
import Derived.NoCompiler
import Derived.BigRegion
import Derived.WalkKit
import Derived.Laws.Externs
import Derived.Test.YtekgjjanikicnaaSxO
namespace Go.Proofs.Ytekgjjanikicnaa.Sx
open Go
set_option linter.unusedSimpArgs false
set_option linter.unusedVariables false

abbrev Sec := List UInt8
/-- A disk: what lasts, what was written since, the fuse, and is the power gone. -/
structure DS where
  l : List Sec
  c : Int → Option Sec
  fuse : Int
  down : Bool
def zsec : Sec := List.replicate 64 0
structure DS.Ok (d : DS) : Prop where
  sec : ∀ s ∈ d.l, s.length = 64
  cac : ∀ i s, d.c i = some s → (0 ≤ i ∧ i < (d.l.length : Int)) ∧ s.length = 64
  len : d.l.length ≤ 4096
  fus : -1 ≤ d.fuse ∧ d.fuse < 9223372036854775808
def DS.new (n : Nat) : DS := ⟨List.replicate n zsec, fun _ => none, -1, false⟩
theorem DS.new_ok {n : Nat} (h : n ≤ 4096) : (DS.new n).Ok :=
  ⟨fun s hs => by rw [List.eq_of_mem_replicate hs]; rfl, fun i s h => (by cases h), by simpa [DS.new] using h, by simp [DS.new]⟩
def DS.get (d : DS) (i : Nat) : Sec := (d.c i).getD (d.l.getD i [])
theorem DS.Ok.get_length {d : DS} (h : d.Ok) {i : Nat} (hi : i < d.l.length) : (d.get i).length = 64 := by
  unfold DS.get
  cases hc : d.c i with
  | some s => exact (h.cac _ _ hc).2
  | none =>
    simp only [Option.getD_none, List.getD_eq_getElem?_getD, List.getElem?_eq_getElem hi, Option.getD_some]
    exact h.sec _ (List.getElem_mem _)
/-- The fuse burns; is it out? -/
def DS.out (d : DS) : Bool := decide (d.fuse = 0)
def DS.burnt (d : DS) : DS := if d.fuse = 0 then { d with down := true } else if 0 < d.fuse then { d with fuse := d.fuse - 1 } else d
def DS.put (d : DS) (i : Int) (b : Sec) : DS := { d with c := fun j => if j = i then some b else d.c j }
def DS.write (d : DS) (i : Int) (b : Sec) : Int × DS :=
  if d.down = true then (6, d)
  else if ¬ (0 ≤ i ∧ i < (d.l.length : Int)) then (3, d)
  else if b.length ≠ 64 then (1, d)
  else if d.fuse = 0 then (6, d.burnt)
  else (0, d.burnt.put i b)
/-- What lasts, with what was written laid upon it. -/
def laid (l : List Sec) (c : Int → Option Sec) : List Sec := l.mapIdx fun i s => (c (i : Int)).getD s
def DS.sync (d : DS) : Int × DS :=
  if d.down = true then (6, d)
  else if d.fuse = 0 then (6, d.burnt)
  else (0, { d.burnt with l := laid d.l d.c, c := fun _ => none })
def DS.setFuse (d : DS) (n : Int) : DS := { d with fuse := max n (-1) }
/-- What a crash leaves of a sector that was written, the k-th of those. -/
def left (k : Nat) (keep : List Bool) (torn at_ : Int) (s t : Sec) : Sec :=
  if (k : Int) = torn then (if 0 ≤ at_ then t.take (at_ % 65).toNat ++ s.drop (at_ % 65).toNat else s)
  else if keep[k]? = some true then t else s
def crashGo (c : Int → Option Sec) (keep : List Bool) (torn at_ : Int) : List Sec → Nat → Nat → List Sec
  | [], _, _ => []
  | s :: r, i, k => match c (i : Int) with
    | none => s :: crashGo c keep torn at_ r (i + 1) k
    | some t => left k keep torn at_ s t :: crashGo c keep torn at_ r (i + 1) (k + 1)
def DS.crash (d : DS) (keep : List Bool) (torn at_ : Int) : DS := ⟨crashGo d.c keep torn at_ d.l 0 0, fun _ => none, -1, false⟩
theorem laid_length (l : List Sec) (c : Int → Option Sec) : (laid l c).length = l.length := by simp [laid]
theorem laid_get {l : List Sec} {c : Int → Option Sec} {i : Nat} : (laid l c)[i]? = l[i]?.map fun s => (c (i : Int)).getD s := by simp [laid, List.getElem?_mapIdx]
theorem DS.burnt_l (d : DS) : d.burnt.l = d.l := by unfold DS.burnt; split; rfl; split <;> rfl
theorem DS.burnt_c (d : DS) : d.burnt.c = d.c := by unfold DS.burnt; split; rfl; split <;> rfl
theorem DS.Ok.burnt {d : DS} (h : d.Ok) : d.burnt.Ok := by
  refine ⟨by rw [d.burnt_l]; exact h.sec, by rw [d.burnt_l, d.burnt_c]; exact h.cac, by rw [d.burnt_l]; exact h.len, ?_⟩
  have := h.fus
  unfold DS.burnt
  split
  · exact this
  · split
    · simp only; omega
    · exact this
theorem DS.Ok.put {d : DS} (h : d.Ok) {i : Int} {b : Sec} (hi : 0 ≤ i ∧ i < (d.l.length : Int)) (hb : b.length = 64) : (d.put i b).Ok := by
  refine ⟨h.sec, fun j s hj => ?_, h.len, h.fus⟩
  simp only [DS.put] at hj
  split at hj
  · rename_i e; cases hj; subst e; exact ⟨hi, hb⟩
  · exact h.cac j s hj
theorem DS.Ok.write {d : DS} (h : d.Ok) (i : Int) (b : Sec) : (d.write i b).2.Ok := by
  unfold DS.write
  repeat' split
  · exact h
  · exact h
  · exact h
  · exact h.burnt
  · rename_i h1 h2 h3 h4
    exact h.burnt.put (by rw [d.burnt_l]; omega) (by omega)
theorem laid_sec {l : List Sec} {c : Int → Option Sec} (h1 : ∀ s ∈ l, s.length = 64) (h2 : ∀ i s, c i = some s → s.length = 64) : ∀ s ∈ laid l c, s.length = 64 := by
  intro s hs
  obtain ⟨i, hi⟩ := List.getElem?_of_mem hs
  rw [laid_get] at hi
  cases hl : l[i]? with
  | none => rw [hl] at hi; cases hi
  | some t =>
    rw [hl] at hi
    simp only [Option.map_some, Option.some.injEq] at hi
    subst hi
    cases hc : c (i : Int) with
    | none => exact h1 _ (List.mem_of_getElem? hl)
    | some u => exact h2 _ _ hc
theorem DS.Ok.sync {d : DS} (h : d.Ok) : d.sync.2.Ok := by
  unfold DS.sync
  repeat' split
  · exact h
  · exact h.burnt
  · exact ⟨laid_sec h.sec fun i s hc => (h.cac i s hc).2, fun i s hc => (by cases hc), by simpa [laid_length] using h.len, h.burnt.fus⟩
theorem DS.Ok.setFuse {d : DS} (h : d.Ok) {n : Int} (hn : n < 9223372036854775808) : (d.setFuse n).Ok := ⟨h.sec, h.cac, h.len, by simp only [DS.setFuse]; omega⟩
theorem left_length {k : Nat} {keep : List Bool} {torn at_ : Int} {s t : Sec} (hs : s.length = 64) (ht : t.length = 64) : (left k keep torn at_ s t).length = 64 := by
  unfold left
  repeat' split
  · rw [List.length_append, List.length_take, List.length_drop, hs, ht]; omega
  · exact hs
  · exact ht
  · exact hs
theorem crashGo_length (c : Int → Option Sec) (keep : List Bool) (torn at_ : Int) : ∀ (l : List Sec) (i k : Nat), (crashGo c keep torn at_ l i k).length = l.length
  | [], i, k => rfl
  | s :: r, i, k => by
    unfold crashGo
    split <;> simp [crashGo_length c keep torn at_ r]
theorem crashGo_sec {c : Int → Option Sec} {keep : List Bool} {torn at_ : Int} (h2 : ∀ i s, c i = some s → s.length = 64) : ∀ (l : List Sec) (i k : Nat), (∀ s ∈ l, s.length = 64) → ∀ s ∈ crashGo c keep torn at_ l i k, s.length = 64
  | [], i, k, h1, s, hs => by cases hs
  | x :: r, i, k, h1, s, hs => by
    have hx := h1 x (List.mem_cons_self ..)
    have hr : ∀ s ∈ r, s.length = 64 := fun s hs => h1 s (List.mem_cons_of_mem _ hs)
    unfold crashGo at hs
    split at hs
    · rcases List.mem_cons.1 hs with rfl | hs
      · exact hx
      · exact crashGo_sec h2 r _ _ hr s hs
    · rename_i t hc
      rcases List.mem_cons.1 hs with rfl | hs
      · exact left_length hx (h2 _ _ hc)
      · exact crashGo_sec h2 r _ _ hr s hs
theorem DS.Ok.crash {d : DS} (h : d.Ok) (keep : List Bool) (torn at_ : Int) : (d.crash keep torn at_).Ok :=
  ⟨crashGo_sec (fun i s hc => (h.cac i s hc).2) _ _ _ h.sec, fun i s hc => (by cases hc), by simpa [DS.crash, crashGo_length] using h.len, by simp [DS.crash]⟩
/-- All is kept: all lasts. -/
theorem crash_all {c : Int → Option Sec} {m : Nat} {at_ : Int} : ∀ (l : List Sec) (i k : Nat), k ≤ i → i + l.length ≤ m → crashGo c (List.replicate m true) (-1) at_ l i k = l.mapIdx fun j s => (c ((i + j : Nat) : Int)).getD s
  | [], i, k, hk, hm => rfl
  | s :: r, i, k, hk, hm => by
    simp only [List.length_cons] at hm
    rw [List.mapIdx_cons]
    unfold crashGo
    have e : (fun (j : Nat) (s : Sec) => (c ((i + (j + 1) : Nat) : Int)).getD s) = fun j s => (c ((i + 1 + j : Nat) : Int)).getD s := by
      funext j s; rw [show i + (j + 1) = i + 1 + j by omega]
    split
    · rename_i hc
      rw [crash_all r (i + 1) k (by omega) (by omega)]
      simp only [Nat.add_zero, hc, Option.getD_none, e]
    · rename_i t hc
      rw [crash_all r (i + 1) (k + 1) (by omega) (by omega)]
      have hl : left k (List.replicate m true) (-1) at_ s t = t := by
        unfold left
        rw [if_neg (show ¬ (k : Int) = -1 by omega), if_pos (show (List.replicate m true)[k]? = some true by rw [List.getElem?_replicate, if_pos (by omega)])]
      simp only [Nat.add_zero, hc, Option.getD_some, hl, e]
theorem crash_all0 {c : Int → Option Sec} {m : Nat} {at_ : Int} (l : List Sec) (h : l.length ≤ m) : crashGo c (List.replicate m true) (-1) at_ l 0 0 = laid l c := by
  rw [crash_all l 0 0 (Nat.le_refl _) (by omega)]
  simp [laid]
/-- Nothing is kept. -/
theorem crash_none {c : Int → Option Sec} {at_ : Int} : ∀ (l : List Sec) (i k : Nat), crashGo c [] (-1) at_ l i k = l
  | [], i, k => rfl
  | s :: r, i, k => by
    unfold crashGo
    split
    · rw [crash_none r]
    · rw [crash_none r]
      have : left k [] (-1) at_ s ‹_› = s := by
        unfold left
        rw [if_neg (show ¬ (k : Int) = -1 by omega), if_neg (by simp)]
      rw [this]
/-- The cells of the sectors, one behind the other. -/
def flat (l : List Sec) : List Value := l.flatMap fun s => s.map bv
theorem flat_length {l : List Sec} (h : ∀ s ∈ l, s.length = 64) : (flat l).length = 64 * l.length := by
  unfold flat
  induction l with
  | nil => rfl
  | cons s r ih =>
    rw [List.flatMap_cons, List.length_append, ih fun s hs => h s (List.mem_cons_of_mem _ hs), List.length_map, h s (List.mem_cons_self ..), List.length_cons]
    omega
theorem flat_get : ∀ {l : List Sec} {i : Nat} {s : Sec}, (∀ s ∈ l, s.length = 64) → l[i]? = some s → ((flat l).drop (i * 64)).take 64 = s.map bv
  | x :: r, 0, s, h, hi => by
    simp only [List.getElem?_cons_zero, Option.some.injEq] at hi
    subst hi
    simp only [flat, List.flatMap_cons, Nat.zero_mul, List.drop_zero]
    rw [List.take_left' (by rw [List.length_map, h x (List.mem_cons_self ..)])]
  | x :: r, i + 1, s, h, hi => by
    have hx : (x.map bv).length = 64 := by rw [List.length_map, h x (List.mem_cons_self ..)]
    have ih := flat_get (l := r) (i := i) (fun s hs => h s (List.mem_cons_of_mem _ hs)) (by simpa using hi)
    simp only [flat, List.flatMap_cons] at ih ⊢
    rw [show (i + 1) * 64 = 64 + i * 64 by omega, ← List.drop_drop, List.drop_left' hx]
    exact ih
theorem flat_set : ∀ {l : List Sec} {i : Nat} (t : Sec), (∀ s ∈ l, s.length = 64) → i < l.length → t.length = 64 → splice (flat l) (i * 64) (t.map bv) = flat (l.set i t)
  | x :: r, 0, t, h, hi, ht => by
    have hx : (x.map bv).length = 64 := by rw [List.length_map, h x (List.mem_cons_self ..)]
    simp only [splice, flat, List.flatMap_cons, Nat.zero_mul, List.take_zero, List.nil_append, List.length_map, ht, Nat.zero_add, List.set_cons_zero]
    rw [List.drop_left' hx]
  | x :: r, i + 1, t, h, hi, ht => by
    have hx : (x.map bv).length = 64 := by rw [List.length_map, h x (List.mem_cons_self ..)]
    have ih := flat_set (l := r) (i := i) t (fun s hs => h s (List.mem_cons_of_mem _ hs)) (by simpa using hi) ht
    simp only [splice, flat, List.flatMap_cons, List.set_cons_succ] at ih ⊢
    rw [← ih, show (i + 1) * 64 = 64 + i * 64 by omega, List.take_append, List.take_of_length_le (by omega), hx, show 64 + i * 64 + (t.map bv).length = 64 + (i * 64 + (t.map bv).length) by omega, ← List.drop_drop, List.drop_left' hx]
    simp [List.append_assoc]
def secV (s : Sec) : Value := .agg ⟨s.map bv⟩
theorem bv_one (b : UInt8) : (bv b).oneCell' = true := rfl
theorem secV_ok {s : Sec} (h : s.length = 64) : aggOk ⟨s.map bv⟩ 64 := by
  refine ⟨by simpa using h, fun u hu => ?_⟩
  simp only [List.mem_map] at hu
  obtain ⟨b, _, rfl⟩ := hu
  rfl
end Go.Proofs.Ytekgjjanikicnaa.Sx

namespace Go.Proofs.Ytekgjjanikicnaa.Sx
open Go
set_option linter.unusedSimpArgs false
set_option linter.unusedVariables false

theorem bv_inj {a b : UInt8} (h : bv a = bv b) : a = b := by
  simp only [bv, Value.int.injEq, true_and] at h
  exact UInt8.toNat_inj.1 (by omega)
theorem secV_inj {s t : Sec} (h : secV s = secV t) : s = t := by
  simp only [secV, Value.agg.injEq] at h
  have h : s.map bv = t.map bv := by simpa using h
  exact List.map_inj_right (fun a b => bv_inj) |>.1 h
/-- The entries of the map are what was written since. -/
structure Holds (es : Array MapEntry) (clk : Nat) (c : Int → Option Sec) : Prop where
  ok : MapOk .i64 es clk
  find : ∀ i, findI es.toList i = (c i).map secV
theorem Holds.empty (clk : Nat) : Holds #[] clk fun _ => none := ⟨MapOk.empty _ _, fun i => rfl⟩
theorem Holds.put {es : Array MapEntry} {clk : Nat} {c : Int → Option Sec} (h : Holds es clk c) {es' : Array MapEntry} {clk' : Nat} {i : Int} {b : Sec} (h1 : MapOk .i64 es' clk') (h2 : ∀ j, findI es'.toList j = if j = i then some (secV b) else findI es.toList j) :
    Holds es' clk' fun j => if j = i then some b else c j := by
  refine ⟨h1, fun j => ?_⟩
  rw [h2 j]
  split
  · rfl
  · exact h.find j
theorem Holds.get {es : Array MapEntry} {clk : Nat} {c : Int → Option Sec} (h : Holds es clk c) {i : Int} {v : Value} (hf : findI es.toList i = some v) : ∃ s, c i = some s ∧ v = secV s := by
  rw [h.find i] at hf
  cases hc : c i with
  | none => rw [hc] at hf; cases hf
  | some s => rw [hc] at hf; cases hf; exact ⟨s, rfl, rfl⟩
theorem Holds.miss {es : Array MapEntry} {clk : Nat} {c : Int → Option Sec} (h : Holds es clk c) {i : Int} (hf : findI es.toList i = none) : c i = none := by
  rw [h.find i] at hf
  cases hc : c i with
  | none => rfl
  | some s => rw [hc] at hf; cases hf
theorem Holds.entry {es : Array MapEntry} {clk : Nat} {c : Int → Option Sec} (h : Holds es clk c) {e : MapEntry} {i : Int} (he : e ∈ es.toList) (hk : e.key = .int .i64 i) : ∃ s, c i = some s ∧ e.val = secV s :=
  h.get (h.ok.find he hk)
def keyIs (e : MapEntry) (i : Int) : Bool := match e.key with | .int .i64 k => k == i | _ => false
theorem keyIs_iff {e : MapEntry} {i : Int} : keyIs e i = true ↔ e.key = .int .i64 i := by
  unfold keyIs
  split
  · rename_i k hk; rw [hk]; simp
  · rename_i h; constructor
    · intro h; cases h
    · intro e; exact absurd e (h i)
/-- What lasts, with the entries that were seen laid upon it. -/
def synced (es : Array MapEntry) (seen : Array Nat) (l : List Sec) (c : Int → Option Sec) : List Sec :=
  l.mapIdx fun i s => if es.toList.any (fun e => keyIs e (i : Int) && seen.contains e.born) = true then (c (i : Int)).getD s else s
theorem synced_any {es : Array MapEntry} {seen : Array Nat} {i : Int} : es.toList.any (fun e => keyIs e i && seen.contains e.born) = true ↔ ∃ e ∈ es.toList, e.key = .int .i64 i ∧ seen.contains e.born = true := by
  simp only [List.any_eq_true, Bool.and_eq_true, keyIs_iff]
theorem synced_length (es : Array MapEntry) (seen : Array Nat) (l : List Sec) (c : Int → Option Sec) : (synced es seen l c).length = l.length := by simp [synced]
theorem synced_get {es : Array MapEntry} {seen : Array Nat} {l : List Sec} {c : Int → Option Sec} {i : Nat} :
    (synced es seen l c)[i]? = l[i]?.map fun s => if es.toList.any (fun e => keyIs e (i : Int) && seen.contains e.born) = true then (c (i : Int)).getD s else s := by simp only [synced, List.getElem?_mapIdx]
theorem synced_start (es : Array MapEntry) (l : List Sec) (c : Int → Option Sec) : synced es #[] l c = l := by
  apply List.ext_getElem?
  intro i
  rw [synced_get]
  cases l[i]? with
  | none => rfl
  | some s => simp
theorem synced_end {es : Array MapEntry} {clk : Nat} {seen : Array Nat} {l : List Sec} {c : Int → Option Sec} (h : Holds es clk c) (hall : ∀ e ∈ es.toList, seen.contains e.born = true) : synced es seen l c = laid l c := by
  apply List.ext_getElem?
  intro i
  rw [synced_get, laid_get]
  cases l[i]? with
  | none => rfl
  | some s =>
    simp only [Option.map_some, Option.some.injEq]
    split
    · rfl
    · rename_i hno
      rw [synced_any] at hno
      cases hc : c (i : Int) with
      | none => rfl
      | some t =>
        have hf : findI es.toList (i : Int) = some (secV t) := by rw [h.find, hc]; rfl
        obtain ⟨e, he, hk, _⟩ := h.ok.entry hf
        exact absurd ⟨e, he, hk, hall e he⟩ hno
theorem nodup_map_inj {α β : Type} {f : α → β} : ∀ {l : List α}, (l.map f).Nodup → ∀ {a b : α}, a ∈ l → b ∈ l → f a = f b → a = b
  | x :: r, h, a, b, ha, hb, e => by
    rw [List.map_cons, List.nodup_cons] at h
    rcases List.mem_cons.1 ha with e1 | ha1 <;> rcases List.mem_cons.1 hb with e2 | hb1
    · rw [e1, e2]
    · subst e1; exact absurd (List.mem_map.2 ⟨b, hb1, e.symm⟩) h.1
    · subst e2; exact absurd (List.mem_map.2 ⟨a, ha1, e⟩) h.1
    · exact nodup_map_inj h.2 ha1 hb1 e
theorem synced_step {es : Array MapEntry} {clk : Nat} {seen : Array Nat} {l : List Sec} {c : Int → Option Sec} (h : Holds es clk c) {e : MapEntry} {i : Nat} {t : Sec} (he : e ∈ es.toList) (hk : e.key = .int .i64 (i : Int)) (hc : c (i : Int) = some t) :
    (synced es seen l c).set i t = synced es (seen.push e.born) l c := by
  apply List.ext_getElem?
  intro j
  rw [List.getElem?_set, synced_get, synced_get, synced_length]
  by_cases hij : i = j
  · subst hij
    rw [if_pos rfl]
    by_cases hl : i < l.length
    · rw [if_pos hl, List.getElem?_eq_getElem hl]
      simp only [Option.map_some, Option.some.injEq]
      rw [if_pos (synced_any.2 ⟨e, he, hk, by simp⟩), hc]; rfl
    · rw [if_neg hl, List.getElem?_eq_none (by omega)]; rfl
  · rw [if_neg hij]
    cases l[j]? with
    | none => rfl
    | some s =>
      simp only [Option.map_some, Option.some.injEq]
      have : (∃ e' ∈ es.toList, e'.key = .int .i64 (j : Int) ∧ seen.contains e'.born = true) ↔ (∃ e' ∈ es.toList, e'.key = .int .i64 (j : Int) ∧ (seen.push e.born).contains e'.born = true) := by
        constructor
        · rintro ⟨e', h1, h2, h3⟩
          exact ⟨e', h1, h2, by simp at h3 ⊢; exact .inl h3⟩
        · rintro ⟨e', h1, h2, h3⟩
          refine ⟨e', h1, h2, ?_⟩
          simp at h3 ⊢
          rcases h3 with h3 | h3
          · exact h3
          · have := nodup_map_inj h.ok.bdis h1 he h3
            subst this
            rw [hk] at h2
            simp only [Value.int.injEq, true_and] at h2
            exact absurd (by omega) hij
      rw [← synced_any, ← synced_any] at this
      simp only [this]
theorem unseen_lt {es : Array MapEntry} {seen : Array Nat} {e : MapEntry} (he : e ∈ es.toList) (hs : seen.contains e.born = false) :
    (es.toList.filter fun x => !(seen.push e.born).contains x.born).length < (es.toList.filter fun x => !seen.contains x.born).length := by
  have key : ∀ l : List MapEntry, (l.filter fun x => !(seen.push e.born).contains x.born).length ≤ (l.filter fun x => !seen.contains x.born).length ∧ (e ∈ l → (l.filter fun x => !(seen.push e.born).contains x.born).length < (l.filter fun x => !seen.contains x.born).length) := by
    intro l
    induction l with
    | nil => exact ⟨Nat.le_refl _, fun h => by cases h⟩
    | cons x r ih =>
      have imp : seen.contains x.born = true → (seen.push e.born).contains x.born = true := by
        intro h; simp at h ⊢; exact .inl h
      obtain ⟨h1, h2⟩ := ih
      cases hx : seen.contains x.born with
      | true =>
        have hx' := imp hx
        simp only [List.filter_cons, hx, hx', Bool.not_true, Bool.false_eq_true, if_false]
        refine ⟨h1, fun hm => ?_⟩
        rcases List.mem_cons.1 hm with rfl | hm
        · rw [hs] at hx; cases hx
        · exact h2 hm
      | false =>
        cases hx' : (seen.push e.born).contains x.born with
        | true =>
          simp only [List.filter_cons, hx, hx', Bool.not_true, Bool.not_false, Bool.false_eq_true, if_false, if_true, List.length_cons]
          exact ⟨by omega, fun _ => by omega⟩
        | false =>
          simp only [List.filter_cons, hx, hx', Bool.not_false, if_true, List.length_cons]
          refine ⟨by omega, fun hm => ?_⟩
          rcases List.mem_cons.1 hm with rfl | hm
          · simp at hx'
          · have := h2 hm; omega
  exact (key _).2 he
end Go.Proofs.Ytekgjjanikicnaa.Sx

namespace Go.Proofs.Ytekgjjanikicnaa.Sx
open Go
set_option linter.unusedSimpArgs false
set_option linter.unusedVariables false

def DS.inb (d : DS) (i : Int) : Bool := decide (0 ≤ i ∧ i < (d.l.length : Int))
/-- How a read ends. -/
def DS.rerr (d : DS) (i : Int) : Int := if d.down = true then 6 else if d.inb i = true then 0 else 3
def DS.putS (d : DS) (i : Int) (b : Sec) : Int × DS := if (d.write i b).1 = 0 then (d.write i b).2.sync else d.write i b
def DS.putN (d : DS) (i : Int) (b : Sec) : Nat → Int × DS
  | 0 => (0, d)
  | n + 1 => if (d.putS i b).1 = 0 then (d.putS i b).2.putN (i + 1) b n else d.putS i b
def pad (b : Sec) : Sec := b ++ List.replicate (64 - b.length) 0
theorem pad_length {b : Sec} (h : b.length ≤ 64) : (pad b).length = 64 := by simp [pad]; omega
def DS.save (d : DS) (at_ : Int) (b : Sec) : Int × DS := if 64 < b.length then (1, d) else d.putN at_ (pad b) 3
/-- How a read of three ends. -/
def DS.lerr (d : DS) (at_ : Int) : Int := if d.rerr at_ ≠ 0 then d.rerr at_ else if d.rerr (at_ + 1) ≠ 0 then d.rerr (at_ + 1) else d.rerr (at_ + 2)
def val3 (x y z : Sec) : Sec := if y = z then z else x
def DS.val (d : DS) (at_ : Int) : Sec := val3 (d.get at_.toNat) (d.get (at_ + 1).toNat) (d.get (at_ + 2).toNat)
/-- What is left to be mended: the sectors as they were read. -/
def DS.fix (d : DS) (i : Int) (v : Sec) : List Sec → Int × DS
  | [] => (0, d)
  | x :: r => if x = v then d.fix (i + 1) v r else if (d.putS i v).1 = 0 then (d.putS i v).2.fix (i + 1) v r else d.putS i v
def DS.mend (d : DS) (at_ : Int) : Int × DS :=
  if d.lerr at_ ≠ 0 then (d.lerr at_, d) else d.fix at_ (d.val at_) [d.get at_.toNat, d.get (at_ + 1).toNat, d.get (at_ + 2).toNat]
theorem DS.Ok.putS {d : DS} (h : d.Ok) (i : Int) (b : Sec) : (d.putS i b).2.Ok := by
  unfold DS.putS
  split
  · exact (h.write i b).sync
  · exact h.write i b
theorem DS.Ok.putN {d : DS} (h : d.Ok) (i : Int) (b : Sec) (n : Nat) : (d.putN i b n).2.Ok := by
  induction n generalizing d i with
  | zero => exact h
  | succ n ih =>
    unfold DS.putN
    split
    · exact ih (h.putS i b) _
    · exact h.putS i b
theorem DS.Ok.save {d : DS} (h : d.Ok) (i : Int) (b : Sec) : (d.save i b).2.Ok := by
  unfold DS.save
  split
  · exact h
  · exact h.putN _ _ _
theorem DS.Ok.fix {d : DS} (h : d.Ok) (i : Int) (v : Sec) (l : List Sec) : (d.fix i v l).2.Ok := by
  induction l generalizing d i with
  | nil => exact h
  | cons x r ih =>
    unfold DS.fix
    split
    · exact ih h _
    · split
      · exact ih (h.putS i v) _
      · exact h.putS i v
theorem DS.Ok.mend {d : DS} (h : d.Ok) (i : Int) : (d.mend i).2.Ok := by
  unfold DS.mend
  split
  · exact h
  · exact h.fix _ _ _
end Go.Proofs.Ytekgjjanikicnaa.Sx

namespace Go.Proofs.Ytekgjjanikicnaa.Sx
open Go
set_option linter.unusedSimpArgs false
set_option linter.unusedVariables false

/-- Three sectors, as they last, and as they were written since. -/
structure At3 (d : DS) (p : Nat) (x y z : Sec) (cx cy cz : Option Sec) : Prop where
  x : d.l[p]? = some x
  y : d.l[p + 1]? = some y
  z : d.l[p + 2]? = some z
  cx : d.c (p : Int) = cx
  cy : d.c ((p + 1 : Nat) : Int) = cy
  cz : d.c ((p + 2 : Nat) : Int) = cz
theorem burnt_neg {d : DS} (h : d.fuse < 0) : d.burnt = d := by unfold DS.burnt; rw [if_neg (by omega), if_neg (by omega)]
theorem burnt_pos {d : DS} (h : 0 < d.fuse) : d.burnt = { d with fuse := d.fuse - 1 } := by unfold DS.burnt; rw [if_neg (by omega), if_pos h]
theorem putS_cases {d : DS} {i : Nat} {b : Sec} (hd : d.down = false) (hi : i < d.l.length) (hb : b.length = 64) :
    (∃ f, d.putS i b = (6, { d with down := true, fuse := f }) ∧ d.fuse = 0) ∨ (∃ f, d.putS i b = (6, { d.put i b with down := true, fuse := f }) ∧ d.fuse = 1) ∨
      (∃ f, d.putS i b = (0, { d with l := laid d.l (d.put i b).c, c := fun _ => none, fuse := f }) ∧ (d.fuse < 0 → f = d.fuse) ∧ (2 ≤ d.fuse → f = d.fuse - 2) ∧ (d.fuse < 0 ∨ 2 ≤ d.fuse)) := by
  have hin : ¬ ¬ (0 ≤ (i : Int) ∧ (i : Int) < (d.l.length : Int)) := fun h => h ⟨by omega, by omega⟩
  by_cases h0 : d.fuse = 0
  · left
    refine ⟨d.fuse, ?_, h0⟩
    have e : d.write i b = (6, d.burnt) := by unfold DS.write; rw [if_neg (by simp [hd]), if_neg hin, if_neg (by omega), if_pos h0]
    unfold DS.putS
    rw [e, if_neg (show ¬ ((6, d.burnt) : Int × DS).1 = 0 by simp)]
    simp [DS.burnt, h0]
  · have e : d.write i b = (0, d.burnt.put i b) := by unfold DS.write; rw [if_neg (by simp [hd]), if_neg hin, if_neg (by omega), if_neg h0]
    have ep : d.putS i b = (d.burnt.put i b).sync := by unfold DS.putS; rw [e, if_pos rfl]
    by_cases h1 : d.fuse = 1
    · right; left
      refine ⟨0, ?_, h1⟩
      rw [ep]
      have eb : d.burnt = { d with fuse := 0 } := by unfold DS.burnt; rw [if_neg h0, if_pos (by omega), h1]; rfl
      rw [eb]
      unfold DS.sync
      simp [DS.put, hd, DS.burnt]
    · right; right
      by_cases hn : d.fuse < 0
      · refine ⟨d.fuse, ?_, fun _ => rfl, fun h => by omega, .inl hn⟩
        rw [ep]
        have eb : d.burnt = d := by unfold DS.burnt; rw [if_neg h0, if_neg (by omega)]
        rw [eb]
        unfold DS.sync
        have eb2 : (d.put i b).burnt = d.put i b := burnt_neg (d := d.put i b) hn
        rw [eb2]
        simp [DS.put, hd, h0]
      · refine ⟨d.fuse - 2, ?_, fun h => by omega, fun _ => rfl, .inr (by omega)⟩
        rw [ep]
        have eb : d.burnt = { d with fuse := d.fuse - 1 } := by unfold DS.burnt; rw [if_neg h0, if_pos (by omega)]
        rw [eb]
        have eb2 : ({ d with fuse := d.fuse - 1 }.put i b : DS).burnt = { d.put i b with fuse := d.fuse - 2 } := by
          refine (burnt_pos (d := { d with fuse := d.fuse - 1 }.put i b) (show 0 < d.fuse - 1 by omega)).trans ?_
          simp only [DS.put, DS.mk.injEq, true_and, and_true]
          omega
        unfold DS.sync
        rw [eb2]
        simp only [DS.put, hd]
        rw [if_neg (by simp), if_neg (by omega)]
/-- A put that went well, or was lost within. -/
theorem At3.put {d : DS} {p : Nat} {x y z : Sec} {cx cy cz : Option Sec} (h : At3 d p x y z cx cy cz) (hd : d.down = false) {b : Sec} (hb : b.length = 64) {k : Nat} (hk : k < 3) :
    ((d.putS ((p + k : Nat) : Int) b).1 ≠ 0 ∧ (At3 (d.putS ((p + k : Nat) : Int) b).2 p x y z cx cy cz ∨
        At3 (d.putS ((p + k : Nat) : Int) b).2 p x y z (if k = 0 then some b else cx) (if k = 1 then some b else cy) (if k = 2 then some b else cz)) ∧ (d.putS ((p + k : Nat) : Int) b).2.down = true) ∨
      ((d.putS ((p + k : Nat) : Int) b).1 = 0 ∧ At3 (d.putS ((p + k : Nat) : Int) b).2 p (if k = 0 then b else cx.getD x) (if k = 1 then b else cy.getD y) (if k = 2 then b else cz.getD z) none none none ∧ (d.putS ((p + k : Nat) : Int) b).2.down = false ∧
        ((d.fuse < 0 ∧ (d.putS ((p + k : Nat) : Int) b).2.fuse = d.fuse) ∨ (2 ≤ d.fuse ∧ (d.putS ((p + k : Nat) : Int) b).2.fuse = d.fuse - 2))) := by
  have hl : p + 2 < d.l.length := (List.getElem?_eq_some_iff.1 h.z).1
  rcases putS_cases hd (i := p + k) (by omega) hb with ⟨f, e, _⟩ | ⟨f, e, _⟩ | ⟨f, e, f1, f2, f3⟩
  · left
    rw [e]
    exact ⟨by simp, .inl ⟨h.x, h.y, h.z, h.cx, h.cy, h.cz⟩, rfl⟩
  · left
    rw [e]
    refine ⟨by simp, .inr ⟨h.x, h.y, h.z, ?_, ?_, ?_⟩, rfl⟩
    · simp only [DS.put]
      have : ((p : Int) = ((p + k : Nat) : Int)) ↔ k = 0 := by omega
      simp only [this, h.cx]
    · simp only [DS.put]
      have : (((p + 1 : Nat) : Int) = ((p + k : Nat) : Int)) ↔ k = 1 := by omega
      simp only [this, h.cy]
    · simp only [DS.put]
      have : (((p + 2 : Nat) : Int) = ((p + k : Nat) : Int)) ↔ k = 2 := by omega
      simp only [this, h.cz]
  · right
    rw [e]
    refine ⟨rfl, ⟨?_, ?_, ?_, rfl, rfl, rfl⟩, hd, f3.imp (fun h => ⟨h, f1 h⟩) (fun h => ⟨h, f2 h⟩)⟩
    · simp only [laid_get, h.x, DS.put, Option.map_some]
      have : ((p : Int) = ((p + k : Nat) : Int)) ↔ k = 0 := by omega
      simp only [this, h.cx]
      split <;> simp
    · simp only [laid_get, h.y, DS.put, Option.map_some]
      have : (((p + 1 : Nat) : Int) = ((p + k : Nat) : Int)) ↔ k = 1 := by omega
      simp only [this, h.cy]
      split <;> simp
    · simp only [laid_get, h.z, DS.put, Option.map_some]
      have : (((p + 2 : Nat) : Int) = ((p + k : Nat) : Int)) ↔ k = 2 := by omega
      simp only [this, h.cz]
      split <;> simp
/-- Of an old value and a new one: which of the three sectors is on its way. -/
def Mid (o n : Sec) (p : Nat) (d : DS) : Prop :=
  (∃ x cx, At3 d p x o o cx none none) ∨ (∃ y cy, At3 d p n y o none cy none) ∨ ∃ z cz, At3 d p n n z none none cz
theorem crashGo_at {c : Int → Option Sec} {keep : List Bool} {torn at_ : Int} : ∀ (l : List Sec) (i k j : Nat) (s : Sec), l[j]? = some s → ∃ t, (crashGo c keep torn at_ l i k)[j]? = some t ∧ (c ((i + j : Nat) : Int) = none → t = s)
  | x :: r, i, k, 0, s, h => by
    simp only [List.getElem?_cons_zero, Option.some.injEq] at h
    subst h
    unfold crashGo
    split
    · exact ⟨x, rfl, fun _ => rfl⟩
    · rename_i t hc
      exact ⟨_, rfl, fun h => by rw [Nat.add_zero, hc] at h; cases h⟩
  | x :: r, i, k, j + 1, s, h => by
    have h' : r[j]? = some s := by simpa using h
    unfold crashGo
    split
    · obtain ⟨t, h1, h2⟩ := crashGo_at r (i + 1) k j s h'
      exact ⟨t, by simpa using h1, fun hc => h2 (by rw [show i + 1 + j = i + (j + 1) by omega]; exact hc)⟩
    · obtain ⟨t, h1, h2⟩ := crashGo_at r (i + 1) (k + 1) j s h'
      exact ⟨t, by simpa using h1, fun hc => h2 (by rw [show i + 1 + j = i + (j + 1) by omega]; exact hc)⟩
theorem At3.crash {d : DS} {p : Nat} {x y z : Sec} {cx cy cz : Option Sec} (h : At3 d p x y z cx cy cz) (keep : List Bool) (torn at_ : Int) :
    ∃ x' y' z', At3 (d.crash keep torn at_) p x' y' z' none none none ∧ (cx = none → x' = x) ∧ (cy = none → y' = y) ∧ (cz = none → z' = z) := by
  obtain ⟨x', h1, h2⟩ := crashGo_at (c := d.c) (keep := keep) (torn := torn) (at_ := at_) d.l 0 0 p x h.x
  obtain ⟨y', h3, h4⟩ := crashGo_at (c := d.c) (keep := keep) (torn := torn) (at_ := at_) d.l 0 0 (p + 1) y h.y
  obtain ⟨z', h5, h6⟩ := crashGo_at (c := d.c) (keep := keep) (torn := torn) (at_ := at_) d.l 0 0 (p + 2) z h.z
  simp only [Nat.zero_add] at h2 h4 h6
  exact ⟨x', y', z', ⟨h1, h3, h5, rfl, rfl, rfl⟩, fun e => h2 (by rw [h.cx, e]), fun e => h4 (by rw [h.cy, e]), fun e => h6 (by rw [h.cz, e])⟩
theorem Mid.crash {o n : Sec} {p : Nat} {d : DS} (h : Mid o n p d) (keep : List Bool) (torn at_ : Int) :
    (∃ x, At3 (d.crash keep torn at_) p x o o none none none) ∨ (∃ y, At3 (d.crash keep torn at_) p n y o none none none) ∨ ∃ z, At3 (d.crash keep torn at_) p n n z none none none := by
  rcases h with ⟨x, cx, h⟩ | ⟨y, cy, h⟩ | ⟨z, cz, h⟩
  · obtain ⟨x', y', z', h1, h2, h3, h4⟩ := h.crash keep torn at_
    rw [h3 rfl, h4 rfl] at h1
    exact .inl ⟨x', h1⟩
  · obtain ⟨x', y', z', h1, h2, h3, h4⟩ := h.crash keep torn at_
    rw [h2 rfl, h4 rfl] at h1
    exact .inr (.inl ⟨y', h1⟩)
  · obtain ⟨x', y', z', h1, h2, h3, h4⟩ := h.crash keep torn at_
    rw [h2 rfl, h3 rfl] at h1
    exact .inr (.inr ⟨z', h1⟩)
theorem At3.val {d : DS} {p : Nat} {x y z : Sec} {cx cy cz : Option Sec} (h : At3 d p x y z cx cy cz) : d.val (p : Int) = val3 (cx.getD x) (cy.getD y) (cz.getD z) := by
  unfold DS.val DS.get
  rw [show ((p : Int) + 1).toNat = p + 1 by omega, show ((p : Int) + 2).toNat = p + 2 by omega, Int.toNat_natCast, h.cx, h.cy, h.cz]
  simp only [List.getD_eq_getElem?_getD, h.x, h.y, h.z, Option.getD_some]
theorem save_cases {d : DS} {p : Nat} {o n : Sec} (h : At3 d p o o o none none none) (hd : d.down = false) (hn : n.length = 64) :
    ((d.putN (p : Int) n 3).1 ≠ 0 ∧ Mid o n p (d.putN (p : Int) n 3).2) ∨
      ((d.putN (p : Int) n 3).1 = 0 ∧ At3 (d.putN (p : Int) n 3).2 p n n n none none none ∧ (d.putN (p : Int) n 3).2.down = false ∧ (d.fuse < 0 ∧ (d.putN (p : Int) n 3).2.fuse = d.fuse ∨ 6 ≤ d.fuse)) := by
  have r1 := h.put hd hn (k := 0) (by omega)
  simp only [Nat.add_zero, if_true, Option.getD_none, show ¬ (0 = 1) by omega, show ¬ (0 = 2) by omega, if_false] at r1
  rcases r1 with ⟨e1, hm, _⟩ | ⟨e1, h1, d1, f1⟩
  · left
    have e : d.putN (p : Int) n 3 = d.putS p n := by unfold DS.putN; rw [if_neg e1]
    rw [e]
    refine ⟨e1, .inl ?_⟩
    rcases hm with hm | hm
    · exact ⟨_, _, hm⟩
    · exact ⟨_, _, hm⟩
  have e : d.putN (p : Int) n 3 = (d.putS p n).2.putN ((p : Int) + 1) n 2 := by
    conv => lhs; unfold DS.putN
    rw [if_pos e1]
  generalize (d.putS p n).2 = D1 at *
  have r2 := h1.put d1 hn (k := 1) (by omega)
  simp only [if_true, Option.getD_none, show ¬ (1 = 0) by omega, show ¬ (1 = 2) by omega, if_false] at r2
  have c1 : ((p + 1 : Nat) : Int) = (p : Int) + 1 := by omega
  rw [c1] at r2
  rcases r2 with ⟨e2, hm, _⟩ | ⟨e2, h2, d2, f2⟩
  · left
    have e' : D1.putN ((p : Int) + 1) n 2 = D1.putS ((p : Int) + 1) n := by unfold DS.putN; rw [if_neg e2]
    rw [e, e']
    refine ⟨e2, .inr (.inl ?_)⟩
    rcases hm with hm | hm
    · exact ⟨_, _, hm⟩
    · exact ⟨_, _, hm⟩
  have e' : D1.putN ((p : Int) + 1) n 2 = (D1.putS ((p : Int) + 1) n).2.putN ((p : Int) + 1 + 1) n 1 := by
    conv => lhs; unfold DS.putN
    rw [if_pos e2]
  generalize (D1.putS ((p : Int) + 1) n).2 = D2 at *
  have r3 := h2.put d2 hn (k := 2) (by omega)
  simp only [if_true, Option.getD_none, show ¬ (2 = 0) by omega, show ¬ (2 = 1) by omega, if_false] at r3
  have c2 : ((p + 2 : Nat) : Int) = (p : Int) + 1 + 1 := by omega
  rw [c2] at r3
  rcases r3 with ⟨e3, hm, _⟩ | ⟨e3, h3, d3, f3⟩
  · left
    have e'' : D2.putN ((p : Int) + 1 + 1) n 1 = D2.putS ((p : Int) + 1 + 1) n := by unfold DS.putN; rw [if_neg e3]
    rw [e, e', e'']
    refine ⟨e3, .inr (.inr ?_)⟩
    rcases hm with hm | hm
    · exact ⟨_, _, hm⟩
    · exact ⟨_, _, hm⟩
  · right
    have e'' : D2.putN ((p : Int) + 1 + 1) n 1 = (0, (D2.putS ((p : Int) + 1 + 1) n).2) := by
      unfold DS.putN
      rw [if_pos e3]
      rfl
    rw [e, e', e'']
    refine ⟨rfl, h3, d3, ?_⟩
    simp only
    omega
/-- One sector is mended, if it isn't as it should be. -/
theorem fix_step {d : DS} {i : Int} {v x : Sec} {r : List Sec} : d.fix i v (x :: r) = if x = v then d.fix (i + 1) v r else if (d.putS i v).1 = 0 then (d.putS i v).2.fix (i + 1) v r else d.putS i v := rfl
theorem lerr_ok {d : DS} {p : Nat} (hd : d.down = false) (hp : p + 2 < d.l.length) : d.lerr (p : Int) = 0 := by
  have r : ∀ k : Int, 0 ≤ k → k < d.l.length → d.rerr k = 0 := fun k h1 h2 => by
    unfold DS.rerr DS.inb
    rw [if_neg (by simp [hd]), if_pos (by simp; omega)]
  unfold DS.lerr
  rw [r p (by omega) (by omega), r (p + 1) (by omega) (by omega), r (p + 2) (by omega) (by omega)]
  simp
theorem At3.gets {d : DS} {p : Nat} {x y z : Sec} (h : At3 d p x y z none none none) : d.get (p : Int).toNat = x ∧ d.get ((p : Int) + 1).toNat = y ∧ d.get ((p : Int) + 2).toNat = z := by
  unfold DS.get
  rw [show ((p : Int) + 1).toNat = p + 1 by omega, show ((p : Int) + 2).toNat = p + 2 by omega, Int.toNat_natCast, h.cx, h.cy, h.cz]
  simp only [List.getD_eq_getElem?_getD, h.x, h.y, h.z, Option.getD_some, Option.getD_none, and_self]
theorem mend_eq {d : DS} {p : Nat} {x y z : Sec} (h : At3 d p x y z none none none) (hd : d.down = false) : d.mend (p : Int) = d.fix (p : Int) (val3 x y z) [x, y, z] := by
  have hp := (List.getElem?_eq_some_iff.1 h.z).1
  obtain ⟨g1, g2, g3⟩ := h.gets
  unfold DS.mend
  rw [lerr_ok hd hp, if_neg (by simp), h.val, g1, g2, g3]
  rfl
/-- The third sector alone is left. -/
theorem fix_third {d : DS} {p : Nat} {n z o : Sec} (h : At3 d p n n z none none none) (hd : d.down = false) (hn : n.length = 64) :
    ((d.fix ((p : Int) + 1 + 1) n [z]).1 ≠ 0 ∧ Mid o n p (d.fix ((p : Int) + 1 + 1) n [z]).2) ∨ ((d.fix ((p : Int) + 1 + 1) n [z]).1 = 0 ∧ At3 (d.fix ((p : Int) + 1 + 1) n [z]).2 p n n n none none none ∧ (d.fix ((p : Int) + 1 + 1) n [z]).2.down = false) := by
  rw [fix_step]
  by_cases hz : z = n
  · subst hz
    rw [if_pos rfl]
    exact .inr ⟨rfl, h, hd⟩
  · rw [if_neg hz]
    have r3 := h.put hd hn (k := 2) (by omega)
    simp only [if_true, Option.getD_none, show ¬ (2 = 0) by omega, show ¬ (2 = 1) by omega, if_false] at r3
    rw [show ((p + 2 : Nat) : Int) = (p : Int) + 1 + 1 by omega] at r3
    rcases r3 with ⟨e3, hm, _⟩ | ⟨e3, h3, d3, _⟩
    · left
      rw [if_neg e3]
      refine ⟨e3, .inr (.inr ?_)⟩
      rcases hm with hm | hm
      · exact ⟨_, _, hm⟩
      · exact ⟨_, _, hm⟩
    · right
      rw [if_pos e3]
      exact ⟨rfl, h3, d3⟩
theorem mend_first {d : DS} {p : Nat} {x o n : Sec} (h : At3 d p x o o none none none) (hd : d.down = false) (ho : o.length = 64) :
    ((d.mend (p : Int)).1 ≠ 0 ∧ Mid o n p (d.mend (p : Int)).2) ∨ ((d.mend (p : Int)).1 = 0 ∧ At3 (d.mend (p : Int)).2 p o o o none none none ∧ (d.mend (p : Int)).2.down = false) := by
  have hv : val3 x o o = o := by simp [val3]
  have nil : ∀ (D : DS) (i : Int), D.fix i o [o, o] = (0, D) := fun D i => by rw [fix_step, if_pos rfl, fix_step, if_pos rfl]; rfl
  rw [mend_eq h hd, hv, fix_step]
  by_cases hx : x = o
  · subst hx
    rw [if_pos rfl, nil]
    exact .inr ⟨rfl, h, hd⟩
  · rw [if_neg hx]
    have r1 := h.put hd ho (k := 0) (by omega)
    simp only [Nat.add_zero, if_true, Option.getD_none, show ¬ (0 = 1) by omega, show ¬ (0 = 2) by omega, if_false] at r1
    rcases r1 with ⟨e1, hm, _⟩ | ⟨e1, h1, d1, _⟩
    · left
      rw [if_neg e1]
      refine ⟨e1, .inl ?_⟩
      rcases hm with hm | hm
      · exact ⟨_, _, hm⟩
      · exact ⟨_, _, hm⟩
    · right
      rw [if_pos e1, nil]
      exact ⟨rfl, h1, d1⟩
/-- A mend: lost within, it leaves old or new; else it is what it was told to be. -/
theorem mend_cases {d : DS} {p : Nat} {x y z o n : Sec} (h : At3 d p x y z none none none) (hd : d.down = false) (ho : o.length = 64) (hn : n.length = 64) (hc : (y = o ∧ z = o) ∨ (x = n ∧ z = o) ∨ (x = n ∧ y = n)) :
    ((d.mend (p : Int)).1 ≠ 0 ∧ Mid o n p (d.mend (p : Int)).2) ∨
      ((d.mend (p : Int)).1 = 0 ∧ At3 (d.mend (p : Int)).2 p (val3 x y z) (val3 x y z) (val3 x y z) none none none ∧ (d.mend (p : Int)).2.down = false) := by
  rcases hc with ⟨rfl, rfl⟩ | ⟨rfl, rfl⟩ | ⟨rfl, rfl⟩
  · have := mend_first (n := n) h hd ho
    rwa [show val3 x z z = z by simp [val3]]
  · by_cases hyz : y = z
    · subst hyz
      have := mend_first (n := x) h hd ho
      rwa [show val3 x y y = y by simp [val3]]
    · have hv : val3 x y z = x := by simp [val3, hyz]
      rw [hv, mend_eq h hd, hv, fix_step, if_pos rfl, fix_step]
      by_cases hyx : y = x
      · subst hyx
        rw [if_pos rfl]
        exact fix_third h hd hn
      · rw [if_neg hyx]
        have r2 := h.put hd hn (k := 1) (by omega)
        simp only [if_true, Option.getD_none, show ¬ (1 = 0) by omega, show ¬ (1 = 2) by omega, if_false] at r2
        rw [show ((p + 1 : Nat) : Int) = (p : Int) + 1 by omega] at r2
        rcases r2 with ⟨e2, hm, _⟩ | ⟨e2, h2, d2, _⟩
        · left
          rw [if_neg e2]
          refine ⟨e2, .inr (.inl ?_)⟩
          rcases hm with hm | hm
          · exact ⟨_, _, hm⟩
          · exact ⟨_, _, hm⟩
        · rw [if_pos e2]
          exact fix_third h2 d2 hn
  · have hv : val3 y y z = y := by
      unfold val3
      split
      · rename_i e; exact e.symm
      · rfl
    rw [hv, mend_eq h hd, hv, fix_step, if_pos rfl, fix_step, if_pos rfl]
    exact fix_third h hd hn
end Go.Proofs.Ytekgjjanikicnaa.Sx

namespace Go.Proofs.Ytekgjjanikicnaa.Sx
open Go
set_option linter.unusedSimpArgs false
set_option linter.unusedVariables false
/-- A number's bytes, the lowest first. -/
def putB (x n : Nat) : List UInt8 := (List.range n).map fun i => UInt8.ofNat (x / 2 ^ (8 * i))
def leN : List UInt8 → Nat
  | [] => 0
  | b :: r => b.toNat + 256 * leN r
def numB (b : List UInt8) : Int := if 1073741824 < leN b then -1 else (leN b : Int)
def takesN (n : Nat) : Nat := (n + 65) / 64
theorem takesN_pos (n : Nat) : 1 ≤ takesN n := by unfold takesN; omega
theorem takesN_ge (n : Nat) : n + 2 ≤ 64 * takesN n := by unfold takesN; omega
/-- An entry's sectors, one behind the other. -/
def entB (b : List UInt8) : List UInt8 := putB b.length 2 ++ b ++ List.replicate (64 * takesN b.length - 2 - b.length) 0
@[simp] theorem putB_length (x n : Nat) : (putB x n).length = n := by simp [putB]
theorem putB_zero (x : Nat) : putB x 0 = [] := rfl
theorem putB_succ (x n : Nat) : putB x (n + 1) = UInt8.ofNat x :: putB (x / 256) n := by
  unfold putB
  rw [List.range_succ_eq_map, List.map_cons, List.map_map]
  congr 1
  · simp
  · apply List.map_congr_left
    intro i _
    simp only [Function.comp_def, Nat.succ_eq_add_one]
    rw [Nat.div_div_eq_div_mul, show 8 * (i + 1) = 8 + 8 * i by omega, Nat.pow_add]
theorem putB_snoc (x n : Nat) : putB x (n + 1) = putB x n ++ [UInt8.ofNat (x / 2 ^ (8 * n))] := by
  unfold putB
  rw [List.range_succ, List.map_append]; rfl
theorem leN_putB (n : Nat) : ∀ x, leN (putB x n) = x % 256 ^ n := by
  induction n with
  | zero => intro x; simp [putB_zero, leN, Nat.mod_one]
  | succ n ih =>
    intro x
    rw [putB_succ, leN, ih, UInt8.toNat_ofNat', show 2 ^ 8 = 256 from rfl, Nat.pow_succ, Nat.mul_comm (256 ^ n) 256, Nat.mod_mul]
theorem leN_of_lt {x n : Nat} (h : x < 256 ^ n) : leN (putB x n) = x := by rw [leN_putB, Nat.mod_eq_of_lt h]
theorem leN_append (a b : List UInt8) : leN (a ++ b) = leN a + 256 ^ a.length * leN b := by
  induction a with
  | nil => simp [leN]
  | cons x r ih =>
    rw [List.cons_append, leN, ih, leN, List.length_cons, Nat.pow_succ, Nat.mul_add, Nat.mul_comm (256 ^ r.length) 256, Nat.mul_assoc]
    omega
theorem leN_drop_le (b : List UInt8) (i : Nat) : leN (b.drop i) ≤ leN b := by
  induction i generalizing b with
  | zero => exact Nat.le_refl _
  | succ i ih =>
    cases b with
    | nil => exact Nat.le_refl _
    | cons x r =>
      rw [List.drop_succ_cons, leN]
      have := ih r
      omega
theorem leN_drop {b : List UInt8} {i : Nat} (h : i < b.length) : leN (b.drop i) = b[i].toNat + 256 * leN (b.drop (i + 1)) := by
  rw [List.drop_eq_getElem_cons h]; rfl
theorem leN_two (b : List UInt8) : leN (b.take 2) < 65536 := by
  have key : ∀ (l : List UInt8), l.length ≤ 2 → leN l < 65536 := by
    intro l hl
    match l, hl with
    | [], _ => simp [leN]
    | [x], _ => have := x.toNat_lt; simp [leN]; omega
    | [x, y], _ => have := x.toNat_lt; have := y.toNat_lt; simp [leN]; omega
  exact key _ (by rw [List.length_take]; omega)
theorem numB_small {b : List UInt8} (h : leN b ≤ 1073741824) : numB b = (leN b : Int) := by unfold numB; rw [if_neg (by omega)]
theorem numB_lt (b : List UInt8) : numB b ≤ 1073741824 := by unfold numB; split <;> omega
theorem entB_length (b : List UInt8) : (entB b).length = 64 * takesN b.length := by
  have := takesN_ge b.length
  simp [entB]; omega
/-- The bytes of k sectors from i on. -/
def secs (g : Nat → Sec) (i : Nat) : Nat → List UInt8
  | 0 => []
  | k + 1 => secs g i k ++ g (i + k)
theorem secs_length {g : Nat → Sec} {i : Nat} : ∀ {k : Nat}, (∀ j, j < k → (g (i + j)).length = 64) → (secs g i k).length = 64 * k
  | 0, _ => rfl
  | k + 1, h => by
    rw [secs, List.length_append, secs_length fun j hj => h j (by omega), h k (by omega)]; omega
theorem secs_add (g : Nat → Sec) (i k : Nat) : ∀ m, secs g i (k + m) = secs g i k ++ secs g (i + k) m
  | 0 => by simp [secs]
  | m + 1 => by rw [← Nat.add_assoc, secs, secs_add g i k m, secs, List.append_assoc, Nat.add_assoc]
theorem secs_congr {g g' : Nat → Sec} {i : Nat} : ∀ {k : Nat}, (∀ j, j < k → g (i + j) = g' (i + j)) → secs g i k = secs g' i k
  | 0, _ => rfl
  | k + 1, h => by rw [secs, secs, secs_congr fun j hj => h j (by omega), h k (by omega)]
/-- The next entry, of those that take so many sectors. -/
def rdE (g : Nat → Sec) (used pos : Nat) : Option (List UInt8 × Nat) :=
  if used ≤ pos then none
  else if 200 < leN ((g (3 + pos)).take 2) ∨ used < pos + takesN (leN ((g (3 + pos)).take 2)) then none
  else some (((secs g (3 + pos) (takesN (leN ((g (3 + pos)).take 2)))).drop 2).take (leN ((g (3 + pos)).take 2)), pos + takesN (leN ((g (3 + pos)).take 2)))
def rdAll (g : Nat → Sec) (used : Nat) : Nat → Nat → Option (List (List UInt8) × Nat)
  | 0, pos => some ([], pos)
  | n + 1, pos => match rdE g used pos with
    | none => none
    | some (b, p) => match rdAll g used n p with
      | none => none
      | some (l, q) => some (b :: l, q)
/-- What a mark's value tells. -/
def mkN (v : Sec) : Int := numB (v.take 8)
def mkU (v : Sec) : Int := numB ((v.drop 8).take 8)
def mkBad (v : Sec) (size : Nat) : Prop := mkN v < 0 ∨ mkU v < 0 ∨ (size : Int) - 3 < mkU v ∨ v.drop 16 ≠ List.replicate 48 0
def opnV (g : Nat → Sec) (size : Nat) (v : Sec) : Option (List (List UInt8)) :=
  if mkN v < 0 ∨ mkU v < 0 ∨ (size : Int) - 3 < mkU v ∨ v.drop 16 ≠ List.replicate 48 0 then none
  else match rdAll g (mkU v).toNat (mkN v).toNat 0 with
    | none => none
    | some (l, p) => if p = (mkU v).toNat then some l else none
/-- The value of a mark that keeps so many entries, in so many sectors. -/
def mkV (n used : Nat) : Sec := putB n 8 ++ putB used 8 ++ List.replicate 48 0
theorem mkV_length (n u : Nat) : (mkV n u).length = 64 := by simp [mkV]
theorem mkV_pad (n u : Nat) : pad (putB n 8 ++ putB u 8) = mkV n u := by simp [pad, mkV]
theorem mkV_zero : mkV 0 0 = zsec := by decide
theorem mkN_mkV {n u : Nat} (h : n ≤ 1073741824) : mkN (mkV n u) = n := by
  have e : (mkV n u).take 8 = putB n 8 := by rw [mkV, List.append_assoc, List.take_left' (by simp)]
  have h2 : leN (putB n 8) = n := leN_of_lt (by omega)
  rw [mkN, e, numB_small (by rw [h2]; exact h), h2]
theorem mkU_mkV {n u : Nat} (h : u ≤ 1073741824) : mkU (mkV n u) = u := by
  have e : ((mkV n u).drop 8).take 8 = putB u 8 := by rw [mkV, List.append_assoc, List.drop_left' (by simp), List.take_left' (by simp)]
  have h2 : leN (putB u 8) = u := leN_of_lt (by omega)
  rw [mkU, e, numB_small (by rw [h2]; exact h), h2]
theorem mkV_rest (n u : Nat) : (mkV n u).drop 16 = List.replicate 48 0 := by rw [mkV, List.drop_left' (by simp)]
/-- How many sectors entries take. -/
def useN (l : List (List UInt8)) : Nat := (l.map fun b => takesN b.length).sum
theorem useN_nil : useN [] = 0 := rfl
theorem useN_append (a b : List (List UInt8)) : useN (a ++ b) = useN a + useN b := by simp [useN]
theorem useN_one (b : List UInt8) : useN [b] = takesN b.length := by simp [useN]
theorem useN_cons (b : List UInt8) (l : List (List UInt8)) : useN (b :: l) = takesN b.length + useN l := by simp [useN]
theorem useN_ge (l : List (List UInt8)) : l.length ≤ useN l := by
  induction l with
  | nil => exact Nat.le_refl _
  | cons b r ih => rw [useN_cons, List.length_cons]; have := takesN_pos b.length; omega
/-- Entries lie in the sectors from 3 + p on. -/
def Lies (g : Nat → Sec) (p : Nat) : List (List UInt8) → Prop
  | [] => True
  | b :: l => secs g (3 + p) (takesN b.length) = entB b ∧ Lies g (p + takesN b.length) l
theorem Lies.append {g : Nat → Sec} {a b : List (List UInt8)} : ∀ {p : Nat}, Lies g p (a ++ b) ↔ Lies g p a ∧ Lies g (p + useN a) b := by
  induction a with
  | nil => intro p; simp [Lies, useN_nil]
  | cons x r ih =>
    intro p
    rw [List.cons_append, Lies, Lies, ih, useN_cons, Nat.add_assoc, and_assoc]
theorem Lies.congr {g g' : Nat → Sec} {l : List (List UInt8)} : ∀ {p : Nat}, Lies g p l → (∀ j, p ≤ j → j < p + useN l → g' (3 + j) = g (3 + j)) → Lies g' p l := by
  induction l with
  | nil => intro p _ _; trivial
  | cons x r ih =>
    intro p ⟨h1, h2⟩ he
    rw [useN_cons] at he
    refine ⟨?_, ih h2 fun j hj hj2 => he j (by omega) (by omega)⟩
    rw [← h1]
    refine secs_congr fun j hj => ?_
    rw [Nat.add_assoc]
    exact he (p + j) (by omega) (by omega)
theorem secs_first {g : Nat → Sec} {i k : Nat} (hk : 1 ≤ k) (h : (g i).length = 64) : ∃ r, secs g i k = g i ++ r := by
  obtain ⟨m, rfl⟩ : ∃ m, k = 1 + m := ⟨k - 1, by omega⟩
  exact ⟨secs g (i + 1) m, by rw [secs_add]; simp [secs]⟩
theorem rdE_lies {g : Nat → Sec} {b : List UInt8} {used p : Nat} (hg : ∀ j, j < used → (g (3 + j)).length = 64) (h : secs g (3 + p) (takesN b.length) = entB b) (hb : b.length ≤ 200) (hu : p + takesN b.length ≤ used) : rdE g used p = some (b, p + takesN b.length) := by
  have hp := takesN_pos b.length
  have hn : leN ((g (3 + p)).take 2) = b.length := by
    obtain ⟨r, hr⟩ := secs_first (g := g) (i := 3 + p) hp (hg p (by omega))
    have h64 := hg p (by omega)
    have e : (g (3 + p)).take 2 = putB b.length 2 := by
      have h1 : ((g (3 + p)) ++ r).take 2 = (entB b).take 2 := by rw [← hr, h]
      rw [List.take_append_of_le_length (by omega)] at h1
      rw [h1, entB, List.append_assoc, List.take_left' (by simp)]
    rw [e, leN_of_lt (by omega)]
  unfold rdE
  rw [hn, if_neg (by omega), if_neg (by omega), h]
  congr 2
  rw [entB, List.append_assoc, List.drop_left' (by simp), List.take_left' rfl]
theorem rdAll_lies {g : Nat → Sec} {used : Nat} (hg : ∀ j, j < used → (g (3 + j)).length = 64) : ∀ {l : List (List UInt8)} {p : Nat}, Lies g p l → (∀ b ∈ l, b.length ≤ 200) → p + useN l ≤ used → rdAll g used l.length p = some (l, p + useN l)
  | [], p, _, _, _ => by simp [rdAll, useN_nil]
  | b :: l, p, ⟨h1, h2⟩, hb, hu => by
    rw [useN_cons] at hu
    rw [List.length_cons, rdAll, rdE_lies hg h1 (hb b (List.mem_cons_self ..)) (by omega)]
    simp only
    rw [rdAll_lies hg h2 (fun c hc => hb c (List.mem_cons_of_mem _ hc)) (by omega)]
    simp only [useN_cons, Nat.add_assoc]
/-- What lies there is found. -/
theorem opnV_lies {g : Nat → Sec} {size : Nat} {l : List (List UInt8)} (hg : ∀ j, j < useN l → (g (3 + j)).length = 64) (h : Lies g 0 l) (hb : ∀ b ∈ l, b.length ≤ 200) (hs : useN l + 3 ≤ size) (hz : size ≤ 1000000) : opnV g size (mkV l.length (useN l)) = some l := by
  have hl := useN_ge l
  have h1 := mkN_mkV (n := l.length) (u := useN l) (by omega)
  have h2 := mkU_mkV (n := l.length) (u := useN l) (by omega)
  unfold opnV
  rw [h1, h2, mkV_rest, if_neg (by rintro (h | h | h | h) <;> first | omega | exact h rfl), Int.toNat_natCast, Int.toNat_natCast]
  have := rdAll_lies hg h hb (p := 0) (by omega)
  rw [this]
  simp
theorem rdE_le {g : Nat → Sec} {used p : Nat} {b : List UInt8} {q : Nat} (h : rdE g used p = some (b, q)) : p < q ∧ q ≤ used ∧ b.length ≤ 200 := by
  unfold rdE at h
  split at h
  · cases h
  · split at h
    · cases h
    · simp only [Option.some.injEq, Prod.mk.injEq] at h
      obtain ⟨h1, h2⟩ := h
      have := takesN_pos (leN ((g (3 + p)).take 2))
      refine ⟨by omega, by omega, ?_⟩
      rw [← h1, List.length_take]
      omega
theorem rdAll_snoc {g : Nat → Sec} {used : Nat} : ∀ {n p : Nat} {l : List (List UInt8)} {q : Nat}, rdAll g used n p = some (l, q) → ∀ m, rdAll g used (n + m) p = match rdAll g used m q with | none => none | some (l', q') => some (l ++ l', q')
  | 0, p, l, q, h, m => by
    simp only [rdAll, Option.some.injEq, Prod.mk.injEq] at h
    obtain ⟨rfl, rfl⟩ := h
    rw [Nat.zero_add]
    cases rdAll g used m p with
    | none => rfl
    | some x => rfl
  | n + 1, p, l, q, h, m => by
    rw [show n + 1 + m = (n + m) + 1 by omega]
    rw [rdAll] at h ⊢
    cases he : rdE g used p with
    | none => rw [he] at h; cases h
    | some x =>
      obtain ⟨b, p1⟩ := x
      rw [he] at h
      simp only at h ⊢
      cases hr : rdAll g used n p1 with
      | none => rw [hr] at h; cases h
      | some y =>
        obtain ⟨l1, q1⟩ := y
        rw [hr] at h
        simp only [Option.some.injEq, Prod.mk.injEq] at h
        obtain ⟨rfl, rfl⟩ := h
        rw [rdAll_snoc hr m]
        cases rdAll g used m q1 with
        | none => rfl
        | some z => rfl
theorem rdAll_one {g : Nat → Sec} {used p : Nat} : rdAll g used 1 p = match rdE g used p with | none => none | some (b, q) => some ([b], q) := by
  rw [rdAll]
  cases rdE g used p with
  | none => rfl
  | some x => rfl
theorem rdAll_none {g : Nat → Sec} {used : Nat} : ∀ {n p : Nat} {l : List (List UInt8)} {q : Nat}, rdAll g used n p = some (l, q) → rdE g used q = none → ∀ m, 0 < m → rdAll g used (n + m) p = none := by
  intro n p l q h he m hm
  obtain ⟨k, rfl⟩ : ∃ k, m = k + 1 := ⟨m - 1, by omega⟩
  rw [rdAll_snoc h, rdAll, he]
theorem rdAll_le {g : Nat → Sec} {used : Nat} : ∀ {n p : Nat} {l : List (List UInt8)} {q : Nat}, rdAll g used n p = some (l, q) → p ≤ used → p + n ≤ q ∧ q ≤ used ∧ l.length = n ∧ ∀ b ∈ l, b.length ≤ 200
  | 0, p, l, q, h, hp => by
    simp only [rdAll, Option.some.injEq, Prod.mk.injEq] at h
    obtain ⟨rfl, rfl⟩ := h
    exact ⟨by omega, hp, rfl, fun b hb => by cases hb⟩
  | n + 1, p, l, q, h, hp => by
    rw [rdAll] at h
    cases he : rdE g used p with
    | none => rw [he] at h; cases h
    | some x =>
      obtain ⟨b, p1⟩ := x
      obtain ⟨h1, h2, h3⟩ := rdE_le he
      rw [he] at h
      simp only at h
      cases hr : rdAll g used n p1 with
      | none => rw [hr] at h; cases h
      | some y =>
        obtain ⟨l1, q1⟩ := y
        rw [hr] at h
        simp only [Option.some.injEq, Prod.mk.injEq] at h
        obtain ⟨rfl, rfl⟩ := h
        obtain ⟨i1, i2, i3, i4⟩ := rdAll_le hr h2
        refine ⟨by omega, i2, by simp [i3], fun c hc => ?_⟩
        rcases List.mem_cons.1 hc with rfl | hc
        · exact h3
        · exact i4 c hc
theorem opnV_some {g : Nat → Sec} {size : Nat} {v : Sec} {l : List (List UInt8)} (h : opnV g size v = some l) : 0 ≤ mkN v ∧ 0 ≤ mkU v ∧ mkU v + 3 ≤ size ∧ v.drop 16 = List.replicate 48 0 ∧ rdAll g (mkU v).toNat (mkN v).toNat 0 = some (l, (mkU v).toNat) ∧ l.length = (mkN v).toNat := by
  unfold opnV at h
  split at h
  · cases h
  · rename_i hn
    simp only [not_or, Int.not_lt, Classical.not_not] at hn
    obtain ⟨h1, h2, h3, h4⟩ := hn
    cases hr : rdAll g (mkU v).toNat (mkN v).toNat 0 with
    | none => rw [hr] at h; cases h
    | some y =>
      obtain ⟨l1, q1⟩ := y
      rw [hr] at h
      simp only at h
      split at h
      · rename_i hq
        subst hq
        cases h
        exact ⟨h1, h2, by omega, h4, rfl, (rdAll_le hr (Nat.zero_le _)).2.2.1⟩
      · cases h
end Go.Proofs.Ytekgjjanikicnaa.Sx

namespace Go.Proofs.Ytekgjjanikicnaa.Sx
open Go
set_option linter.unusedSimpArgs false
set_option linter.unusedVariables false
structure Up (N : Nat) (d : DS) : Prop where
  ok : d.Ok
  fuse : d.fuse = -1
  up : d.down = false
  len : d.l.length = N
theorem Up.burnt {N : Nat} {d : DS} (h : Up N d) : d.burnt = d := by
  have := h.fuse
  unfold DS.burnt
  rw [if_neg (by omega), if_neg (by omega)]
theorem Up.write {N : Nat} {d : DS} (h : Up N d) (i : Int) (b : Sec) : Up N (d.write i b).2 := by
  refine ⟨h.ok.write i b, ?_, ?_, ?_⟩ <;>
  · unfold DS.write
    repeat' split
    all_goals simp only [h.burnt, DS.put, h.fuse, h.up, h.len]
theorem Up.sync {N : Nat} {d : DS} (h : Up N d) : Up N d.sync.2 := by
  refine ⟨h.ok.sync, ?_, ?_, ?_⟩ <;>
  · unfold DS.sync
    repeat' split
    all_goals simp only [h.burnt, h.fuse, h.up, h.len, laid_length]
theorem Up.crash {N : Nat} {d : DS} (h : Up N d) (keep : List Bool) (torn at_ : Int) : Up N (d.crash keep torn at_) :=
  ⟨h.ok.crash keep torn at_, rfl, rfl, by simp only [DS.crash, crashGo_length, h.len]⟩
theorem Up.new {N : Nat} (h : N ≤ 4096) : Up N (DS.new N) := ⟨DS.new_ok h, rfl, rfl, by simp [DS.new]⟩
theorem crashGo_get {c : Int → Option Sec} {keep : List Bool} {torn at_ : Int} : ∀ (l : List Sec) (i k j : Nat), c ((i + j : Nat) : Int) = none → (crashGo c keep torn at_ l i k)[j]? = l[j]?
  | [], i, k, j, h => rfl
  | s :: r, i, k, 0, h => by
    unfold crashGo
    simp only [Nat.add_zero] at h
    rw [h]
    rfl
  | s :: r, i, k, j + 1, h => by
    rw [show i + (j + 1) = i + 1 + j by omega] at h
    unfold crashGo
    split <;> (rw [List.getElem?_cons_succ, List.getElem?_cons_succ]; exact crashGo_get r _ _ j h)

theorem Up.sync_c {N : Nat} {d : DS} (h : Up N d) (i : Int) : d.sync.2.c i = none := by
  have := h.fuse
  unfold DS.sync
  rw [if_neg (by rw [h.up]; simp), if_neg (by omega)]
theorem lasts_key {N : Nat} {d : DS} (hU : Up N d) (hc : ∀ i, d.c i = none) (at_ : Int) (b : Sec) (keep : List Bool) (torn a : Int) (j : Nat) (h : (d.write at_ b).1 ≠ 0 ∨ (j : Int) ≠ at_) :
    ((d.write at_ b).2.crash keep torn a).get j = d.get j := by
  have hc2 : (d.write at_ b).2.c (j : Int) = none := by
    unfold DS.write at h ⊢
    repeat' split
    all_goals simp_all [DS.put, DS.burnt_c]
  have hl : (d.write at_ b).2.l = d.l := by
    unfold DS.write
    repeat' split
    all_goals simp only [DS.put, DS.burnt_l]
  simp only [DS.get, DS.crash, hc, Option.getD_none, List.getD_eq_getElem?_getD]
  rw [crashGo_get _ 0 0 j (by rw [Nat.zero_add]; exact hc2), hl]
end Go.Proofs.Ytekgjjanikicnaa.Sx

namespace Go.Proofs.Ytekgjjanikicnaa.Sx
open Go
set_option linter.unusedSimpArgs false
set_option linter.unusedVariables false
theorem val_nat {d : DS} {p : Nat} : d.val (p : Int) = val3 (d.get p) (d.get (p + 1)) (d.get (p + 2)) := by
  simp only [DS.val, Int.toNat_natCast, show ((p : Int) + 1).toNat = p + 1 by omega, show ((p : Int) + 2).toNat = p + 2 by omega]
/-- How a save fares. -/
theorem save_nat {d : DS} {at_ : Int} {b : Sec} (h : b.length ≤ 64) : d.save at_ b = d.putN at_ (pad b) 3 := by unfold DS.save; rw [if_neg (by omega)]
/-- The sectors that are still to be looked at. -/
def rest3 (d : DS) (p : Nat) : Nat → List Sec
  | 0 => [d.get p, d.get (p + 1), d.get (p + 2)]
  | 1 => [d.get (p + 1), d.get (p + 2)]
  | 2 => [d.get (p + 2)]
  | _ => []
theorem rest3_cons {d : DS} {p i : Nat} (hi : i < 3) : rest3 d p i = d.get (p + i) :: rest3 d p (i + 1) := by
  have : i = 0 ∨ i = 1 ∨ i = 2 := by omega
  rcases this with rfl | rfl | rfl <;> rfl
theorem mend_nat {d : DS} {p : Nat} (h : d.lerr (p : Int) = 0) : d.mend (p : Int) = d.fix (p : Int) (d.val p) (rest3 d p 0) := by
  unfold DS.mend
  rw [if_neg (by simp [h])]
  simp only [Int.toNat_natCast, show ((p : Int) + 1).toNat = p + 1 by omega, show ((p : Int) + 2).toNat = p + 2 by omega, rest3]
theorem Up.write_eq {N : Nat} {d : DS} (h : Up N d) {i : Nat} (hi : i < N) {b : Sec} (hb : b.length = 64) : d.write i b = (0, d.put i b) := by
  have hf := h.fuse
  have hl := h.len
  unfold DS.write
  rw [if_neg (by rw [h.up]; simp), if_neg (by omega), if_neg (by omega), if_neg (by omega), h.burnt]
theorem Up.sync_eq {N : Nat} {d : DS} (h : Up N d) : d.sync = (0, { d with l := laid d.l d.c, c := fun _ => none }) := by
  have hf := h.fuse
  unfold DS.sync
  rw [if_neg (by rw [h.up]; simp), if_neg (by omega), h.burnt]
theorem Up.get_sync {N : Nat} {d : DS} (h : Up N d) {j : Nat} (hj : j < N) : d.sync.2.get j = d.get j := by
  have hl := h.len
  rw [h.sync_eq]
  simp only [DS.get, Option.getD_none, List.getD_eq_getElem?_getD, laid_get, List.getElem?_eq_getElem (show j < d.l.length by omega), Option.map_some, Option.getD_some]
theorem Up.put {N : Nat} {d : DS} (h : Up N d) {i : Nat} (hi : i < N) {b : Sec} (hb : b.length = 64) : Up N (d.put i b) := by
  have := h.write i b
  rwa [h.write_eq hi hb] at this
theorem Up.putS_eq {N : Nat} {d : DS} (h : Up N d) {i : Nat} (hi : i < N) {b : Sec} (hb : b.length = 64) : (d.putS i b).1 = 0 ∧ Up N (d.putS i b).2 ∧ (∀ j, j < N → (d.putS i b).2.get j = if j = i then b else d.get j) := by
  have hp := h.put hi hb
  have e : d.putS i b = (d.put i b).sync := by unfold DS.putS; rw [h.write_eq hi hb]; exact if_pos rfl
  rw [e]
  refine ⟨by rw [hp.sync_eq], hp.sync, fun j hj => ?_⟩
  rw [hp.get_sync hj]
  simp only [DS.get, DS.put]
  by_cases e : j = i
  · subst e; rw [if_pos rfl, if_pos rfl]; rfl
  · rw [if_neg (by omega), if_neg e]
theorem Up.save {N : Nat} {d : DS} (h : Up N d) {p : Nat} (hp : p + 2 < N) {b : Sec} (hb : b.length ≤ 64) : (d.save p b).1 = 0 ∧ Up N (d.save p b).2 ∧ (∀ j, j < N → (d.save p b).2.get j = if p ≤ j ∧ j ≤ p + 2 then pad b else d.get j) := by
  have hl := pad_length hb
  rw [save_nat hb]
  obtain ⟨a1, a2, a3⟩ := h.putS_eq (i := p) (by omega) hl
  obtain ⟨b1, b2, b3⟩ := a2.putS_eq (i := p + 1) (by omega) hl
  obtain ⟨c1, c2, c3⟩ := b2.putS_eq (i := p + 2) (by omega) hl
  have e : d.putN (p : Int) (pad b) 3 = (((d.putS p (pad b)).2.putS ((p + 1 : Nat) : Int) (pad b)).2.putS ((p + 2 : Nat) : Int) (pad b)) := by
    have st : ∀ (D : DS) (i : Int) (k : Nat), (D.putS i (pad b)).1 = 0 → D.putN i (pad b) (k + 1) = (D.putS i (pad b)).2.putN (i + 1) (pad b) k := fun D i k h => if_pos h
    rw [st _ _ _ a1, show (p : Int) + 1 = ((p + 1 : Nat) : Int) from rfl, st _ _ _ b1, show ((p + 1 : Nat) : Int) + 1 = ((p + 2 : Nat) : Int) from rfl, st _ _ _ c1]
    show (0, _) = _
    rw [← c1]
  rw [e]
  refine ⟨c1, c2, fun j hj => ?_⟩
  rw [c3 j hj, b3 j hj, a3 j hj]
  by_cases e1 : j = p + 2
  · rw [if_pos e1, if_pos (by omega)]
  · rw [if_neg e1]
    by_cases e2 : j = p + 1
    · rw [if_pos e2, if_pos (by omega)]
    · rw [if_neg e2]
      by_cases e3 : j = p
      · rw [if_pos e3, if_pos (by omega)]
      · rw [if_neg e3, if_neg (by omega)]
theorem Up.val_saved {N : Nat} {d : DS} {p : Nat} {x : Sec} (h : ∀ j, p ≤ j → j ≤ p + 2 → d.get j = x) : d.val (p : Int) = x := by
  rw [val_nat, h p (by omega) (by omega), h (p + 1) (by omega) (by omega), h (p + 2) (by omega) (by omega)]
  simp [val3]
theorem new_get {N j : Nat} (hj : j < N) : (DS.new N).get j = zsec := by
  simp [DS.get, DS.new, List.getD_eq_getElem?_getD, List.getElem?_replicate, hj]
/-- A disk whose mark is steady, whose fuse may be laid (but nothing burns it). -/
structure Sty (N p : Nat) (x : Sec) (d : DS) : Prop where
  ok : d.Ok
  up : d.down = false
  len : d.l.length = N
  at3 : At3 d p x x x none none none
theorem Sty.gets {N p : Nat} {x : Sec} {d : DS} (h : Sty N p x d) : d.get p = x ∧ d.get (p + 1) = x ∧ d.get (p + 2) = x := by
  obtain ⟨h1, h2, h3⟩ := h.at3.gets
  simp only [Int.toNat_natCast, show ((p : Int) + 1).toNat = p + 1 by omega, show ((p : Int) + 2).toNat = p + 2 by omega] at h1 h2 h3
  exact ⟨h1, h2, h3⟩
theorem Sty.p {N p : Nat} {x : Sec} {d : DS} (h : Sty N p x d) : p + 2 < d.l.length := (List.getElem?_eq_some_iff.1 h.at3.z).1
theorem Sty.val {N p : Nat} {x : Sec} {d : DS} (h : Sty N p x d) : d.val (p : Int) = x := by
  obtain ⟨h1, h2, h3⟩ := h.gets
  rw [val_nat, h1, h2, h3]; simp [val3]
theorem At3.others {d : DS} {p : Nat} {x y z : Sec} {cx cy cz : Option Sec} (h : At3 d p x y z cx cy cz) {i : Nat} {b : Sec} (hi : i < p ∨ p + 2 < i) : At3 (d.write (i : Int) b).2 p x y z cx cy cz := by
  have hl : (d.write (i : Int) b).2.l = d.l := by
    unfold DS.write
    repeat' split
    all_goals simp only [DS.put, DS.burnt_l]
  have hc : ∀ j : Nat, j ≠ i → (d.write (i : Int) b).2.c (j : Int) = d.c (j : Int) := fun j hj => by
    unfold DS.write
    repeat' split
    all_goals simp only [DS.put, DS.burnt_c]
    rw [if_neg (by omega)]
  exact ⟨by rw [hl]; exact h.x, by rw [hl]; exact h.y, by rw [hl]; exact h.z, by rw [hc _ (by omega)]; exact h.cx, by rw [hc _ (by omega)]; exact h.cy, by rw [hc _ (by omega)]; exact h.cz⟩
theorem DS.crash_len {d : DS} {keep : List Bool} {torn at_ : Int} : (d.crash keep torn at_).l.length = d.l.length := by simp [DS.crash, crashGo_length]
theorem At3.crash0 {d : DS} {p : Nat} {x : Sec} (h : At3 d p x x x none none none) (keep : List Bool) (torn at_ : Int) : At3 (d.crash keep torn at_) p x x x none none none := by
  have k1 := crashGo_at (c := d.c) (keep := keep) (torn := torn) (at_ := at_) d.l 0 0 p x h.x
  have k2 := crashGo_at (c := d.c) (keep := keep) (torn := torn) (at_ := at_) d.l 0 0 (p + 1) x h.y
  have k3 := crashGo_at (c := d.c) (keep := keep) (torn := torn) (at_ := at_) d.l 0 0 (p + 2) x h.z
  simp only [Nat.zero_add] at k1 k2 k3
  obtain ⟨t1, a1, b1⟩ := k1
  obtain ⟨t2, a2, b2⟩ := k2
  obtain ⟨t3, a3, b3⟩ := k3
  rw [b1 h.cx] at a1
  rw [b2 h.cy] at a2
  rw [b3 h.cz] at a3
  exact ⟨a1, a2, a3, rfl, rfl, rfl⟩
theorem Sty.fuse {N p : Nat} {x : Sec} {d : DS} (h : Sty N p x d) {n : Int} (hn : n < 9223372036854775808) : Sty N p x (d.setFuse n) := ⟨h.ok.setFuse hn, h.up, h.len, ⟨h.at3.x, h.at3.y, h.at3.z, h.at3.cx, h.at3.cy, h.at3.cz⟩⟩
theorem Sty.mend {N p : Nat} {x : Sec} {d : DS} (h : Sty N p x d) : d.mend (p : Int) = (0, d) := by
  obtain ⟨h1, h2, h3⟩ := h.gets
  rw [mend_nat (lerr_ok h.up h.p), val_nat, h1, h2, h3]
  simp [rest3, h1, h2, h3, val3, DS.fix]
theorem Up.saved {N : Nat} {d : DS} (h : Up N d) (h0 : ∀ i, d.c i = none) {p : Nat} {x : Sec} (hz : At3 d p x x x none none none) {b : Sec} (hb : b.length ≤ 64) : Up N (d.save p b).2 ∧ Sty N p (pad b) (d.save p b).2 ∧ (d.save p b).1 = 0 := by
  have hp := (List.getElem?_eq_some_iff.1 hz.z).1
  obtain ⟨a1, a2, a3⟩ := h.save (p := p) (by have := h.len; omega) hb
  have hs := save_cases hz h.up (pad_length hb)
  rw [← save_nat hb] at hs
  rcases hs with ⟨e, _⟩ | ⟨e, k1, k2, _⟩
  · exact absurd a1 e
  · exact ⟨a2, ⟨a2.ok, a2.up, a2.len, k1⟩, a1⟩
theorem new_at3 {N p : Nat} (hp : p + 2 < N) : At3 (DS.new N) p zsec zsec zsec none none none := by
  refine ⟨?_, ?_, ?_, rfl, rfl, rfl⟩
  · simp only [DS.new]; rw [List.getElem?_replicate, if_pos (by omega)]
  · simp only [DS.new]; rw [List.getElem?_replicate, if_pos (by omega)]
  · simp only [DS.new]; rw [List.getElem?_replicate, if_pos (by omega)]
theorem write_len_eq {d : DS} {i : Int} {b : Sec} : (d.write i b).2.l.length = d.l.length := by
  unfold DS.write
  repeat' split
  all_goals simp only [DS.put, DS.burnt_l]
theorem sync_len_eq {d : DS} : d.sync.2.l.length = d.l.length := by
  unfold DS.sync
  repeat' split
  all_goals simp only [DS.burnt_l, laid_length]
theorem putS_len {d : DS} {i : Int} {b : Sec} : (d.putS i b).2.l.length = d.l.length := by
  unfold DS.putS
  split
  · rw [sync_len_eq, write_len_eq]
  · exact write_len_eq
theorem putN_len {b : Sec} : ∀ {k : Nat} {d : DS} {i : Int}, (d.putN i b k).2.l.length = d.l.length
  | 0, _, _ => rfl
  | k + 1, d, i => by
    rw [DS.putN]
    split
    · rw [putN_len, putS_len]
    · exact putS_len
theorem save_len {d : DS} {i : Int} {b : Sec} : (d.save i b).2.l.length = d.l.length := by
  unfold DS.save
  split
  · rfl
  · exact putN_len
theorem fix_len {v : Sec} : ∀ {l : List Sec} {d : DS} {i : Int}, (d.fix i v l).2.l.length = d.l.length
  | [], _, _ => rfl
  | x :: r, d, i => by
    rw [fix_step]
    split
    · exact fix_len
    · split
      · rw [fix_len, putS_len]
      · exact putS_len
theorem mend_len {d : DS} {i : Int} : (d.mend i).2.l.length = d.l.length := by
  unfold DS.mend
  split
  · rfl
  · exact fix_len
theorem Mid.after {o n : Sec} {p : Nat} {d : DS} (h : Mid o n p d) (keep : List Bool) (torn at_ : Int) :
    ∃ x y z, At3 (d.crash keep torn at_) p x y z none none none ∧ ((y = o ∧ z = o) ∨ (x = n ∧ z = o) ∨ (x = n ∧ y = n)) := by
  rcases h.crash keep torn at_ with ⟨x, h⟩ | ⟨x, h⟩ | ⟨x, h⟩
  · exact ⟨_, _, _, h, .inl ⟨rfl, rfl⟩⟩
  · exact ⟨_, _, _, h, .inr (.inl ⟨rfl, rfl⟩)⟩
  · exact ⟨_, _, _, h, .inr (.inr ⟨rfl, rfl⟩)⟩
theorem val3_or {x y z o n : Sec} (hc : (y = o ∧ z = o) ∨ (x = n ∧ z = o) ∨ (x = n ∧ y = n)) : val3 x y z = n ∨ val3 x y z = o := by
  unfold val3
  rcases hc with ⟨rfl, rfl⟩ | ⟨rfl, rfl⟩ | ⟨rfl, rfl⟩
  · rw [if_pos rfl]; exact .inr rfl
  · split
    · exact .inr rfl
    · exact .inl rfl
  · split
    · rename_i e; exact .inl e.symm
    · exact .inl rfl
theorem val3_len {x y z o n : Sec} (ho : o.length = 64) (hn : n.length = 64) (hc : (y = o ∧ z = o) ∨ (x = n ∧ z = o) ∨ (x = n ∧ y = n)) : (val3 x y z).length = 64 := by
  rcases val3_or hc with e | e <;> rw [e] <;> assumption
theorem At3.p {d : DS} {p : Nat} {x y z : Sec} {cx cy cz : Option Sec} (h : At3 d p x y z cx cy cz) : p + 2 < d.l.length := (List.getElem?_eq_some_iff.1 h.z).1
theorem At3.fuse {d : DS} {p : Nat} {x y z : Sec} {cx cy cz : Option Sec} (h : At3 d p x y z cx cy cz) (n : Int) : At3 (d.setFuse n) p x y z cx cy cz := ⟨h.x, h.y, h.z, h.cx, h.cy, h.cz⟩
theorem At3.val0 {d : DS} {p : Nat} {x y z : Sec} (h : At3 d p x y z none none none) : d.val (p : Int) = val3 x y z := by rw [h.val]; rfl
end Go.Proofs.Ytekgjjanikicnaa.Sx

namespace Go.Proofs.Ytekgjjanikicnaa.Sx
open Go
set_option linter.unusedSimpArgs false
set_option linter.unusedVariables false
/-- What lasts of a sector. -/
def DS.last (d : DS) (j : Nat) : Sec := d.l.getD j []
/-- A sector in which nothing is on its way, in both alike. -/
structure Quiet (d d' : DS) (j : Nat) : Prop where
  c : d'.c (j : Int) = none
  l : d'.l[j]? = d.l[j]?
theorem Quiet.refl {d : DS} {j : Nat} (h : d.c (j : Int) = none) : Quiet d d j := ⟨h, rfl⟩
theorem Quiet.trans {d d' d'' : DS} {j : Nat} (h : Quiet d d' j) (h' : Quiet d' d'' j) : Quiet d d'' j := ⟨h'.c, h'.l.trans h.l⟩
theorem Quiet.last {d d' : DS} {j : Nat} (h : Quiet d d' j) : d'.last j = d.last j := by simp only [DS.last, List.getD_eq_getElem?_getD, h.l]
theorem get_last {d : DS} {j : Nat} (h : d.c (j : Int) = none) : d.get j = d.last j := by simp only [DS.get, DS.last, h, Option.getD_none]
theorem quiet_burnt {d : DS} {j : Nat} (h : d.c (j : Int) = none) : Quiet d d.burnt j := ⟨by rw [DS.burnt_c]; exact h, by rw [DS.burnt_l]⟩
theorem quiet_write {d : DS} {i : Int} {b : Sec} {j : Nat} (h : d.c (j : Int) = none) (hj : (j : Int) ≠ i) : Quiet d (d.write i b).2 j := by
  unfold DS.write
  repeat' split
  · exact .refl h
  · exact .refl h
  · exact .refl h
  · exact quiet_burnt h
  · refine ⟨?_, ?_⟩
    · simp only [DS.put]; rw [if_neg hj, DS.burnt_c]; exact h
    · simp only [DS.put]; rw [DS.burnt_l]
theorem quiet_sync {d : DS} {j : Nat} (h : d.c (j : Int) = none) : Quiet d d.sync.2 j := by
  unfold DS.sync
  repeat' split
  · exact .refl h
  · exact quiet_burnt h
  · refine ⟨rfl, ?_⟩
    simp only [laid_get, h, Option.getD_none]
    cases d.l[j]? <;> rfl
theorem quiet_putS {d : DS} {i : Int} {b : Sec} {j : Nat} (h : d.c (j : Int) = none) (hj : (j : Int) ≠ i) : Quiet d (d.putS i b).2 j := by
  have h1 := quiet_write (b := b) h hj
  unfold DS.putS
  split
  · exact h1.trans (quiet_sync h1.c)
  · exact h1
theorem quiet_putN {b : Sec} {j : Nat} : ∀ {n : Nat} {d : DS} {i : Int}, d.c (j : Int) = none → (∀ k : Nat, k < n → (j : Int) ≠ i + k) → Quiet d (d.putN i b n).2 j
  | 0, d, i, h, _ => .refl h
  | n + 1, d, i, h, hj => by
    have h0 := hj 0 (by omega)
    have h1 := quiet_putS (b := b) h (i := i) (by simpa using h0)
    rw [DS.putN]
    split
    · exact h1.trans (quiet_putN h1.c fun k hk => by have := hj (k + 1) (by omega); push_cast at this; omega)
    · exact h1
theorem quiet_fix {v : Sec} {j : Nat} : ∀ {l : List Sec} {d : DS} {i : Int}, d.c (j : Int) = none → (∀ k : Nat, k < l.length → (j : Int) ≠ i + k) → Quiet d (d.fix i v l).2 j
  | [], d, i, h, _ => .refl h
  | x :: r, d, i, h, hj => by
    rw [List.length_cons] at hj
    have h0 := hj 0 (by omega)
    have h1 := quiet_putS (b := v) h (i := i) (by simpa using h0)
    have hr : ∀ k : Nat, k < r.length → (j : Int) ≠ i + 1 + k := fun k hk => by have := hj (k + 1) (by omega); push_cast at this; omega
    rw [fix_step]
    split
    · exact quiet_fix h hr
    · split
      · exact h1.trans (quiet_fix h1.c hr)
      · exact h1
theorem quiet_mend {d : DS} {j : Nat} (h : d.c (j : Int) = none) (hj : 3 ≤ j) : Quiet d (d.mend (0 : Nat)).2 j := by
  unfold DS.mend
  split
  · exact .refl h
  · exact quiet_fix h fun k hk => by
      simp only [List.length_cons, List.length_nil] at hk
      omega
theorem quiet_save {d : DS} {b : Sec} {j : Nat} (h : d.c (j : Int) = none) (hj : 3 ≤ j) : Quiet d (d.save (0 : Nat) b).2 j := by
  unfold DS.save
  split
  · exact .refl h
  · exact quiet_putN h fun k hk => by omega
theorem quiet_crash {d : DS} {keep : List Bool} {torn at_ : Int} {j : Nat} (h : d.c (j : Int) = none) : Quiet d (d.crash keep torn at_) j :=
  ⟨rfl, by simp only [DS.crash]; exact crashGo_get _ 0 0 j (by rw [Nat.zero_add]; exact h)⟩
theorem quiet_fuse {d : DS} {n : Int} {j : Nat} (h : d.c (j : Int) = none) : Quiet d (d.setFuse n) j := ⟨h, rfl⟩
/-- The mark's value of entries. -/
def mkL (l : List (List UInt8)) : Sec := mkV l.length (useN l)
theorem mkL_length (l : List (List UInt8)) : (mkL l).length = 64 := mkV_length _ _
/-- The entries M last, and are quiet; the mark is that of K, or that of M, or on its way. -/
structure Keep (N : Nat) (K M : List (List UInt8)) (d : DS) : Prop where
  ok : d.Ok
  len : d.l.length = N
  mid : Mid (mkL K) (mkL M) 0 d
  liesK : Lies d.last 0 K
  lies : Lies d.last 0 M
  quiet : ∀ j, 3 ≤ j → j < 3 + useN M → d.c (j : Int) = none
  quietK : ∀ j, 3 ≤ j → j < 3 + useN K → d.c (j : Int) = none
  fits : useN M + 3 ≤ N
  fitsK : useN K + 3 ≤ N
  small : ∀ b ∈ M, b.length ≤ 200
  smallK : ∀ b ∈ K, b.length ≤ 200
/-- The mark is steady. -/
structure Sted (N : Nat) (K : List (List UInt8)) (d : DS) : Prop where
  ok : d.Ok
  len : d.l.length = N
  at3 : At3 d 0 (mkL K) (mkL K) (mkL K) none none none
  lies : Lies d.last 0 K
  quiet : ∀ j, 3 ≤ j → j < 3 + useN K → d.c (j : Int) = none
  fits : useN K + 3 ≤ N
  small : ∀ b ∈ K, b.length ≤ 200
theorem Sted.keep {N : Nat} {K : List (List UInt8)} {d : DS} (h : Sted N K d) : Keep N K K d :=
  ⟨h.ok, h.len, .inl ⟨_, _, h.at3⟩, h.lies, h.lies, h.quiet, h.quiet, h.fits, h.fits, h.small, h.small⟩
theorem Sted.get {N : Nat} {K : List (List UInt8)} {d : DS} (h : Sted N K d) : opnV d.get N (mkL K) = some K := by
  have hlen := h.len
  have hf := h.fits
  have hol := h.ok.len
  refine opnV_lies (fun j hj => h.ok.get_length (by omega)) (h.lies.congr fun j h0 hj => ?_) h.small hf (by omega)
  exact get_last (h.quiet _ (by omega) (by omega))
theorem Sted.val {N : Nat} {K : List (List UInt8)} {d : DS} (h : Sted N K d) : d.val ((0 : Nat) : Int) = mkL K := by
  rw [h.at3.val0]; simp [val3]
theorem Sted.mend {N : Nat} {K : List (List UInt8)} {d : DS} (h : Sted N K d) (hd : d.down = false) : d.mend ((0 : Nat) : Int) = (0, d) :=
  Sty.mend (N := N) ⟨h.ok, hd, h.len, h.at3⟩
theorem Sted.fuse {N : Nat} {K : List (List UInt8)} {d : DS} (h : Sted N K d) {n : Int} (hn : n < 9223372036854775808) : Sted N K (d.setFuse n) :=
  ⟨h.ok.setFuse hn, h.len, h.at3.fuse n, h.lies, h.quiet, h.fits, h.small⟩
theorem Keep.fuse {N : Nat} {K M : List (List UInt8)} {d : DS} (h : Keep N K M d) {n : Int} (hn : n < 9223372036854775808) : Keep N K M (d.setFuse n) := by
  refine ⟨h.ok.setFuse hn, h.len, ?_, h.liesK, h.lies, h.quiet, h.quietK, h.fits, h.fitsK, h.small, h.smallK⟩
  rcases h.mid with ⟨x, cx, h1⟩ | ⟨x, cx, h1⟩ | ⟨x, cx, h1⟩
  · exact .inl ⟨x, cx, h1.fuse n⟩
  · exact .inr (.inl ⟨x, cx, h1.fuse n⟩)
  · exact .inr (.inr ⟨x, cx, h1.fuse n⟩)
/-- Behind a crash. -/
structure Back (N : Nat) (K M : List (List UInt8)) (d : DS) : Prop where
  keep : Keep N K M d
  up : d.down = false
  at3 : ∃ x y z, At3 d 0 x y z none none none ∧ ((y = mkL K ∧ z = mkL K) ∨ (x = mkL M ∧ z = mkL K) ∨ (x = mkL M ∧ y = mkL M))
theorem Keep.crash {N : Nat} {K M : List (List UInt8)} {d : DS} (h : Keep N K M d) (keep : List Bool) (torn at_ : Int) : Back N K M (d.crash keep torn at_) := by
  obtain ⟨x, y, z, h1, h2⟩ := h.mid.after keep torn at_
  have hq : ∀ j, 3 ≤ j → j < 3 + useN M → Quiet d (d.crash keep torn at_) j := fun j h3 h4 => quiet_crash (h.quiet j h3 h4)
  have hqK : ∀ j, 3 ≤ j → j < 3 + useN K → Quiet d (d.crash keep torn at_) j := fun j h3 h4 => quiet_crash (h.quietK j h3 h4)
  refine ⟨⟨h.ok.crash keep torn at_, by rw [DS.crash_len]; exact h.len, ?_, ?_, ?_, fun j _ _ => rfl, fun j _ _ => rfl, h.fits, h.fitsK, h.small, h.smallK⟩, rfl, x, y, z, h1, h2⟩
  · rcases h2 with ⟨rfl, rfl⟩ | ⟨rfl, rfl⟩ | ⟨rfl, rfl⟩
    · exact .inl ⟨_, _, h1⟩
    · exact .inr (.inl ⟨_, _, h1⟩)
    · exact .inr (.inr ⟨_, _, h1⟩)
  · exact h.liesK.congr fun j h3 h4 => (hqK _ (by omega) (by omega)).last
  · exact h.lies.congr fun j h3 h4 => (hq _ (by omega) (by omega)).last
theorem Back.fuse {N : Nat} {K M : List (List UInt8)} {d : DS} (h : Back N K M d) {n : Int} (hn : n < 9223372036854775808) : Back N K M (d.setFuse n) := by
  obtain ⟨x, y, z, h1, h2⟩ := h.at3
  exact ⟨h.keep.fuse hn, h.up, x, y, z, h1.fuse n, h2⟩
/-- A mend: lost, it leaves what it found; else it is one of the two. -/
theorem Back.mend {N : Nat} {K M : List (List UInt8)} {d : DS} (h : Back N K M d) :
    ((d.mend ((0 : Nat) : Int)).1 ≠ 0 ∧ Keep N K M (d.mend ((0 : Nat) : Int)).2) ∨ ((d.mend ((0 : Nat) : Int)).1 = 0 ∧ (d.mend ((0 : Nat) : Int)).2.down = false ∧ ∃ L, (L = K ∨ L = M) ∧ Sted N L (d.mend ((0 : Nat) : Int)).2) := by
  obtain ⟨x, y, z, h1, h2⟩ := h.at3
  have hk := h.keep
  have hq : ∀ j, 3 ≤ j → j < 3 + useN M → Quiet d (d.mend ((0 : Nat) : Int)).2 j := fun j h3 h4 => quiet_mend (hk.quiet j h3 h4) h3
  have hqK : ∀ j, 3 ≤ j → j < 3 + useN K → Quiet d (d.mend ((0 : Nat) : Int)).2 j := fun j h3 h4 => quiet_mend (hk.quietK j h3 h4) h3
  have hok := hk.ok.mend ((0 : Nat) : Int)
  have hlen : (d.mend ((0 : Nat) : Int)).2.l.length = N := by rw [mend_len]; exact hk.len
  have lK := hk.liesK.congr (g' := (d.mend ((0 : Nat) : Int)).2.last) fun j h3 h4 => (hqK _ (by omega) (by omega)).last
  have lM := hk.lies.congr (g' := (d.mend ((0 : Nat) : Int)).2.last) fun j h3 h4 => (hq _ (by omega) (by omega)).last
  rcases mend_cases h1 h.up (mkL_length K) (mkL_length M) h2 with ⟨e, hm⟩ | ⟨e, ha, hd⟩
  · exact .inl ⟨e, hok, hlen, hm, lK, lM, fun j h3 h4 => (hq j h3 h4).c, fun j h3 h4 => (hqK j h3 h4).c, hk.fits, hk.fitsK, hk.small, hk.smallK⟩
  · refine .inr ⟨e, hd, ?_⟩
    rcases val3_or h2 with ev | ev
    · rw [ev] at ha
      exact ⟨M, .inr rfl, hok, hlen, ha, lM, fun j h3 h4 => (hq j h3 h4).c, hk.fits, hk.small⟩
    · rw [ev] at ha
      exact ⟨K, .inl rfl, hok, hlen, ha, lK, fun j h3 h4 => (hqK j h3 h4).c, hk.fitsK, hk.smallK⟩
/-- With a power that stays, a mend goes well. -/
theorem Back.mend_ok {N : Nat} {K M : List (List UInt8)} {d : DS} (h : Back N K M d) (hf : d.fuse = -1) : (d.mend ((0 : Nat) : Int)).1 = 0 := by
  have hp : (0 : Nat) + 2 < d.l.length := by have := h.keep.len; have := h.keep.fits; omega
  have hU : Up N d := ⟨h.keep.ok, hf, h.up, h.keep.len⟩
  rw [mend_nat (lerr_ok h.up hp)]
  have hv : (d.val ((0 : Nat) : Int)).length = 64 := by
    rw [val_nat]; unfold val3
    split <;> exact h.keep.ok.get_length (by omega)
  have key : ∀ (l : List Sec) (e : DS) (i : Nat), Up N e → i + l.length ≤ N → (e.fix (i : Int) (d.val ((0 : Nat) : Int)) l).1 = 0 := by
    intro l
    induction l with
    | nil => intro e i _ _; rfl
    | cons x r ih =>
      intro e i he hi
      rw [List.length_cons] at hi
      rw [fix_step]
      split
      · exact ih e (i + 1) he (by omega)
      · obtain ⟨a1, a2, _⟩ := he.putS_eq (i := i) (by omega) hv
        rw [if_pos a1]
        exact ih _ (i + 1) a2 (by omega)
  refine key _ d 0 hU ?_
  simp only [rest3, List.length_cons, List.length_nil]
  have := h.keep.len
  omega
/-- Entries that wait: they stand on the disk, behind those that are kept. -/
structure Live (N : Nat) (K w : List (List UInt8)) (d : DS) : Prop where
  sted : Sted N K d
  up : d.down = false
  wait : Lies d.get (useN K) w
  fits : useN K + useN w + 3 ≤ N
  small : ∀ b ∈ w, b.length ≤ 200
theorem Sted.live {N : Nat} {K : List (List UInt8)} {d : DS} (h : Sted N K d) (hd : d.down = false) : Live N K [] d :=
  ⟨h, hd, trivial, by have := h.fits; simpa [useN_nil] using this, fun b hb => by cases hb⟩
theorem new_sted {N : Nat} (h : 3 ≤ N) (h2 : N ≤ 4096) : Sted N [] (DS.new N) := by
  refine ⟨DS.new_ok h2, by simp [DS.new], ?_, trivial, fun j _ _ => rfl, by simpa [useN_nil] using h, fun b hb => by cases hb⟩
  have := new_at3 (N := N) (p := 0) (by omega)
  have e : mkL [] = zsec := mkV_zero
  rw [e]
  exact this
/-- Sectors are written, one behind the other, till one fails. -/
def DS.wrN (d : DS) (i : Int) : List Sec → Int × DS
  | [] => (0, d)
  | b :: r => if (d.write i b).1 = 0 then (d.write i b).2.wrN (i + 1) r else d.write i b
theorem DS.Ok.wrN {d : DS} (h : d.Ok) (i : Int) (l : List Sec) : (d.wrN i l).2.Ok := by
  induction l generalizing d i with
  | nil => exact h
  | cons b r ih =>
    unfold DS.wrN
    split
    · exact ih (h.write i b) _
    · exact h.write i b
theorem wrN_len {l : List Sec} : ∀ {d : DS} {i : Int}, (d.wrN i l).2.l.length = d.l.length := by
  induction l with
  | nil => intro d i; rfl
  | cons b r ih =>
    intro d i
    unfold DS.wrN
    split
    · rw [ih, write_len_eq]
    · exact write_len_eq
theorem quiet_wrN {j : Nat} : ∀ {l : List Sec} {d : DS} {i : Int}, d.c (j : Int) = none → (j : Int) < i → Quiet d (d.wrN i l).2 j
  | [], d, i, h, _ => .refl h
  | b :: r, d, i, h, hj => by
    have h1 := quiet_write (b := b) h (i := i) (by omega)
    unfold DS.wrN
    split
    · exact h1.trans (quiet_wrN h1.c (by omega))
    · exact h1
theorem write_get {d : DS} {i : Nat} {b : Sec} (h : (d.write (i : Int) b).1 = 0) (j : Nat) : (d.write (i : Int) b).2.get j = if j = i then b else d.get j := by
  unfold DS.write at h ⊢
  split at h
  · simp at h
  · split at h
    · simp at h
    · split at h
      · simp at h
      · split at h
        · simp at h
        · rename_i h1 h2 h3 h4
          rw [if_neg h1, if_neg h2, if_neg h3, if_neg h4]
          simp only [DS.get, DS.put, DS.burnt_c, DS.burnt_l]
          by_cases e : j = i
          · subst e; rw [if_pos rfl, if_pos rfl]; rfl
          · rw [if_neg (by omega), if_neg e]
theorem write_up {d : DS} {i : Int} {b : Sec} (h : (d.write i b).1 = 0) : (d.write i b).2.down = false := by
  unfold DS.write at h ⊢
  split at h
  · simp at h
  · rename_i h0
    split at h
    · simp at h
    · split at h
      · simp at h
      · split at h
        · simp at h
        · rename_i h1 h2 h3
          rw [if_neg h0, if_neg h1, if_neg h2, if_neg h3]
          simp only [DS.put, DS.burnt]
          rw [if_neg h3]
          split <;> simpa using h0
/-- All went well: the sectors stand there, and the others as they did. -/
theorem wrN_get {l : List Sec} : ∀ {d : DS} {i : Nat}, d.down = false → (d.wrN (i : Int) l).1 = 0 → (d.wrN (i : Int) l).2.down = false ∧ ∀ j, (d.wrN (i : Int) l).2.get j = if i ≤ j ∧ j < i + l.length then l.getD (j - i) [] else d.get j := by
  induction l with
  | nil => intro d i hd _; exact ⟨hd, fun j => by rw [if_neg (by simp)]; rfl⟩
  | cons b r ih =>
    intro d i hd h
    unfold DS.wrN at h ⊢
    split at h
    · rename_i h0
      rw [if_pos h0]
      obtain ⟨k1, k2⟩ := ih (d := (d.write (i : Int) b).2) (i := i + 1) (write_up h0) h
      refine ⟨k1, fun j => ?_⟩
      have := k2 j
      rw [show ((i + 1 : Nat) : Int) = (i : Int) + 1 from rfl] at this
      rw [this, write_get h0, List.length_cons]
      by_cases e1 : j = i
      · subst e1
        rw [if_neg (by omega), if_pos rfl, if_pos (by omega), Nat.sub_self]; rfl
      · by_cases e2 : i + 1 ≤ j ∧ j < i + 1 + r.length
        · rw [if_pos e2, if_pos (by omega), show j - i = (j - (i + 1)) + 1 by omega]; rfl
        · rw [if_neg e2, if_neg e1, if_neg (by omega)]
    · rename_i h0
      exact absurd h h0
/-- A write at a place that is, of the right size, fails for lack of power alone. -/
theorem write_cases {d : DS} {i : Nat} {b : Sec} (hd : d.down = false) (hi : i < d.l.length) (hb : b.length = 64) : (d.write (i : Int) b).1 = 0 ∨ ((d.write (i : Int) b).1 = 6 ∧ (d.write (i : Int) b).2.down = true ∧ (d.write (i : Int) b).2.c = d.c ∧ (d.write (i : Int) b).2.l = d.l ∧ d.fuse = 0) := by
  unfold DS.write
  rw [if_neg (by simp [hd]), if_neg (by omega), if_neg (by omega)]
  split
  · rename_i h
    right
    refine ⟨rfl, ?_, d.burnt_c, d.burnt_l, h⟩
    unfold DS.burnt; rw [if_pos h]
  · exact .inl rfl
theorem wrN_cases {l : List Sec} : ∀ {d : DS} {i : Nat}, d.down = false → i + l.length ≤ d.l.length → (∀ b ∈ l, b.length = 64) → (d.wrN (i : Int) l).1 = 0 ∨ ((d.wrN (i : Int) l).1 = 6 ∧ (d.wrN (i : Int) l).2.down = true) := by
  induction l with
  | nil => intro d i _ _ _; exact .inl rfl
  | cons b r ih =>
    intro d i hd hi hb
    rw [List.length_cons] at hi
    unfold DS.wrN
    rcases write_cases hd (i := i) (by omega) (hb b (List.mem_cons_self ..)) with h0 | ⟨h0, h1, _⟩
    · rw [if_pos h0]
      exact ih (d := (d.write (i : Int) b).2) (i := i + 1) (write_up h0) (by rw [write_len_eq]; omega) (fun c hc => hb c (List.mem_cons_of_mem _ hc))
    · rw [if_neg (by omega)]
      exact .inr ⟨h0, h1⟩
/-- An entry, sector by sector. -/
def entS (b : List UInt8) : List Sec := (List.range (takesN b.length)).map fun i => ((entB b).drop (64 * i)).take 64
theorem entS_length (b : List UInt8) : (entS b).length = takesN b.length := by simp [entS]
theorem entS_sec {b : List UInt8} : ∀ s ∈ entS b, s.length = 64 := by
  intro s hs
  simp only [entS, List.mem_map, List.mem_range] at hs
  obtain ⟨i, hi, rfl⟩ := hs
  rw [List.length_take, List.length_drop, entB_length]
  omega
theorem secs_chunks {g : Nat → Sec} {i : Nat} {x : List UInt8} : ∀ {k : Nat}, (∀ j, j < k → g (i + j) = (x.drop (64 * j)).take 64) → 64 * k ≤ x.length → secs g i k = x.take (64 * k)
  | 0, _, _ => by simp [secs]
  | k + 1, h, hx => by
    rw [secs, secs_chunks (fun j hj => h j (by omega)) (by omega), h k (by omega), show 64 * (k + 1) = 64 * k + 64 by omega, List.take_add]
theorem Live.append_ok {N : Nat} {K w : List (List UInt8)} {d : DS} (h : Live N K w d) {b : List UInt8} (hb : b.length ≤ 200) (hf : useN K + useN w + takesN b.length + 3 ≤ N) (he : (d.wrN ((3 + (useN K + useN w) : Nat) : Int) (entS b)).1 = 0) :
    Live N K (w ++ [b]) (d.wrN ((3 + (useN K + useN w) : Nat) : Int) (entS b)).2 := by
  obtain ⟨k1, k2⟩ := wrN_get h.up he
  have hs := h.sted
  have hq : ∀ j : Nat, j < 3 + (useN K + useN w) → d.c (j : Int) = none → Quiet d (d.wrN ((3 + (useN K + useN w) : Nat) : Int) (entS b)).2 j := fun j hj hc => quiet_wrN hc (by omega)
  have hq3 : ∀ j, 3 ≤ j → j < 3 + useN K → Quiet d (d.wrN ((3 + (useN K + useN w) : Nat) : Int) (entS b)).2 j := fun j h3 h4 => hq j (by omega) (hs.quiet j h3 h4)
  have q0 := hq 0 (by omega) hs.at3.cx
  have q1 := hq 1 (by omega) hs.at3.cy
  have q2 := hq 2 (by omega) hs.at3.cz
  refine ⟨⟨hs.ok.wrN _ _, by rw [wrN_len]; exact hs.len, ⟨by rw [q0.l]; exact hs.at3.x, by rw [q1.l]; exact hs.at3.y, by rw [q2.l]; exact hs.at3.z, q0.c, q1.c, q2.c⟩, hs.lies.congr fun j h3 h4 => (hq3 _ (by omega) (by omega)).last, fun j h3 h4 => (hq3 j h3 h4).c, hs.fits, hs.small⟩, k1, ?_, ?_, ?_⟩
  · rw [Lies.append]
    refine ⟨h.wait.congr fun j h3 h4 => ?_, ?_, trivial⟩
    · rw [k2, if_neg (by omega)]
    · have hx := entB_length b
      have hch : secs (d.wrN ((3 + (useN K + useN w) : Nat) : Int) (entS b)).2.get (3 + (useN K + useN w)) (takesN b.length) = (entB b).take (64 * takesN b.length) := by
        refine secs_chunks (fun j hj => ?_) (by omega)
        rw [k2, if_pos (by rw [entS_length]; omega), show 3 + (useN K + useN w) + j - (3 + (useN K + useN w)) = j by omega]
        simp only [entS, List.getD_eq_getElem?_getD, List.getElem?_map, List.getElem?_range hj, Option.map_some, Option.getD_some]
      rw [hch, List.take_of_length_le (by omega)]
  · rw [useN_append, useN_one]; omega
  · intro c hc
    rcases List.mem_append.1 hc with hc | hc
    · exact h.small c hc
    · rw [List.mem_singleton.1 hc]; exact hb
theorem Live.append_lost {N : Nat} {K w : List (List UInt8)} {d : DS} (h : Live N K w d) (l : List Sec) : Sted N K (d.wrN ((3 + (useN K + useN w) : Nat) : Int) l).2 := by
  have hs := h.sted
  have hq : ∀ j : Nat, j < 3 + (useN K + useN w) → d.c (j : Int) = none → Quiet d (d.wrN ((3 + (useN K + useN w) : Nat) : Int) l).2 j := fun j hj hc => quiet_wrN hc (by omega)
  have hq3 : ∀ j, 3 ≤ j → j < 3 + useN K → Quiet d (d.wrN ((3 + (useN K + useN w) : Nat) : Int) l).2 j := fun j h3 h4 => hq j (by omega) (hs.quiet j h3 h4)
  have q0 := hq 0 (by omega) hs.at3.cx
  have q1 := hq 1 (by omega) hs.at3.cy
  have q2 := hq 2 (by omega) hs.at3.cz
  exact ⟨hs.ok.wrN _ _, by rw [wrN_len]; exact hs.len, ⟨by rw [q0.l]; exact hs.at3.x, by rw [q1.l]; exact hs.at3.y, by rw [q2.l]; exact hs.at3.z, q0.c, q1.c, q2.c⟩, hs.lies.congr fun j h3 h4 => (hq3 _ (by omega) (by omega)).last, fun j h3 h4 => (hq3 j h3 h4).c, hs.fits, hs.small⟩
theorem Sted.sync_lost {N : Nat} {K : List (List UInt8)} {d : DS} (h : Sted N K d) : Sted N K d.sync.2 := by
  have q : ∀ j : Nat, d.c (j : Int) = none → Quiet d d.sync.2 j := fun j hj => quiet_sync hj
  have q0 := q 0 h.at3.cx
  have q1 := q 1 h.at3.cy
  have q2 := q 2 h.at3.cz
  exact ⟨h.ok.sync, by rw [sync_len_eq]; exact h.len, ⟨by rw [q0.l]; exact h.at3.x, by rw [q1.l]; exact h.at3.y, by rw [q2.l]; exact h.at3.z, q0.c, q1.c, q2.c⟩, h.lies.congr fun j h3 h4 => (q _ (h.quiet _ (by omega) (by omega))).last, fun j h3 h4 => (q j (h.quiet j h3 h4)).c, h.fits, h.small⟩
theorem sync_good {d : DS} (h : d.sync.1 = 0) : d.sync.2.c = (fun _ => none) ∧ d.sync.2.l = laid d.l d.c ∧ d.sync.2.down = false ∧ d.down = false := by
  unfold DS.sync at h ⊢
  split at h
  · simp at h
  · rename_i h0
    split at h
    · simp at h
    · rename_i h1
      rw [if_neg h0, if_neg h1]
      refine ⟨rfl, rfl, ?_, by simpa using h0⟩
      simp only [DS.burnt]
      rw [if_neg h1]
      split <;> simpa using h0
theorem sync_last {d : DS} (h : d.sync.1 = 0) {j : Nat} (hj : j < d.l.length) : d.sync.2.last j = d.get j := by
  obtain ⟨h1, h2, h3, h4⟩ := sync_good h
  simp only [DS.last, DS.get, h2, List.getD_eq_getElem?_getD, laid_get, List.getElem?_eq_getElem hj, Option.map_some, Option.getD_some]
/-- A commit: the entries last; the mark is old, or new, or both were told. -/
theorem Live.commit {N : Nat} {K w : List (List UInt8)} {d : DS} (h : Live N K w d) (hs : d.sync.1 = 0) :
    ((d.sync.2.putN ((0 : Nat) : Int) (mkL (K ++ w)) 3).1 ≠ 0 ∧ Keep N K (K ++ w) (d.sync.2.putN ((0 : Nat) : Int) (mkL (K ++ w)) 3).2) ∨
      ((d.sync.2.putN ((0 : Nat) : Int) (mkL (K ++ w)) 3).1 = 0 ∧ Live N (K ++ w) [] (d.sync.2.putN ((0 : Nat) : Int) (mkL (K ++ w)) 3).2) := by
  obtain ⟨h1, h2, h3, h4⟩ := sync_good hs
  have hst := h.sted.sync_lost
  have hlen := h.sted.len
  have hlenS : d.sync.2.l.length = N := by rw [sync_len_eq]; exact hlen
  have hf := h.fits
  have hM : Lies d.sync.2.last 0 (K ++ w) := by
    rw [Lies.append, Nat.zero_add]
    refine ⟨hst.lies, h.wait.congr fun j h5 h6 => sync_last hs (by omega)⟩
  have hq : ∀ j : Nat, 3 ≤ j → Quiet d.sync.2 (d.sync.2.putN ((0 : Nat) : Int) (mkL (K ++ w)) 3).2 j := fun j hj => quiet_putN (by rw [h1]) fun k hk => by omega
  have huse : useN (K ++ w) = useN K + useN w := useN_append _ _
  have hsm : ∀ b ∈ K ++ w, b.length ≤ 200 := fun b hb => by
    rcases List.mem_append.1 hb with hb | hb
    · exact h.sted.small b hb
    · exact h.small b hb
  have lM := hM.congr (g' := (d.sync.2.putN ((0 : Nat) : Int) (mkL (K ++ w)) 3).2.last) fun j h5 h6 => (hq _ (by omega)).last
  have hok := h.sted.ok.sync.putN ((0 : Nat) : Int) (mkL (K ++ w)) 3
  have hpl : (d.sync.2.putN ((0 : Nat) : Int) (mkL (K ++ w)) 3).2.l.length = N := by rw [putN_len]; exact hlenS
  rcases save_cases hst.at3 h3 (mkL_length (K ++ w)) with ⟨e, hm⟩ | ⟨e, ha, hd, _⟩
  · refine .inl ⟨e, hok, hpl, hm, ?_, lM, fun j h5 _ => (hq j h5).c, fun j h5 _ => (hq j h5).c, by omega, h.sted.fits, hsm, h.sted.small⟩
    exact hst.lies.congr fun j h5 h6 => (hq _ (by omega)).last
  · exact .inr ⟨e, Sted.live ⟨hok, hpl, ha, lM, fun j h5 _ => (hq j h5).c, by omega, hsm⟩ hd⟩
end Go.Proofs.Ytekgjjanikicnaa.Sx

namespace Go.Proofs.Ytekgjjanikicnaa.Sx
open Go
set_option maxRecDepth 100000
set_option linter.unusedSimpArgs false
set_option linter.unusedVariables false

/-! ### Names -/
def nameSign (c : UInt8) : Bool := (65 ≤ c.toNat && c.toNat ≤ 90) || (97 ≤ c.toNat && c.toNat ≤ 122) || (48 ≤ c.toNat && c.toNat ≤ 57) || c.toNat == 46 || c.toNat == 45 || c.toNat == 47
def nameOk (bs : List UInt8) : Bool := bs.all nameSign && decide (1 ≤ bs.length ∧ bs.length ≤ 40)
theorem sbyte_get {s : ByteArray} {i : Nat} (hi : i < s.size) : s.data.toList[i]? = some (sbyte s i) := by
  have hl : i < s.data.toList.length := by simpa using hi
  simp only [sbyte, List.getD_eq_getElem?_getD, List.getElem?_eq_getElem hl, Option.getD_some]
theorem take_succ_of {α : Type} {l : List α} {i : Nat} {x : α} (h : l[i]? = some x) : l.take (i + 1) = l.take i ++ [x] := by
  obtain ⟨hl, rfl⟩ := List.getElem?_eq_some_iff.1 h
  exact List.take_succ_eq_append_getElem hl
theorem sbyte_take {s : ByteArray} {i : Nat} (hi : i < s.size) (p : UInt8 → Bool) (ha : (s.data.toList.take i).all p = true) (hb : p (sbyte s i) = true) : (s.data.toList.take (i + 1)).all p = true := by
  rw [take_succ_of (sbyte_get hi), List.all_append, ha]
  simp [hb]
theorem all_false {s : ByteArray} {i : Nat} (hi : i < s.size) (p : UInt8 → Bool) (hb : p (sbyte s i) = false) : s.data.toList.all p = false := by
  rw [List.all_eq_false]
  exact ⟨_, List.mem_of_getElem? (sbyte_get hi), by simp [hb]⟩
theorem tName (s : ByteArray) (hs : s.size < 9223372036854775808) : Tri Try.prog 24 [.v (.string s)] [] 0 [] (RetE (α := Unit) 0 (fun _ => True) (fun _ => .v (.bool (nameOk s.data.toList))) (fun _ => []) 0 (fun _ => [])) := by
  refine Tri.one ?_
  refine Tri.of_code tok Try.func24 rfl rfl rfl (by decide) rfl (Nat.le_of_ble_eq_true rfl) ?_
  conv => whnf
  refine loop_by tok (α := Nat) (fun i => ⟨[(0, .v (.string s)), (2, .b false), (6, .v (.int .i64 s.size)), (7, .v (.int .i64 i))], [], 0, []⟩) (fun i => i ≤ s.size ∧ (s.data.toList.take i).all nameSign = true) (fun i => s.size - i) 0 [] (by simp) ⟨rfl, ?_, trivial, fun f hf => hf⟩ ?_
  · exact ⟨fun _ _ _ => rfl, fun _ _ _ => rfl, fun _ _ _ => rfl, fun _ _ _ => rfl, trivial⟩
  · rintro i ⟨hi, ha⟩
    conv => whnf
    repeat' ((first | refine w1 (h := ?_) | refine w2 ?_ ?_ | refine w3 (h := ?_) | refine w4 (h := ?_) | refine hD _ _ ?_ | refine hL _ _ ?_ | (intro h; (try simp only [n1, n2, n3, n4, n5, n6] at h); first | (exfalso; omega) | (cases h; done) | skip)) <;> (conv => whnf))
    all_goals (try simp only [Int.toNat_natCast] at *)
    all_goals first
      | (refine ⟨i + 1, [], ⟨⟨by omega, sbyte_take (by omega) _ ha ?_⟩, by omega⟩, rfl, ⟨fun _ _ _ => rfl, fun _ _ _ => rfl, fun _ _ _ => rfl, fun _ _ _ => rfl, trivial⟩, trivial, fun f hf => hf⟩
         simp only [nameSign, Bool.or_eq_true, Bool.and_eq_true, decide_eq_true_eq, beq_iff_eq]; omega)
      | (refine Ret.none rfl (fun ρ => ?_) (fun g h => h)
         have hf : nameSign (sbyte s i) = false := by
           rw [← Bool.not_eq_true]
           simp only [nameSign, Bool.or_eq_true, Bool.and_eq_true, decide_eq_true_eq, beq_iff_eq]; omega
         simp only [nameOk, all_false (by omega) _ hf]; rfl)
      | (refine Ret.none rfl (fun ρ => ?_) (fun g h => h)
         obtain rfl : i = s.size := by omega
         rw [List.take_of_length_le (by simp)] at ha
         simp only [den, nameOk, ha, Bool.true_and]
         congr 1
         rw [Bool.eq_iff_iff]
         simp; omega)

/-! ### The builder -/
theorem CellsAt.shape {w : World} {b : Nat} {cs : List Value} {T : TypeId} (h : CellsAt w b cs T) : w.shape? b = some (T, cs.length) := by
  obtain ⟨fz, h, _⟩ := h
  simp [World.shape?, h]
theorem CellsAt.frozen {w : World} {b : Nat} {cs : List Value} {T : TypeId} (h : CellsAt w b cs T) {o : Nat} (ho : o < cs.length) : w.frozen? ⟨b, o, none⟩ = false := by
  obtain ⟨fz, h, hf⟩ := h
  simp [World.frozen?, h]
  omega
theorem cellsAt_setCell {w : World} {b o : Nat} {cs : List Value} {T : TypeId} (h : CellsAt w b cs T) (v : Value) : CellsAt (w.setCell ⟨b, o, none⟩ v) b (cs.set o v) T := by
  obtain ⟨fz, h, hf⟩ := h
  refine ⟨fz, ?_, by simpa using hf⟩
  simp [World.setCell, Array.getElem?_modify, h]
theorem keeps_setCell (w : World) (b o : Nat) (v : Value) : Keeps (fun k => k = b) w (w.setCell ⟨b, o, none⟩ v) := by
  refine ⟨rfl, rfl, rfl, by simp [World.setCell], fun k hk hn => ?_⟩
  simp only [World.setCell, Array.getElem?_modify]
  rw [if_neg (Ne.symm hn)]
set_option maxHeartbeats 1000000 in
theorem cCopyFresh (b : Nat) (w : World) (h0 : w.cell? ⟨b, 0, none⟩ = some (.pointer none)) (hsh : w.shape? b = some (91, 2)) (hf0 : w.frozen? ⟨b, 0, none⟩ = false) :
    Calls Try.prog 81 #[.pointer (some ⟨b, 0, none⟩)] w fun e w' => e = .returned (.tuple #[]) ∧ w' = w.setCell ⟨b, 0, none⟩ (.pointer (some ⟨b, 0, none⟩)) := by
  obtain ⟨j, z, hj, hjs, _⟩ := (tyFacts (tok 91 _ rfl)).info
  go_enter Try.func81, Try.ntmps81
  go_wp2
  rw [Lib.run_to_unsafe w ⟨b, 0, none⟩ Try.underlying89 Try.underlying122 hj (by rw [hjs]; decide) hsh (Nat.zero_lt_succ 1)]
  simp only [Result.andThen]
  rw [Oper.upon_value]
  go_wp2
  rw [run_callFunc_extern Try.func87 (by kernel_rfl) (by kernel_rfl) (by kernel_rfl) (e := Extern.AbiNoEscape.same) (by kernel_rfl)]
  rw [Lib.run_noEscape]
  simp only [Result.andThen]
  rw [Oper.upon_value]
  go_wp2
  rw [Lib.run_from_unsafe w ⟨b, 0, none⟩ Try.underlying122 Try.underlying89 hj hsh (by kernel_rfl)]
  simp only [Result.andThen]
  rw [Oper.upon_value]
  go_wp2
  go_end0
  exact ⟨rfl, rfl⟩
set_option maxHeartbeats 1000000 in
theorem cCopyUsed (b : Nat) (w : World) (h0 : w.cell? ⟨b, 0, none⟩ = some (.pointer (some ⟨b, 0, none⟩))) :
    Calls Try.prog 81 #[.pointer (some ⟨b, 0, none⟩)] w fun e w' => e = .returned (.tuple #[]) ∧ w' = w := by
  obtain ⟨j, z, hj, hjs, _⟩ := (tyFacts (tok 91 _ rfl)).info
  go_enter Try.func81, Try.ntmps81
  go_wp2
  rw [Lib.run_neq_ptr_same w _ Try.underlying89 hj]
  go_wp2
  go_end0
  exact ⟨rfl, rfl⟩
theorem tCopyFresh : Tri Try.prog 81 [.p 0 0] [(0, .cells [.v (.pointer none), .v (.slice none 0 0)] 91)] 1 [] (RetE (α := Unit) 1 (fun _ => True) (fun _ => .tup []) (fun _ => [(0, .cells [.p 0 0, .v (.slice none 0 0)] 91)]) 1 (fun _ => [])) := by
  refine ⟨trivial, fun ρ F w hh hrob => .inl ⟨by simp [callFunc, Try.func81, Try.f81], ?_⟩⟩
  have ho := hh.obj ρ (Ag.refl _ _) 0 _ (List.mem_singleton.2 rfl)
  have hc := ho.2
  simp only [denL_cons, denL_nil, den] at hc
  refine (cCopyFresh (ρ 0) w (by rw [hc.cell]; rfl) hc.shape (hc.frozen (Nat.zero_lt_succ _))).mono fun e w' ⟨he, hw⟩ => ?_
  subst hw
  have hk := keeps_setCell w (ρ 0) 0 (.pointer (some ⟨ρ 0, 0, none⟩))
  have hup := hh.upd (r0 := 0) (o := .cells [.p 0 0, .v (.slice none 0 0)] 91) (hp1 := [(0, .cells [.p 0 0, .v (.slice none 0 0)] 91)]) (fun r o hm => by
    obtain ⟨rfl, rfl⟩ := Prod.mk.inj (List.mem_singleton.1 hm)
    exact .inr ⟨rfl, rfl, _, List.mem_singleton.2 rfl⟩) (hk.mono fun k hk' => (ho.1 k).2 hk') ⟨_, List.mem_singleton.2 rfl⟩ (fun ρ' hr => by
      have h2 := hh.obj ρ' hr 0 _ (List.mem_singleton.2 rfl)
      refine ⟨h2.1, ?_⟩
      have h3 := h2.2
      simp only [denL_cons, denL_nil, den] at h3
      have h3 := cellsAt_setCell (o := 0) h3 (.pointer (some ⟨ρ 0, 0, none⟩))
      have e0 : ρ' 0 = ρ 0 := hr 0 (by decide)
      rw [e0] at h3 ⊢
      simpa only [denL_cons, denL_nil, den, e0, List.set] using h3)
  refine ⟨.tup [], [(0, .cells [.p 0 0, .v (.slice none 0 0)] 91)], 1, [], ρ, F, ⟨(), trivial, Ret.mk [0] _ (Fold.refl _) rfl (fun _ _ _ => rfl) ⟨OSub.ren rfl rfl, trivial⟩ (fun _ h => h)⟩, he, fun _ _ => rfl, hup.1, Ag.refl _ _, Nat.le_refl _, hk.mono fun k hk' => ⟨0, _, List.mem_singleton.2 rfl, (ho.1 k).2 hk'⟩, fun k hk' => .inl (hup.2 k hk'), fun f hf => .inl hf⟩
theorem tCopyUsed (n : Nat) (xs : List Value) : Tri Try.prog 81 [.p 0 0] [(0, .cells [.p 0 0, .s 1 0 n xs.length] 91), (1, .row xs 5)] 2 [] (RetE (α := Unit) 2 (fun _ => True) (fun _ => .tup []) (fun _ => [(0, .cells [.p 0 0, .s 1 0 n xs.length] 91), (1, .row xs 5)]) 2 (fun _ => [])) := by
  refine ⟨trivial, fun ρ F w hh hrob => .inl ⟨by simp [callFunc, Try.func81, Try.f81], ?_⟩⟩
  have ho := hh.obj ρ (Ag.refl _ _) 0 _ (List.mem_cons_self ..)
  have hc := ho.2
  simp only [denL_cons, denL_nil, den] at hc
  refine (cCopyUsed (ρ 0) w (by rw [hc.cell]; rfl)).mono fun e w' ⟨he, hw⟩ => ?_
  subst hw
  refine ⟨.tup [], [(0, .cells [.p 0 0, .s 1 0 n xs.length] 91), (1, .row xs 5)], 2, [], ρ, F, ⟨(), trivial, Ret.mk [0, 1] _ (Fold.refl _) rfl (fun _ _ _ => rfl) ⟨OSub.ren rfl rfl, OSub.ren rfl rfl, trivial⟩ (fun _ h => h)⟩, he, fun _ _ => rfl, hh, Ag.refl _ _, Nat.le_refl _, Keeps.refl _ _, fun k hk' => .inl hk', fun f hf => .inl hf⟩
end Go.Proofs.Ytekgjjanikicnaa.Sx

namespace Go.Proofs.Ytekgjjanikicnaa.Sx
open Go
set_option maxRecDepth 100000
set_option linter.unusedSimpArgs false
set_option linter.unusedVariables false

theorem BytesAt.get {fx : List Fact} {A : Option Addr} {bs : List UInt8} (h : BytesAt fx A bs) {i : Nat} (hi : i < bs.length) : ∃ ad, A = some ad ∧ FC fx (ad.add (i * 1)) (bv bs[i]) := by
  cases A with
  | none => rw [h.1 rfl] at hi; simp at hi
  | some ad => exact ⟨ad, rfl, by rw [Nat.mul_one]; exact h.2 ad rfl i _ (List.getElem?_eq_getElem hi)⟩
theorem tSame (fx : List Fact) (A B : Option Addr) (ca cb : Nat) (a b : List UInt8) (hA : BytesAt fx A a) (hB : BytesAt fx B b) (hl : a.length < 9223372036854775808) :
    Tri Try.prog 23 [.v (.slice A a.length ca), .v (.slice B b.length cb)] [] 0 fx (Ret 0 (.v (.bool (decide (a = b)))) [] 0 []) := by
  refine Tri.of_code tok Try.func23 rfl rfl rfl (by decide) rfl (Nat.le_of_ble_eq_true rfl) ?_
  conv => whnf
  repeat' ((first | refine w1 (h := ?_) | refine w2 ?_ ?_ | refine w3 (h := ?_) | refine w4 (h := ?_) | refine hD _ _ ?_ | refine hL _ _ ?_ | (intro h; (try simp only [n1, n2, n3, n4, n5, n6] at h); first | (exfalso; omega) | (cases h; done) | skip)) <;> (conv => whnf))
  · refine Ret.none rfl (fun ρ => ?_) (fun _ h => nomatch h)
    have hne : a ≠ b := fun e => by subst e; exact h rfl
    simp [den, hne]
  have hlen : a.length = b.length := by omega
  refine loop_by tok (α := Nat) (fun i => ⟨[(0, .v (.slice A a.length ca)), (1, .v (.slice B b.length cb)), (4, .b false), (5, .v (.int .i64 i))], [], 0, fx⟩) (fun i => i ≤ a.length ∧ a.take i = b.take i) (fun i => a.length - i) 0 [] (by simp) ⟨rfl, ?_, trivial, fun f hf => hf⟩ ?_
  · exact ⟨fun _ _ _ => rfl, fun _ _ _ => rfl, fun _ _ _ => rfl, fun _ _ _ => rfl, trivial⟩
  rintro i ⟨hi, he⟩
  conv => whnf
  repeat' ((first | refine w1 (h := ?_) | refine w2 ?_ ?_ | refine w3 (h := ?_) | refine w4 (h := ?_) | refine hD _ _ ?_ | refine hL _ _ ?_ | (intro h; (try simp only [n1, n2, n3, n4, n5, n6] at h); first | (exfalso; omega) | (cases h; done) | skip)) <;> (conv => whnf))
  · refine draw_rule tok (by kernel_rfl) [.any 0, .any 1, .any 2, .any 4, .any 5, .any 6, .load 3, .load 7, .any 8] [] [] (by kernel_rfl) rfl rfl trivial ?_
    have hi1 : i < a.length := by omega
    have hi2 : i < b.length := by omega
    obtain ⟨ad, rfl, h1⟩ := hA.get hi1
    obtain ⟨bd, rfl, h2⟩ := hB.get hi2
    conv => whnf
    repeat' ((first | refine w1 (h := ?_) | refine w2 ?_ ?_ | refine w3 (h := ?_) | refine w4 (h := ?_) | refine hD _ _ ?_ | refine hL _ _ ?_ | (intro h; (try simp only [n1, n2, n3, n4, n5, n6] at h); first | (exfalso; omega) | (cases h; done) | skip)) <;> (conv => whnf))
    · refine Ret.none rfl (fun ρ => ?_) (fun _ h => nomatch h)
      have hne : a ≠ b := fun e => by
        subst e
        exact h rfl
      simp [den, hne]
    · refine ⟨i + 1, [], ⟨⟨by omega, ?_⟩, by omega⟩, rfl, ⟨(fun _ _ _ => rfl), (fun _ _ _ => rfl), (fun _ _ _ => rfl), (fun _ _ _ => rfl), trivial⟩, trivial, fun f hf => hf⟩
      have hab : a[i] = b[i] := UInt8.toNat_inj.1 (by omega)
      rw [take_succ_of (List.getElem?_eq_getElem hi1), take_succ_of (List.getElem?_eq_getElem hi2), he, hab]
  · refine Ret.none rfl (fun ρ => ?_) (fun _ h => nomatch h)
    obtain rfl : i = a.length := by omega
    have hab : a = b := by
      rw [List.take_length, hlen, List.take_length] at he
      exact he
    simp [den, hab]
end Go.Proofs.Ytekgjjanikicnaa.Sx

namespace Go.Proofs.Ytekgjjanikicnaa.Sx
open Go
set_option maxRecDepth 100000
set_option linter.unusedSimpArgs false
set_option linter.unusedVariables false

def dskC (g mb : Nat) (d : DS) : List Value := [.slice (some ⟨g, 0, none⟩) d.l.length d.l.length, .map (some mb), .int .i64 d.fuse, .bool d.down]
/-- A disk: its struct, its sectors, its map. -/
def dskA (d : DS) : AR where
  A w b F := ∃ g mb es clk, b ≠ g ∧ b ≠ mb ∧ g ≠ mb ∧ (∀ k, F k ↔ k = b ∨ k = g ∨ k = mb) ∧ CellsAt w b (dskC g mb d) 101 ∧ CellsAt w g (flat d.l) 102 ∧ w.heap[mb]? = some (.map es clk) ∧ Holds es clk d.c
  loc := by
    rintro w w' b F ⟨g, mb, es, clk, h1, h2, h3, h4, h5, h6, h7, h8⟩ e
    exact ⟨g, mb, es, clk, h1, h2, h3, h4, h5.loc (e b ((h4 b).2 (.inl rfl))), h6.loc (e g ((h4 g).2 (.inr (.inl rfl)))), by rw [e mb ((h4 mb).2 (.inr (.inr rfl)))]; exact h7, h8⟩
structure DskV (d : DS) where
  es : Array MapEntry
  clk : Nat
  h : Holds es clk d.c
def dskS (d : DS) (m : Nat) : List SV := [.s m 0 d.l.length d.l.length, .m (m + 1), .v (.int .i64 d.fuse), .v (.bool d.down)]
def dskL (d : DS) (v : DskV d) (r m : Nat) : List (Nat × SObj) := [(r, .cells (dskS d m) 101), (m, .row (flat d.l) 102), (m + 1, .map v.es v.clk)]
theorem told_dsk (d : DS) : Told (dskA d) (dskL d) 2 := by
  refine ⟨fun ρ r m w F hr hA hF => ?_⟩
  obtain ⟨g, mb, es, clk, h1, h2, h3, h4, h5, h6, h7, h8⟩ := hA
  have hmem : ∀ j o, (j, o) ∈ dskL d ⟨es, clk, h8⟩ r m → (j = r ∧ o = .cells (dskS d m) 101) ∨ (j = m ∧ o = .row (flat d.l) 102) ∨ (j = m + 1 ∧ o = .map es clk) := fun j o hm => by
    simpa [dskL] using hm
  refine ⟨⟨es, clk, h8⟩, updR (updR ρ m g) (m + 1) mb, fun j k => if j = r then k = ρ r else if j = m then k = g else k = mb, ?_, fun ρ3 ha j o hm => ?_, fun j o hm => ?_, fun j o j' o' hm hm' hne k hk hk' => ?_, fun k ⟨j, o, hm, hk⟩ => ?_⟩
  · intro j hj
    rw [updR_ne _ _ (by omega), updR_ne _ _ (by omega)]
  · have e1 : ρ3 r = ρ r := by rw [ha r (by omega), updR_ne _ _ (by omega), updR_ne _ _ (by omega)]
    have e2 : ρ3 m = g := by rw [ha m (by omega), updR_ne _ _ (by omega), updR_same]
    have e3 : ρ3 (m + 1) = mb := by rw [ha (m + 1) (by omega), updR_same]
    rcases hmem j o hm with ⟨rfl, rfl⟩ | ⟨rfl, rfl⟩ | ⟨rfl, rfl⟩
    · refine ⟨fun k => by simp [e1], ?_⟩
      simp only [dskS, denL_cons, denL_nil, den, e1, e2, e3]
      exact h5
    · rw [e2]
      exact ⟨fun k => by simp [show ¬ j = r by omega], h6⟩
    · rw [e3]
      exact ⟨fun k => by simp [show ¬ m + 1 = r by omega], h7⟩
  · rcases hmem j o hm with ⟨rfl, rfl⟩ | ⟨rfl, rfl⟩ | ⟨rfl, rfl⟩
    · exact .inl rfl
    · exact .inr ⟨Nat.le_refl _, by omega⟩
    · exact .inr ⟨by omega, by omega⟩
  · rcases hmem j o hm with ⟨rfl, rfl⟩ | ⟨rfl, rfl⟩ | ⟨rfl, rfl⟩ <;> rcases hmem j' o' hm' with ⟨rfl, rfl⟩ | ⟨rfl, rfl⟩ | ⟨rfl, rfl⟩
    · exact absurd rfl hne
    · simp only [if_true, show ¬ j' = j by omega, if_false] at hk hk'
      exact h1 (hk.symm.trans hk')
    · simp only [if_true, show ¬ m + 1 = j by omega, show ¬ m + 1 = m by omega, if_false] at hk hk'
      exact h2 (hk.symm.trans hk')
    · simp only [if_true, show ¬ j = j' by omega, if_false] at hk hk'
      exact h1 (hk'.symm.trans hk)
    · exact absurd rfl hne
    · simp only [if_true, show ¬ j = r by omega, show ¬ j + 1 = r by omega, show ¬ j + 1 = j by omega, if_false] at hk hk'
      exact h3 (hk.symm.trans hk')
    · simp only [if_true, show ¬ m + 1 = j' by omega, show ¬ m + 1 = m by omega, if_false] at hk hk'
      exact h2 (hk'.symm.trans hk)
    · simp only [if_true, show ¬ j' = r by omega, show ¬ j' + 1 = r by omega, show ¬ j' + 1 = j' by omega, if_false] at hk hk'
      exact h3 (hk'.symm.trans hk)
    · exact absurd rfl hne
  · rcases hmem j o hm with ⟨rfl, rfl⟩ | ⟨rfl, rfl⟩ | ⟨rfl, rfl⟩
    · simp only [if_true] at hk
      exact (h4 k).2 (.inl hk)
    · simp only [if_true, show ¬ j = r by omega, if_false] at hk
      exact (h4 k).2 (.inr (.inl hk))
    · simp only [show ¬ m + 1 = r by omega, show ¬ m + 1 = m by omega, if_false] at hk
      exact (h4 k).2 (.inr (.inr hk))
theorem dsk_close {d : DS} {r m m' : Nat} {cs : List SV} {xs : List Value} {es : Array MapEntry} {clk : Nat} (h1 : r ≠ m) (h2 : r ≠ m') (h3 : m ≠ m') (hc : ∀ ρ, denL ρ cs = dskC (ρ m) (ρ m') d) (hx : xs = flat d.l) (hh : Holds es clk d.c) {h : List (Nat × SObj)}
    (hL : ∀ e, e ∈ [(r, SObj.cells cs 101), (m, .row xs 102), (m', .map es clk)] → e ∈ h) : Fold h ((r, .abs (dskA d)) :: restH [r, m, m'] h) := by
  subst hx
  refine Fold.abs (L := [(r, SObj.cells cs 101), (m, .row (flat d.l) 102), (m', .map es clk)]) hL (by simp) fun ρ F n w hp => ?_
  have m1 : (r, SObj.cells cs 101) ∈ [(r, SObj.cells cs 101), (m, .row (flat d.l) 102), (m', .map es clk)] := by simp
  have m2 : (m, SObj.row (flat d.l) 102) ∈ [(r, SObj.cells cs 101), (m, .row (flat d.l) 102), (m', .map es clk)] := by simp
  have m3 : (m', SObj.map es clk) ∈ [(r, SObj.cells cs 101), (m, .row (flat d.l) 102), (m', .map es clk)] := by simp
  have o1 := hp.obj ρ (Ag.refl _ _) r _ m1
  have o2 := hp.obj ρ (Ag.refl _ _) m _ m2
  have o3 := hp.obj ρ (Ag.refl _ _) m' _ m3
  have ne : ∀ {a b : Nat} {oa ob : SObj}, (a, oa) ∈ [(r, SObj.cells cs 101), (m, .row (flat d.l) 102), (m', .map es clk)] → (b, ob) ∈ [(r, SObj.cells cs 101), (m, .row (flat d.l) 102), (m', .map es clk)] → a ≠ b → F a (ρ a) → F b (ρ b) → ρ a ≠ ρ b :=
    fun ha hb hab fa fb e => hp.shape.dis _ _ _ _ ha hb hab _ fa (by rw [e]; exact fb)
  refine ⟨ρ m, ρ m', es, clk, ne m1 m2 h1 ((o1.1 _).2 rfl) ((o2.1 _).2 rfl), ne m1 m3 h2 ((o1.1 _).2 rfl) ((o3.1 _).2 rfl), ne m2 m3 h3 ((o2.1 _).2 rfl) ((o3.1 _).2 rfl), fun k => ⟨?_, ?_⟩, ?_, o2.2, o3.2, hh⟩
  · rintro ⟨j, o, hm, hk⟩
    simp only [List.mem_cons, List.not_mem_nil, or_false, Prod.mk.injEq] at hm
    rcases hm with ⟨rfl, rfl⟩ | ⟨rfl, rfl⟩ | ⟨rfl, rfl⟩
    · exact .inl ((o1.1 k).1 hk)
    · exact .inr (.inl ((o2.1 k).1 hk))
    · exact .inr (.inr ((o3.1 k).1 hk))
  · rintro (rfl | rfl | rfl)
    · exact ⟨r, _, m1, (o1.1 _).2 rfl⟩
    · exact ⟨m, _, m2, (o2.1 _).2 rfl⟩
    · exact ⟨m', _, m3, (o3.1 _).2 rfl⟩
  · have := o1.2
    rwa [hc ρ] at this
theorem flat_new (n : Nat) : flat (List.replicate n zsec) = (List.replicate n (zsec.map bv)).flatten := by
  unfold flat
  induction n with
  | zero => rfl
  | succ n ih => rw [List.replicate_succ, List.replicate_succ, List.flatMap_cons, List.flatten_cons, ih]
/-- A disk, as it is handed over. -/
abbrev dsk (r : Nat) (d : DS) : Nat × SObj := (r, .abs (dskA d))
/-- The three regions of a disk, wherever they stand. -/
theorem mem3 {a b c e : Nat × SObj} {h : List (Nat × SObj)} (he : e ∈ [a, b, c]) (ha : a ∈ h) (hb : b ∈ h) (hc : c ∈ h) : e ∈ h := by
  simp only [List.mem_cons, List.not_mem_nil, or_false] at he
  rcases he with rfl | rfl | rfl
  · exact ha
  · exact hb
  · exact hc
/-- A disk in its parts, folded. -/
theorem dsk_fold {d : DS} {cs : List SV} {xs : List Value} {es : Array MapEntry} {clk : Nat} {h : List (Nat × SObj)} (h1 : (0, SObj.cells cs 101) ∈ h) (h2 : (1, SObj.row xs 102) ∈ h) (h3 : (2, SObj.map es clk) ∈ h)
    (hc : ∀ ρ, denL ρ cs = dskC (ρ 1) (ρ 2) d) (hx : xs = flat d.l) (hh : Holds es clk d.c) : Fold h (dsk 0 d :: restH [0, 1, 2] h) :=
  dsk_close (r := 0) (m := 1) (m' := 2) (by decide) (by decide) (by decide) hc hx hh (fun e he => mem3 he h1 h2 h3)
/-- What a call leaves of a disk. -/
theorem Ret.dsk1 {d : DS} {cs : List SV} {xs : List Value} {es : Array MapEntry} {clk : Nat} {h : List (Nat × SObj)} {v y : SV} {n : Nat} {f : List Fact} (h1 : (0, SObj.cells cs 101) ∈ h) (h2 : (1, SObj.row xs 102) ∈ h) (h3 : (2, SObj.map es clk) ∈ h)
    (hn : namesOk 1 n 1 [0] [0] = true) (hv : SEq 1 [0] v y) (hc : ∀ ρ, denL ρ cs = dskC (ρ 1) (ρ 2) d) (hx : xs = flat d.l) (hh : Holds es clk d.c) : Ret 1 v [dsk 0 d] 1 [] y h n f :=
  Ret.mk [0] [dsk 0 d] ((dsk_fold h1 h2 h3 hc hx hh).trans (Fold.drop (by simp))) hn hv ⟨OSub.ren rfl rfl, trivial⟩ (fun _ h => nomatch h)
theorem Ret.dskAt {m0 : Nat} (r m m' : Nat) {d : DS} {cs : List SV} {xs : List Value} {es : Array MapEntry} {clk : Nat} {h : List (Nat × SObj)} {v y : SV} {n : Nat} {f : List Fact} (h1 : (r, SObj.cells cs 101) ∈ h) (h2 : (m, SObj.row xs 102) ∈ h) (h3 : (m', SObj.map es clk) ∈ h)
    (hne : r ≠ m ∧ r ≠ m' ∧ m ≠ m') (hn : namesOk m0 n 1 [r] [0] = true) (hs : heapSub 1 [r] [dsk r d] [dsk 0 d]) (hv : SEq 1 [r] v y) (hc : ∀ ρ, denL ρ cs = dskC (ρ m) (ρ m') d) (hx : xs = flat d.l) (hh : Holds es clk d.c) : Ret m0 v [dsk 0 d] 1 [] y h n f :=
  Ret.mk [r] [dsk r d] ((dsk_close hne.1 hne.2.1 hne.2.2 hc hx hh (fun e he => mem3 he h1 h2 h3)).trans (Fold.drop (by simp))) hn hv hs (fun _ h => nomatch h)
theorem tNew (fx : List Fact) (n : Nat) (hn : n ≤ 4096) : Tri Try.prog 26 [.v (.int .i64 n)] [] 0 fx (RetE (α := Unit) 0 (fun _ => True) (fun _ => .tup [.p 0 0, .k .i64 0]) (fun _ => [dsk 0 (DS.new n)]) 1 (fun _ => [])) := by
  refine Tri.one ?_
  refine Tri.of_code tok Try.func26 rfl rfl rfl (by decide) rfl (Nat.le_of_ble_eq_true rfl) ?_
  conv => whnf
  repeat' ((first | refine w1 (h := ?_) | refine w2 ?_ ?_ | refine w3 (h := ?_) | refine w4 (h := ?_) | refine hD _ _ ?_ | refine hL _ _ ?_ | (intro h; (try simp only [n1, n2, n3, n4, n5, n6] at h); first | (exfalso; omega) | (cases h; done) | skip)) <;> (conv => whnf))
  refine Ret.dskAt 2 0 1 (cs := ?cs) (xs := ?xs) (es := ?es) (clk := ?clk) ?m1 ?m2 ?m3 (by decide) rfl ⟨OSub.ren rfl rfl, trivial⟩ (SEq.ren rfl rfl) ?hc ?hx ?hh
  case m1 => (repeat first | exact List.mem_cons_self .. | apply List.mem_cons_of_mem)
  case m2 => (repeat first | exact List.mem_cons_self .. | apply List.mem_cons_of_mem)
  case m3 => (repeat first | exact List.mem_cons_self .. | apply List.mem_cons_of_mem)
  case hh => exact Holds.empty 0
  case hc => exact fun ρ => by simp [dskC, DS.new, den]
  case hx =>
    rw [show (DS.new n).l = List.replicate n zsec from rfl, flat_new]
    rfl
theorem tNewBad (fx : List Fact) (n : Int) (hn : n < 0 ∨ 4096 < n) : Tri Try.prog 26 [.v (.int .i64 n)] [] 0 fx (RetE (α := Unit) 0 (fun _ => True) (fun _ => .tup [.v (.pointer none), .k .i64 1]) (fun _ => []) 0 (fun _ => [])) := by
  refine Tri.one ?_
  refine Tri.of_code tok Try.func26 rfl rfl rfl (by decide) rfl (Nat.le_of_ble_eq_true rfl) ?_
  conv => whnf
  repeat' ((first | refine w1 (h := ?_) | refine w2 ?_ ?_ | refine w3 (h := ?_) | refine w4 (h := ?_) | refine hD _ _ ?_ | refine hL _ _ ?_ | (intro h; (try simp only [n1, n2, n3, n4, n5, n6] at h); first | (exfalso; omega) | (cases h; done) | skip)) <;> (conv => whnf))
  · exact Ret.noneS rfl (fun _ _ => rfl) (fun _ h => nomatch h)
  · exact Ret.noneS rfl (fun _ _ => rfl) (fun _ h => nomatch h)
theorem tDown (fx : List Fact) (d : DS) : Tri Try.prog 36 [.p 0 0] [dsk 0 d] 1 fx (RetE (α := Unit) 1 (fun _ => True) (fun _ => .v (.bool d.down)) (fun _ => [dsk 0 d]) 1 (fun _ => [])) := by
  refine Tri.toldE (told_dsk d) trivial 0 (List.mem_singleton.2 rfl) fun v => Tri.one ?_
  show Tri _ 36 _ [(0, .cells [.s 1 0 d.l.length d.l.length, .m 2, .v (.int .i64 d.fuse), .v (.bool d.down)] 101), (1, .row (flat d.l) 102), (2, .map v.es v.clk)] 3 fx _
  refine Tri.of_code tok Try.func36 rfl rfl rfl (by decide) rfl (Nat.le_of_ble_eq_true rfl) ?_
  conv => whnf
  repeat' ((first | refine w1 (h := ?_) | refine w2 ?_ ?_ | refine w3 (h := ?_) | refine w4 (h := ?_) | refine hD _ _ ?_ | refine hL _ _ ?_ | (intro h; (try simp only [n1, n2, n3, n4, n5, n6] at h); first | (exfalso; omega) | (cases h; done) | skip)) <;> (conv => whnf))
  apply Ret.dsk1
  · (repeat first | exact List.mem_cons_self .. | apply List.mem_cons_of_mem)
  · (repeat first | exact List.mem_cons_self .. | apply List.mem_cons_of_mem)
  · (repeat first | exact List.mem_cons_self .. | apply List.mem_cons_of_mem)
  · rfl
  · exact fun _ _ _ => rfl
  · exact fun ρ => rfl
  · rfl
  · exact v.h
theorem tSize (fx : List Fact) (d : DS) : Tri Try.prog 38 [.p 0 0] [dsk 0 d] 1 fx (RetE (α := Unit) 1 (fun _ => True) (fun _ => .v (.int .i64 d.l.length)) (fun _ => [dsk 0 d]) 1 (fun _ => [])) := by
  refine Tri.toldE (told_dsk d) trivial 0 (List.mem_singleton.2 rfl) fun v => Tri.one ?_
  show Tri _ 38 _ [(0, .cells [.s 1 0 d.l.length d.l.length, .m 2, .v (.int .i64 d.fuse), .v (.bool d.down)] 101), (1, .row (flat d.l) 102), (2, .map v.es v.clk)] 3 fx _
  refine Tri.of_code tok Try.func38 rfl rfl rfl (by decide) rfl (Nat.le_of_ble_eq_true rfl) ?_
  conv => whnf
  repeat' ((first | refine w1 (h := ?_) | refine w2 ?_ ?_ | refine w3 (h := ?_) | refine w4 (h := ?_) | refine hD _ _ ?_ | refine hL _ _ ?_ | (intro h; (try simp only [n1, n2, n3, n4, n5, n6] at h); first | (exfalso; omega) | (cases h; done) | skip)) <;> (conv => whnf))
  apply Ret.dsk1
  · (repeat first | exact List.mem_cons_self .. | apply List.mem_cons_of_mem)
  · (repeat first | exact List.mem_cons_self .. | apply List.mem_cons_of_mem)
  · (repeat first | exact List.mem_cons_self .. | apply List.mem_cons_of_mem)
  · rfl
  · exact fun _ _ _ => rfl
  · exact fun ρ => rfl
  · rfl
  · exact v.h
theorem tSetFuse (fx : List Fact) (d : DS) (n : Int) : Tri Try.prog 40 [.p 0 0, .v (.int .i64 n)] [dsk 0 d] 1 fx (RetE (α := Unit) 1 (fun _ => True) (fun _ => .tup []) (fun _ => [dsk 0 (d.setFuse n)]) 1 (fun _ => [])) := by
  refine Tri.toldE (told_dsk d) trivial 0 (List.mem_singleton.2 rfl) fun v => Tri.one ?_
  show Tri _ 40 _ [(0, .cells [.s 1 0 d.l.length d.l.length, .m 2, .v (.int .i64 d.fuse), .v (.bool d.down)] 101), (1, .row (flat d.l) 102), (2, .map v.es v.clk)] 3 fx _
  refine Tri.of_code tok Try.func40 rfl rfl rfl (by decide) rfl (Nat.le_of_ble_eq_true rfl) ?_
  conv => whnf
  repeat' ((first | refine w1 (h := ?_) | refine w2 ?_ ?_ | refine w3 (h := ?_) | refine w4 (h := ?_) | refine hD _ _ ?_ | refine hL _ _ ?_ | (intro h; (try simp only [n1, n2, n3, n4, n5, n6] at h); first | (exfalso; omega) | (cases h; done) | skip)) <;> (conv => whnf))
  have e : (if n < -1 then -1 else n) = max n (-1) := by split <;> omega
  apply Ret.dsk1
  · (repeat first | exact List.mem_cons_self .. | apply List.mem_cons_of_mem)
  · (repeat first | exact List.mem_cons_self .. | apply List.mem_cons_of_mem)
  · (repeat first | exact List.mem_cons_self .. | apply List.mem_cons_of_mem)
  · rfl
  · exact fun _ _ _ => rfl
  · exact fun ρ => by simp only [denL_cons, denL_nil, den, dskC, DS.setFuse, e]
  · rfl
  · exact v.h
end Go.Proofs.Ytekgjjanikicnaa.Sx

namespace Go.Proofs.Ytekgjjanikicnaa.Sx
open Go
set_option maxRecDepth 100000
set_option linter.unusedSimpArgs false
set_option linter.unusedVariables false

theorem write_down {d : DS} {i : Int} {b : Sec} (h : d.down = true) : d.write i b = (6, d) := by unfold DS.write; rw [if_pos h]
theorem write_out {d : DS} {i : Int} {b : Sec} (h : d.down = false) (hi : ¬ (0 ≤ i ∧ i < (d.l.length : Int))) : d.write i b = (3, d) := by unfold DS.write; rw [if_neg (by simp [h]), if_pos hi]
theorem write_len {d : DS} {i : Int} {b : Sec} (h : d.down = false) (hi : 0 ≤ i ∧ i < (d.l.length : Int)) (hb : b.length ≠ 64) : d.write i b = (1, d) := by unfold DS.write; rw [if_neg (by simp [h]), if_neg (fun h => h hi), if_pos hb]
theorem write_burn {d : DS} {i : Int} {b : Sec} (h : d.down = false) (hi : 0 ≤ i ∧ i < (d.l.length : Int)) (hb : b.length = 64) (hf : d.fuse = 0) : d.write i b = (6, d.burnt) := by
  unfold DS.write; rw [if_neg (by simp [h]), if_neg (fun h => h hi), if_neg (fun h => h hb), if_pos hf]
theorem write_ok {d : DS} {i : Int} {b : Sec} (h : d.down = false) (hi : 0 ≤ i ∧ i < (d.l.length : Int)) (hb : b.length = 64) (hf : d.fuse ≠ 0) : d.write i b = (0, d.burnt.put i b) := by
  unfold DS.write; rw [if_neg (by simp [h]), if_neg (fun h => h hi), if_neg (fun h => h hb), if_neg hf]
theorem burnt_zero {d : DS} (h : d.fuse = 0) : d.burnt = { d with down := true } := by unfold DS.burnt; rw [if_pos h]
theorem burnt_lt {d : DS} (h : d.fuse < 0) : d.burnt = d := by unfold DS.burnt; rw [if_neg (by omega), if_neg (by omega)]
theorem burnt_gt {d : DS} (h : 0 < d.fuse) : d.burnt = { d with fuse := d.fuse - 1 } := by unfold DS.burnt; rw [if_neg (by omega), if_pos h]
theorem tWrite (fx : List Fact) (d : DS) (hd : d.Ok) (i : Int) (A : Option Addr) (cap : Nat) (b : List UInt8) (hB : BytesAt fx A b) :
    Tri Try.prog 27 [.p 0 0, .v (.int .i64 i), .v (.slice A b.length cap)] [dsk 0 d] 1 fx (RetE (α := Unit) 1 (fun _ => True) (fun _ => .v (.int .i64 (d.write i b).1)) (fun _ => [dsk 0 (d.write i b).2]) 1 (fun _ => [])) := by
  refine Tri.toldE (told_dsk d) trivial 0 (List.mem_singleton.2 rfl) fun v => Tri.one ?_
  show Tri _ 27 _ [(0, .cells [.s 1 0 d.l.length d.l.length, .m 2, .v (.int .i64 d.fuse), .v (.bool d.down)] 101), (1, .row (flat d.l) 102), (2, .map v.es v.clk)] 3 fx _
  have hf := hd.fus
  refine Tri.of_code tok Try.func27 rfl rfl rfl (by decide) rfl (Nat.le_of_ble_eq_true rfl) ?_
  conv => whnf
  repeat' ((first | refine w1 (h := ?_) | refine w2 ?_ ?_ | refine w3 (h := ?_) | refine w4 (h := ?_) | refine hD _ _ ?_ | refine hL _ _ ?_ | (intro h; (try simp only [n1, n2, n3, n4, n5, n6] at h); first | (exfalso; omega) | (cases h; done) | skip)) <;> (conv => whnf))
  refine Tri.of_code tok Try.func36 rfl rfl rfl (by decide) rfl (Nat.le_of_ble_eq_true rfl) ?_
  conv => whnf
  repeat' ((first | refine w1 (h := ?_) | refine w2 ?_ ?_ | refine w3 (h := ?_) | refine w4 (h := ?_) | refine hD _ _ ?_ | refine hL _ _ ?_ | (intro h; (try simp only [n1, n2, n3, n4, n5, n6] at h); first | (exfalso; omega) | (cases h; done) | skip)) <;> (conv => whnf))
  · rw [write_down h]
    apply Ret.dsk1
    · (repeat first | exact List.mem_cons_self .. | apply List.mem_cons_of_mem)
    · (repeat first | exact List.mem_cons_self .. | apply List.mem_cons_of_mem)
    · (repeat first | exact List.mem_cons_self .. | apply List.mem_cons_of_mem)
    · rfl
    · exact SEq.nrm rfl rfl
    · exact fun ρ => by simp [dskC, den]
    · rfl
    · exact v.h
  conv => whnf
  repeat' ((first | refine w1 (h := ?_) | refine w2 ?_ ?_ | refine w3 (h := ?_) | refine w4 (h := ?_) | refine hD _ _ ?_ | refine hL _ _ ?_ | (intro h; (try simp only [n1, n2, n3, n4, n5, n6] at h); first | (exfalso; omega) | (cases h; done) | skip)) <;> (conv => whnf))
  · rw [write_out (by assumption) (by omega)]
    apply Ret.dsk1
    · (repeat first | exact List.mem_cons_self .. | apply List.mem_cons_of_mem)
    · (repeat first | exact List.mem_cons_self .. | apply List.mem_cons_of_mem)
    · (repeat first | exact List.mem_cons_self .. | apply List.mem_cons_of_mem)
    · rfl
    · exact SEq.nrm rfl rfl
    · exact fun ρ => by simp [dskC, den]
    · rfl
    · exact v.h
  · rw [write_out (by assumption) (by omega)]
    apply Ret.dsk1
    · (repeat first | exact List.mem_cons_self .. | apply List.mem_cons_of_mem)
    · (repeat first | exact List.mem_cons_self .. | apply List.mem_cons_of_mem)
    · (repeat first | exact List.mem_cons_self .. | apply List.mem_cons_of_mem)
    · rfl
    · exact SEq.nrm rfl rfl
    · exact fun ρ => by simp [dskC, den]
    · rfl
    · exact v.h
  · rw [write_len (by assumption) (by omega) (by omega)]
    apply Ret.dsk1
    · (repeat first | exact List.mem_cons_self .. | apply List.mem_cons_of_mem)
    · (repeat first | exact List.mem_cons_self .. | apply List.mem_cons_of_mem)
    · (repeat first | exact List.mem_cons_self .. | apply List.mem_cons_of_mem)
    · rfl
    · exact SEq.nrm rfl rfl
    · exact fun ρ => by simp [dskC, den]
    · rfl
    · exact v.h
  have hdn : d.down = false := by assumption
  have hb : b.length = 64 := by omega
  have hi : 0 ≤ i ∧ i < (d.l.length : Int) := by omega
  refine Tri.of_code tok Try.func61 rfl rfl rfl (by decide) rfl (Nat.le_of_ble_eq_true rfl) ?_
  conv => whnf
  repeat' ((first | refine w1 (h := ?_) | refine w2 ?_ ?_ | refine w3 (h := ?_) | refine w4 (h := ?_) | refine hD _ _ ?_ | refine hL _ _ ?_ | (intro h; (try simp only [n1, n2, n3, n4, n5, n6] at h); first | (exfalso; omega) | (cases h; done) | skip)) <;> (conv => whnf))
  · have hz : d.fuse = 0 := by assumption
    rw [write_burn hdn hi hb hz, burnt_zero hz]
    apply Ret.dsk1
    · (repeat first | exact List.mem_cons_self .. | apply List.mem_cons_of_mem)
    · (repeat first | exact List.mem_cons_self .. | apply List.mem_cons_of_mem)
    · (repeat first | exact List.mem_cons_self .. | apply List.mem_cons_of_mem)
    · rfl
    · exact SEq.nrm rfl rfl
    · exact fun ρ => by simp [dskC, den]
    · rfl
    · exact v.h
  · have hz : 0 < d.fuse := by assumption
    rw [write_ok hdn hi hb (by omega), burnt_gt hz]
    refine draw_rule tok (by kernel_rfl) [.any 0, .any 1, .any 2, .any 4, .any 5, .load 3, .one 6, .one 7, .one 8] [] [(0, .cells [.s 1 0 d.l.length d.l.length, .m 2, .v (.int .i64 (d.fuse - 1)), .v (.bool d.down)] 101)] (by kernel_rfl) rfl rfl ⟨rfl, trivial⟩ ?_
    obtain ⟨ad, rfl, _⟩ := hB.get (i := 0) (by omega)
    conv => whnf
    repeat' ((first | refine w1 (h := ?_) | refine w2 ?_ ?_ | refine w3 (h := ?_) | refine w4 (h := ?_) | refine hD _ _ ?_ | refine hL _ _ ?_ | (intro h; (try simp only [n1, n2, n3, n4, n5, n6] at h); first | (exfalso; omega) | (cases h; done) | skip)) <;> (conv => whnf))
    refine ⟨b.map bv, ⟨by simp [hb], fun j y hj => hB.rowAt.2 ad rfl j y hj⟩, ?_⟩
    conv => whnf
    repeat' ((first | refine w1 (h := ?_) | refine w2 ?_ ?_ | refine w3 (h := ?_) | refine w4 (h := ?_) | refine hD _ _ ?_ | refine hL _ _ ?_ | (intro h; (try simp only [n1, n2, n3, n4, n5, n6] at h); first | (exfalso; omega) | (cases h; done) | skip)) <;> (conv => whnf))
    refine ⟨v.h.ok, fun es' clk' hok hfind => ?_⟩
    conv => whnf
    repeat' ((first | refine w1 (h := ?_) | refine w2 ?_ ?_ | refine w3 (h := ?_) | refine w4 (h := ?_) | refine hD _ _ ?_ | refine hL _ _ ?_ | (intro h; (try simp only [n1, n2, n3, n4, n5, n6] at h); first | (exfalso; omega) | (cases h; done) | skip)) <;> (conv => whnf))
    apply Ret.dsk1
    · (repeat first | exact List.mem_cons_self .. | apply List.mem_cons_of_mem)
    · (repeat first | exact List.mem_cons_self .. | apply List.mem_cons_of_mem)
    · (repeat first | exact List.mem_cons_self .. | apply List.mem_cons_of_mem)
    · rfl
    · exact SEq.nrm rfl rfl
    · exact fun ρ => by simp [dskC, den, DS.put]
    · rfl
    · exact v.h.put hok hfind
  · have hz : d.fuse < 0 := by omega
    rw [write_ok hdn hi hb (by omega), burnt_lt hz]
    refine draw_rule tok (by kernel_rfl) [.any 0, .any 1, .any 2, .any 4, .any 5, .load 3, .one 6, .one 7, .one 8] [] [(0, .cells [.s 1 0 d.l.length d.l.length, .m 2, .v (.int .i64 d.fuse), .v (.bool d.down)] 101)] (by kernel_rfl) rfl rfl ⟨rfl, trivial⟩ ?_
    obtain ⟨ad, rfl, _⟩ := hB.get (i := 0) (by omega)
    conv => whnf
    repeat' ((first | refine w1 (h := ?_) | refine w2 ?_ ?_ | refine w3 (h := ?_) | refine w4 (h := ?_) | refine hD _ _ ?_ | refine hL _ _ ?_ | (intro h; (try simp only [n1, n2, n3, n4, n5, n6] at h); first | (exfalso; omega) | (cases h; done) | skip)) <;> (conv => whnf))
    refine ⟨b.map bv, ⟨by simp [hb], fun j y hj => hB.rowAt.2 ad rfl j y hj⟩, ?_⟩
    conv => whnf
    repeat' ((first | refine w1 (h := ?_) | refine w2 ?_ ?_ | refine w3 (h := ?_) | refine w4 (h := ?_) | refine hD _ _ ?_ | refine hL _ _ ?_ | (intro h; (try simp only [n1, n2, n3, n4, n5, n6] at h); first | (exfalso; omega) | (cases h; done) | skip)) <;> (conv => whnf))
    refine ⟨v.h.ok, fun es' clk' hok hfind => ?_⟩
    conv => whnf
    repeat' ((first | refine w1 (h := ?_) | refine w2 ?_ ?_ | refine w3 (h := ?_) | refine w4 (h := ?_) | refine hD _ _ ?_ | refine hL _ _ ?_ | (intro h; (try simp only [n1, n2, n3, n4, n5, n6] at h); first | (exfalso; omega) | (cases h; done) | skip)) <;> (conv => whnf))
    apply Ret.dsk1
    · (repeat first | exact List.mem_cons_self .. | apply List.mem_cons_of_mem)
    · (repeat first | exact List.mem_cons_self .. | apply List.mem_cons_of_mem)
    · (repeat first | exact List.mem_cons_self .. | apply List.mem_cons_of_mem)
    · rfl
    · exact SEq.nrm rfl rfl
    · exact fun ρ => by simp [dskC, den, DS.put]
    · rfl
    · exact v.h.put hok hfind
end Go.Proofs.Ytekgjjanikicnaa.Sx

namespace Go.Proofs.Ytekgjjanikicnaa.Sx
open Go
set_option maxRecDepth 100000
set_option linter.unusedSimpArgs false
set_option linter.unusedVariables false

theorem tReadLost (fx : List Fact) (d : DS) (hd : d.Ok) (h : d.down = true) (i : Int) :
    Tri Try.prog 29 [.p 0 0, .v (.int .i64 i)] [dsk 0 d] 1 fx (RetE (α := Unit) 1 (fun _ => True) (fun _ => .tup [.v (.slice none 0 0), .k .i64 6]) (fun _ => [dsk 0 d]) 1 (fun _ => [])) := by
  refine Tri.toldE (told_dsk d) trivial 0 (List.mem_singleton.2 rfl) fun v => Tri.one ?_
  show Tri _ 29 _ [(0, .cells [.s 1 0 d.l.length d.l.length, .m 2, .v (.int .i64 d.fuse), .v (.bool d.down)] 101), (1, .row (flat d.l) 102), (2, .map v.es v.clk)] 3 fx _
  have hf := hd.fus
  have hlen := hd.len
  refine Tri.of_code tok Try.func29 rfl rfl rfl (by decide) rfl (Nat.le_of_ble_eq_true rfl) ?_
  conv => whnf
  repeat' ((first | refine w1 (h := ?_) | refine w2 ?_ ?_ | refine w3 (h := ?_) | refine w4 (h := ?_) | refine hD _ _ ?_ | refine hL _ _ ?_ | (intro h; (try simp only [n1, n2, n3, n4, n5, n6] at h); first | (exfalso; omega) | (cases h; done) | skip)) <;> (conv => whnf))
  refine Tri.of_code tok Try.func36 rfl rfl rfl (by decide) rfl (Nat.le_of_ble_eq_true rfl) ?_
  rw [h]
  conv => whnf
  repeat' ((first | refine w1 (h := ?_) | refine w2 ?_ ?_ | refine w3 (h := ?_) | refine w4 (h := ?_) | refine hD _ _ ?_ | refine hL _ _ ?_ | (intro h; (try simp only [n1, n2, n3, n4, n5, n6] at h); first | (exfalso; omega) | (cases h; done) | skip)) <;> (conv => whnf))
  apply Ret.dsk1
  · (repeat first | exact List.mem_cons_self .. | apply List.mem_cons_of_mem)
  · (repeat first | exact List.mem_cons_self .. | apply List.mem_cons_of_mem)
  · (repeat first | exact List.mem_cons_self .. | apply List.mem_cons_of_mem)
  · rfl
  · exact SEq.nrm rfl rfl
  · exact fun ρ => by simp [dskC, den, *]
  · rfl
  · exact v.h
theorem tReadOut (fx : List Fact) (d : DS) (hd : d.Ok) (h : d.down = false) (i : Int) (hi : ¬ (0 ≤ i ∧ i < (d.l.length : Int))) :
    Tri Try.prog 29 [.p 0 0, .v (.int .i64 i)] [dsk 0 d] 1 fx (RetE (α := Unit) 1 (fun _ => True) (fun _ => .tup [.v (.slice none 0 0), .k .i64 3]) (fun _ => [dsk 0 d]) 1 (fun _ => [])) := by
  refine Tri.toldE (told_dsk d) trivial 0 (List.mem_singleton.2 rfl) fun v => Tri.one ?_
  show Tri _ 29 _ [(0, .cells [.s 1 0 d.l.length d.l.length, .m 2, .v (.int .i64 d.fuse), .v (.bool d.down)] 101), (1, .row (flat d.l) 102), (2, .map v.es v.clk)] 3 fx _
  have hf := hd.fus
  have hlen := hd.len
  refine Tri.of_code tok Try.func29 rfl rfl rfl (by decide) rfl (Nat.le_of_ble_eq_true rfl) ?_
  conv => whnf
  repeat' ((first | refine w1 (h := ?_) | refine w2 ?_ ?_ | refine w3 (h := ?_) | refine w4 (h := ?_) | refine hD _ _ ?_ | refine hL _ _ ?_ | (intro h; (try simp only [n1, n2, n3, n4, n5, n6] at h); first | (exfalso; omega) | (cases h; done) | skip)) <;> (conv => whnf))
  refine Tri.of_code tok Try.func36 rfl rfl rfl (by decide) rfl (Nat.le_of_ble_eq_true rfl) ?_
  rw [h]
  conv => whnf
  repeat' ((first | refine w1 (h := ?_) | refine w2 ?_ ?_ | refine w3 (h := ?_) | refine w4 (h := ?_) | refine hD _ _ ?_ | refine hL _ _ ?_ | (intro h; (try simp only [n1, n2, n3, n4, n5, n6] at h); first | (exfalso; omega) | (cases h; done) | skip)) <;> (conv => whnf))
  all_goals (
    apply Ret.dsk1
    · (repeat first | exact List.mem_cons_self .. | apply List.mem_cons_of_mem)
    · (repeat first | exact List.mem_cons_self .. | apply List.mem_cons_of_mem)
    · (repeat first | exact List.mem_cons_self .. | apply List.mem_cons_of_mem)
    · rfl
    · exact SEq.nrm rfl rfl
    · exact fun ρ => by simp [dskC, den, *]
    · rfl
    · exact v.h)
theorem zero_agg {z : Value} (h : z.cells.toList.map ofV = List.replicate 64 (SV.k IntKind.u8 0)) : ∃ a, z = .agg a ∧ aggOk a 64 := by
  have hl := congrArg List.length h
  rw [List.length_map, List.length_replicate, Array.length_toList] at hl
  cases z with
  | agg a =>
    refine ⟨a, rfl, hl, fun u hu => ?_⟩
    have : ofV u ∈ List.replicate 64 (SV.k IntKind.u8 0) := by rw [← h]; exact List.mem_map.2 ⟨u, hu, rfl⟩
    have e := List.eq_of_mem_replicate this
    cases u <;> first | rfl | (simp [ofV] at e)
  | _ => simp [Value.cells] at hl
theorem mem_restH {keys : List Nat} {r : Nat} {o : SObj} : ∀ {h : List (Nat × SObj)}, (r, o) ∈ h → keys.any (Nat.beq r) = false → (r, o) ∈ restH keys h
  | (r', o') :: l, hm, hk => by
    unfold restH
    rcases List.mem_cons.1 hm with e | hm
    · cases e
      rw [hk]
      exact List.mem_cons_self ..
    · have := mem_restH hm hk
      split
      · exact this
      · exact List.mem_cons_of_mem _ this
/-- What a call leaves of a disk, and of other regions. -/
theorem Ret.dskR {d : DS} {cs : List SV} {xs : List Value} {es : Array MapEntry} {clk : Nat} {h : List (Nat × SObj)} {v y : SV} {n : Nat} {f : List Fact} (R : List (Nat × SObj)) {h' : List (Nat × SObj)} {m1 : Nat} (σ : List Nat) (h1 : (0, SObj.cells cs 101) ∈ h) (h2 : (1, SObj.row xs 102) ∈ h) (h3 : (2, SObj.map es clk) ∈ h)
    (hR : ∀ e, e ∈ R → e ∈ restH [0, 1, 2] h) (hn : namesOk 1 n m1 σ (h'.map (·.1)) = true) (hv : SEq m1 σ v y) (hs : heapSub m1 σ (dsk 0 d :: R) h') (hc : ∀ ρ, denL ρ cs = dskC (ρ 1) (ρ 2) d) (hx : xs = flat d.l) (hh : Holds es clk d.c) : Ret 1 v h' m1 [] y h n f :=
  Ret.mk σ (dsk 0 d :: R) ((dsk_fold h1 h2 h3 hc hx hh).trans (Fold.drop fun e he => by
    rcases List.mem_cons.1 he with rfl | he
    · exact List.mem_cons_self ..
    · exact List.mem_cons_of_mem _ (hR e he))) hn hv hs (fun _ h => nomatch h)
theorem tRead (fx : List Fact) (d : DS) (hd : d.Ok) (h : d.down = false) (i : Nat) (hi : i < d.l.length) :
    Tri Try.prog 29 [.p 0 0, .v (.int .i64 i)] [dsk 0 d] 1 fx (RetE (α := List Value) 1 (fun _ => True) (fun sp => .tup [.s 1 0 64 (64 + sp.length), .k .i64 0]) (fun sp => [dsk 0 d, (1, .row ((d.get i).map bv ++ sp) 5)]) 2 (fun _ => [])) := by
  refine Tri.toldE (told_dsk d) trivial 0 (List.mem_singleton.2 rfl) fun v => ?_
  show Tri _ 29 _ [(0, .cells [.s 1 0 d.l.length d.l.length, .m 2, .v (.int .i64 d.fuse), .v (.bool d.down)] 101), (1, .row (flat d.l) 102), (2, .map v.es v.clk)] 3 fx _
  have hf := hd.fus
  have hlen := hd.len
  rw [h]
  refine Tri.of_code tok Try.func29 rfl rfl rfl (by decide) rfl (Nat.le_of_ble_eq_true rfl) ?_
  conv => whnf
  repeat' ((first | refine w1 (h := ?_) | refine w2 ?_ ?_ | refine w3 (h := ?_) | refine w4 (h := ?_) | refine hD _ _ ?_ | refine hL _ _ ?_ | (intro h; (try simp only [n1, n2, n3, n4, n5, n6] at h); first | (exfalso; omega) | (cases h; done) | skip)) <;> (conv => whnf))
  refine Tri.of_code tok Try.func36 rfl rfl rfl (by decide) rfl (Nat.le_of_ble_eq_true rfl) ?_
  conv => whnf
  repeat' ((first | refine w1 (h := ?_) | refine w2 ?_ ?_ | refine w3 (h := ?_) | refine w4 (h := ?_) | refine hD _ _ ?_ | refine hL _ _ ?_ | (intro h; (try simp only [n1, n2, n3, n4, n5, n6] at h); first | (exfalso; omega) | (cases h; done) | skip)) <;> (conv => whnf))
  refine ⟨v.h.ok, fun w hw => ?_, fun hno z hz => ?_⟩
  · obtain ⟨s, hs, rfl⟩ := v.h.get hw
    have hs64 := (hd.cac _ _ hs).2
    have hg : d.get i = s := by unfold DS.get; rw [hs]; rfl
    conv => whnf
    repeat' ((first | refine w1 (h := ?_) | refine w2 ?_ ?_ | refine w3 (h := ?_) | refine w4 (h := ?_) | refine hD _ _ ?_ | refine hL _ _ ?_ | (intro h; (try simp only [n1, n2, n3, n4, n5, n6] at h); first | (exfalso; omega) | (cases h; done) | skip)) <;> (conv => whnf))
    refine ⟨secV_ok hs64, ⟨rfl, rfl⟩, ?_⟩
    conv => whnf
    repeat' ((first | refine w1 (h := ?_) | refine w2 ?_ ?_ | refine w3 (h := ?_) | refine w4 (h := ?_) | refine hD _ _ ?_ | refine hL _ _ ?_ | (intro h; (try simp only [n1, n2, n3, n4, n5, n6] at h); first | (exfalso; omega) | (cases h; done) | skip)) <;> (conv => whnf))
    refine Tri.of_code tok Try.func62 rfl rfl rfl (by decide) rfl (Nat.le_of_ble_eq_true rfl) ?_
    conv => whnf
    repeat' ((first | refine w1 (h := ?_) | refine w2 ?_ ?_ | refine w3 (h := ?_) | refine w4 (h := ?_) | refine hD _ _ ?_ | refine hL _ _ ?_ | (intro h; (try simp only [n1, n2, n3, n4, n5, n6] at h); first | (exfalso; omega) | (cases h; done) | skip)) <;> (conv => whnf))
    refine ⟨s.map bv, ⟨by rw [List.drop_zero]; exact List.take_of_length_le (by simp [hs64]), by simp [hs64]⟩, ?_⟩
    conv => whnf
    repeat' ((first | refine w1 (h := ?_) | refine w2 ?_ ?_ | refine w3 (h := ?_) | refine w4 (h := ?_) | refine hD _ _ ?_ | refine hL _ _ ?_ | (intro h; (try simp only [n1, n2, n3, n4, n5, n6] at h); first | (exfalso; omega) | (cases h; done) | skip)) <;> (conv => whnf))
    refine ⟨⟨by omega, by omega, rfl, fun u hu => by obtain ⟨c, _, rfl⟩ := List.mem_map.1 hu; rfl⟩, fun m sp hsp => ?_⟩
    conv => whnf
    repeat' ((first | refine w1 (h := ?_) | refine w2 ?_ ?_ | refine w3 (h := ?_) | refine w4 (h := ?_) | refine hD _ _ ?_ | refine hL _ _ ?_ | (intro h; (try simp only [n1, n2, n3, n4, n5, n6] at h); first | (exfalso; omega) | (cases h; done) | skip)) <;> (conv => whnf))
    refine ⟨sp, trivial, ?_⟩
    rw [hg]
    apply Ret.dskR [(5, .row (s.map bv ++ sp) 5)] [0, 5]
    · (repeat first | exact List.mem_cons_self .. | apply List.mem_cons_of_mem)
    · (repeat first | exact List.mem_cons_self .. | apply List.mem_cons_of_mem)
    · (repeat first | exact List.mem_cons_self .. | apply List.mem_cons_of_mem)
    · intro e he
      rw [List.mem_singleton.1 he]
      exact mem_restH (by simp) rfl
    · rfl
    · exact SEq.ren rfl (by simp [ren, renL, sg, hsp])
    · exact ⟨OSub.ren rfl rfl, OSub.ren rfl rfl, trivial⟩
    · exact fun ρ => by simp [dskC, den, *]
    · rfl
    · exact v.h
  · obtain ⟨a, rfl, ha⟩ := zero_agg hz
    have hno' := v.h.miss hno
    have hli : d.l[i]? = some d.l[i] := List.getElem?_eq_getElem hi
    have hs64 : d.l[i].length = 64 := hd.sec _ (List.getElem_mem _)
    have hg : d.get i = d.l[i] := by unfold DS.get; rw [hno']; simp [List.getD_eq_getElem?_getD, hli]
    conv => whnf
    repeat' ((first | refine w1 (h := ?_) | refine w2 ?_ ?_ | refine w3 (h := ?_) | refine w4 (h := ?_) | refine hD _ _ ?_ | refine hL _ _ ?_ | (intro h; (try simp only [n1, n2, n3, n4, n5, n6] at h); first | (exfalso; omega) | (cases h; done) | skip)) <;> (conv => whnf))
    refine ⟨⟨rfl, rfl⟩, ?_⟩
    conv => whnf
    repeat' ((first | refine w1 (h := ?_) | refine w2 ?_ ?_ | refine w3 (h := ?_) | refine w4 (h := ?_) | refine hD _ _ ?_ | refine hL _ _ ?_ | (intro h; (try simp only [n1, n2, n3, n4, n5, n6] at h); first | (exfalso; omega) | (cases h; done) | skip)) <;> (conv => whnf))
    refine ⟨d.l[i].map bv, ⟨by rw [Nat.zero_add]; exact flat_get hd.sec hli, by simp [hs64]⟩, ?_⟩
    conv => whnf
    repeat' ((first | refine w1 (h := ?_) | refine w2 ?_ ?_ | refine w3 (h := ?_) | refine w4 (h := ?_) | refine hD _ _ ?_ | refine hL _ _ ?_ | (intro h; (try simp only [n1, n2, n3, n4, n5, n6] at h); first | (exfalso; omega) | (cases h; done) | skip)) <;> (conv => whnf))
    refine ⟨secV_ok hs64, ?_⟩
    refine ⟨by rw [Array.length_toList, ha.1]; exact Nat.le_refl _, ?_⟩
    conv => whnf
    repeat' ((first | refine w1 (h := ?_) | refine w2 ?_ ?_ | refine w3 (h := ?_) | refine w4 (h := ?_) | refine hD _ _ ?_ | refine hL _ _ ?_ | (intro h; (try simp only [n1, n2, n3, n4, n5, n6] at h); first | (exfalso; omega) | (cases h; done) | skip)) <;> (conv => whnf))
    refine Tri.of_code tok Try.func62 rfl rfl rfl (by decide) rfl (Nat.le_of_ble_eq_true rfl) ?_
    conv => whnf
    repeat' ((first | refine w1 (h := ?_) | refine w2 ?_ ?_ | refine w3 (h := ?_) | refine w4 (h := ?_) | refine hD _ _ ?_ | refine hL _ _ ?_ | (intro h; (try simp only [n1, n2, n3, n4, n5, n6] at h); first | (exfalso; omega) | (cases h; done) | skip)) <;> (conv => whnf))
    have e : List.take 64 (splice a.toList 0 (d.l[i].map bv)) = d.l[i].map bv := by
      have h1 : (d.l[i].map bv).length = 64 := by simp [hs64]
      simp only [splice, List.take_zero, List.nil_append, Nat.zero_add, h1]
      exact List.take_left' h1
    refine ⟨d.l[i].map bv, ⟨e, by simp [hs64]⟩, ?_⟩
    conv => whnf
    repeat' ((first | refine w1 (h := ?_) | refine w2 ?_ ?_ | refine w3 (h := ?_) | refine w4 (h := ?_) | refine hD _ _ ?_ | refine hL _ _ ?_ | (intro h; (try simp only [n1, n2, n3, n4, n5, n6] at h); first | (exfalso; omega) | (cases h; done) | skip)) <;> (conv => whnf))
    refine ⟨⟨by omega, by omega, rfl, fun u hu => by obtain ⟨c, _, rfl⟩ := List.mem_map.1 hu; rfl⟩, fun m sp hsp => ?_⟩
    conv => whnf
    repeat' ((first | refine w1 (h := ?_) | refine w2 ?_ ?_ | refine w3 (h := ?_) | refine w4 (h := ?_) | refine hD _ _ ?_ | refine hL _ _ ?_ | (intro h; (try simp only [n1, n2, n3, n4, n5, n6] at h); first | (exfalso; omega) | (cases h; done) | skip)) <;> (conv => whnf))
    refine ⟨sp, trivial, ?_⟩
    rw [hg]
    apply Ret.dskR [(5, .row (d.l[i].map bv ++ sp) 5)] [0, 5]
    · (repeat first | exact List.mem_cons_self .. | apply List.mem_cons_of_mem)
    · (repeat first | exact List.mem_cons_self .. | apply List.mem_cons_of_mem)
    · (repeat first | exact List.mem_cons_self .. | apply List.mem_cons_of_mem)
    · intro e he
      rw [List.mem_singleton.1 he]
      exact mem_restH (by simp) rfl
    · rfl
    · exact SEq.ren rfl (by simp [ren, renL, sg, hsp])
    · exact ⟨OSub.ren rfl rfl, OSub.ren rfl rfl, trivial⟩
    · exact fun ρ => by simp [dskC, den, *]
    · rfl
    · exact v.h
end Go.Proofs.Ytekgjjanikicnaa.Sx

namespace Go.Proofs.Ytekgjjanikicnaa.Sx
open Go
set_option maxRecDepth 100000
set_option linter.unusedSimpArgs false
set_option linter.unusedVariables false

theorem synced_sec {es : Array MapEntry} {seen : Array Nat} {l : List Sec} {c : Int → Option Sec} (h1 : ∀ s ∈ l, s.length = 64) (h2 : ∀ i s, c i = some s → s.length = 64) : ∀ s ∈ synced es seen l c, s.length = 64 := by
  intro s hs
  obtain ⟨i, hi⟩ := List.getElem?_of_mem hs
  rw [synced_get] at hi
  cases hl : l[i]? with
  | none => rw [hl] at hi; cases hi
  | some t =>
    rw [hl] at hi
    simp only [Option.map_some, Option.some.injEq] at hi
    subst hi
    split
    · cases hc : c (i : Int) with
      | none => exact h1 _ (List.mem_of_getElem? hl)
      | some u => exact h2 _ _ hc
    · exact h1 _ (List.mem_of_getElem? hl)
theorem sync_down {d : DS} (h : d.down = true) : d.sync = (6, d) := by unfold DS.sync; rw [if_pos h]
theorem sync_burn {d : DS} (h : d.down = false) (hf : d.fuse = 0) : d.sync = (6, d.burnt) := by unfold DS.sync; rw [if_neg (by simp [h]), if_pos hf]
theorem sync_ok {d : DS} (h : d.down = false) (hf : d.fuse ≠ 0) : d.sync = (0, { d.burnt with l := laid d.l d.c, c := fun _ => none }) := by unfold DS.sync; rw [if_neg (by simp [h]), if_neg hf]
theorem tSync (fx : List Fact) (d : DS) (hd : d.Ok) : Tri Try.prog 35 [.p 0 0] [dsk 0 d] 1 fx (RetE (α := Unit) 1 (fun _ => True) (fun _ => .v (.int .i64 d.sync.1)) (fun _ => [dsk 0 d.sync.2]) 1 (fun _ => [])) := by
  refine Tri.toldE (told_dsk d) trivial 0 (List.mem_singleton.2 rfl) fun v => Tri.one ?_
  show Tri _ 35 _ [(0, .cells [.s 1 0 d.l.length d.l.length, .m 2, .v (.int .i64 d.fuse), .v (.bool d.down)] 101), (1, .row (flat d.l) 102), (2, .map v.es v.clk)] 3 fx _
  have hf := hd.fus
  have hlen := hd.len
  refine Tri.of_code tok Try.func35 rfl rfl rfl (by decide) rfl (Nat.le_of_ble_eq_true rfl) ?_
  conv => whnf
  repeat' ((first | refine w1 (h := ?_) | refine w2 ?_ ?_ | refine w3 (h := ?_) | refine w4 (h := ?_) | refine hD _ _ ?_ | refine hL _ _ ?_ | (intro h; (try simp only [n1, n2, n3, n4, n5, n6] at h); first | (exfalso; omega) | (cases h; done) | skip)) <;> (conv => whnf))
  refine Tri.of_code tok Try.func36 rfl rfl rfl (by decide) rfl (Nat.le_of_ble_eq_true rfl) ?_
  conv => whnf
  repeat' ((first | refine w1 (h := ?_) | refine w2 ?_ ?_ | refine w3 (h := ?_) | refine w4 (h := ?_) | refine hD _ _ ?_ | refine hL _ _ ?_ | (intro h; (try simp only [n1, n2, n3, n4, n5, n6] at h); first | (exfalso; omega) | (cases h; done) | skip)) <;> (conv => whnf))
  · rw [sync_down (by assumption)]
    apply Ret.dsk1
    · (repeat first | exact List.mem_cons_self .. | apply List.mem_cons_of_mem)
    · (repeat first | exact List.mem_cons_self .. | apply List.mem_cons_of_mem)
    · (repeat first | exact List.mem_cons_self .. | apply List.mem_cons_of_mem)
    · rfl
    · exact SEq.nrm rfl rfl
    · exact fun ρ => by simp [dskC, den, *]
    · rfl
    · exact v.h
  have hdn : d.down = false := by assumption
  refine Tri.of_code tok Try.func61 rfl rfl rfl (by decide) rfl (Nat.le_of_ble_eq_true rfl) ?_
  conv => whnf
  repeat' ((first | refine w1 (h := ?_) | refine w2 ?_ ?_ | refine w3 (h := ?_) | refine w4 (h := ?_) | refine hD _ _ ?_ | refine hL _ _ ?_ | (intro h; (try simp only [n1, n2, n3, n4, n5, n6] at h); first | (exfalso; omega) | (cases h; done) | skip)) <;> (conv => whnf))
  · have hz : d.fuse = 0 := by assumption
    rw [sync_burn hdn hz, burnt_zero hz]
    apply Ret.dsk1
    · (repeat first | exact List.mem_cons_self .. | apply List.mem_cons_of_mem)
    · (repeat first | exact List.mem_cons_self .. | apply List.mem_cons_of_mem)
    · (repeat first | exact List.mem_cons_self .. | apply List.mem_cons_of_mem)
    · rfl
    · exact SEq.nrm rfl rfl
    · exact fun ρ => by simp [dskC, den, *]
    · rfl
    · exact v.h
  · have hz : 0 < d.fuse := by assumption
    rw [sync_ok hdn (by omega), burnt_gt hz]
    refine loop_by tok (α := Array Nat) (fun seen => ⟨[(0, .p 0 0), (15, .p 3 0)], [(0, .cells [.s 1 0 d.l.length d.l.length, .m 2, .v (.int .i64 (d.fuse - 1)), .v (.bool d.down)] 101), (1, .row (flat (synced v.es seen d.l d.c)) 102), (2, .map v.es v.clk), (3, .iter 2 v.clk seen v.clk)], 4, fx⟩)
      (fun _ => True) (fun seen => (v.es.toList.filter fun x => !seen.contains x.born).length) #[] [0, 1, 2, 3] trivial ⟨rfl, ⟨SEq.ren rfl rfl, SEq.ren rfl rfl, trivial⟩, ⟨OSub.ren rfl rfl, OSub.ren rfl (by rw [synced_start]; rfl), OSub.ren rfl rfl, OSub.ren rfl rfl, trivial⟩, fun f hf => hf⟩ ?_
    rintro seen -
    have hsl := synced_length v.es seen d.l d.c
    conv => whnf
    repeat' ((first | refine w1 (h := ?_) | refine w2 ?_ ?_ | refine w3 (h := ?_) | refine w4 (h := ?_) | refine hD _ _ ?_ | refine hL _ _ ?_ | (intro h; (try simp only [n1, n2, n3, n4, n5, n6] at h); first | (exfalso; omega) | (cases h; done) | skip)) <;> (conv => whnf))
    refine ⟨⟨rfl, rfl, v.h.ok⟩, fun x i hx hk hs => ?_, fun hall => ?_⟩
    · obtain ⟨t, ht, hxv⟩ := v.h.entry hx hk
      obtain ⟨⟨hi0, hi1⟩, ht64⟩ := hd.cac _ _ ht
      obtain ⟨k, rfl⟩ := Int.eq_ofNat_of_zero_le hi0
      rw [hxv]
      conv => whnf
      repeat' ((first | refine w1 (h := ?_) | refine w2 ?_ ?_ | refine w3 (h := ?_) | refine w4 (h := ?_) | refine hD _ _ ?_ | refine hL _ _ ?_ | (intro h; (try simp only [n1, n2, n3, n4, n5, n6] at h); first | (exfalso; omega) | (cases h; done) | skip)) <;> (conv => whnf))
      refine ⟨⟨rfl, v.h.ok⟩, x, k, ⟨hx, hk, by simp⟩, ?_⟩
      rw [hxv]
      conv => whnf
      repeat' ((first | refine w1 (h := ?_) | refine w2 ?_ ?_ | refine w3 (h := ?_) | refine w4 (h := ?_) | refine hD _ _ ?_ | refine hL _ _ ?_ | (intro h; (try simp only [n1, n2, n3, n4, n5, n6] at h); first | (exfalso; omega) | (cases h; done) | skip)) <;> (conv => whnf))
      refine ⟨secV_ok ht64, ⟨rfl, rfl⟩, ?_⟩
      conv => whnf
      repeat' ((first | refine w1 (h := ?_) | refine w2 ?_ ?_ | refine w3 (h := ?_) | refine w4 (h := ?_) | refine hD _ _ ?_ | refine hL _ _ ?_ | (intro h; (try simp only [n1, n2, n3, n4, n5, n6] at h); first | (exfalso; omega) | (cases h; done) | skip)) <;> (conv => whnf))
      refine draw_rule tok (by kernel_rfl) [.any 0, .any 1, .any 2, .any 4, .load 3, .one 5, .any 6, .one 7] [] [(0, .cells [.s 1 0 d.l.length d.l.length, .m 2, .v (.int .i64 (d.fuse - 1)), .v (.bool d.down)] 101)] (by kernel_rfl) rfl rfl ⟨rfl, trivial⟩ ?_
      conv => whnf
      repeat' ((first | refine w1 (h := ?_) | refine w2 ?_ ?_ | refine w3 (h := ?_) | refine w4 (h := ?_) | refine hD _ _ ?_ | refine hL _ _ ?_ | (intro h; (try simp only [n1, n2, n3, n4, n5, n6] at h); first | (exfalso; omega) | (cases h; done) | skip)) <;> (conv => whnf))
      refine ⟨t.map bv, ⟨by rw [List.drop_zero]; exact List.take_of_length_le (by simp [ht64]), by simp [ht64]⟩, ?_⟩
      conv => whnf
      repeat' ((first | refine w1 (h := ?_) | refine w2 ?_ ?_ | refine w3 (h := ?_) | refine w4 (h := ?_) | refine hD _ _ ?_ | refine hL _ _ ?_ | (intro h; (try simp only [n1, n2, n3, n4, n5, n6] at h); first | (exfalso; omega) | (cases h; done) | skip)) <;> (conv => whnf))
      have hss := synced_sec (es := v.es) (seen := seen) hd.sec (fun i s hc => (hd.cac i s hc).2)
      refine ⟨secV_ok ht64, ⟨by rw [flat_length hss, hsl]; show 0 + k * 64 + 64 ≤ _; omega, ?_⟩⟩
      conv => whnf
      repeat' ((first | refine w1 (h := ?_) | refine w2 ?_ ?_ | refine w3 (h := ?_) | refine w4 (h := ?_) | refine hD _ _ ?_ | refine hL _ _ ?_ | (intro h; (try simp only [n1, n2, n3, n4, n5, n6] at h); first | (exfalso; omega) | (cases h; done) | skip)) <;> (conv => whnf))
      refine ⟨seen.push x.born, [0, 1, 2, 3], ⟨trivial, unseen_lt hx hs⟩, rfl, ⟨SEq.ren rfl rfl, SEq.ren rfl rfl, trivial⟩, ⟨OSub.ren rfl rfl, OSub.ren rfl ?_, OSub.ren rfl rfl, OSub.ren rfl rfl, trivial⟩, fun f hf => hf⟩
      simp only [renO]
      rw [Nat.zero_add, flat_set t hss (by rw [hsl]; omega) ht64, synced_step v.h hx hk ht]
    · conv => whnf
      repeat' ((first | refine w1 (h := ?_) | refine w2 ?_ ?_ | refine w3 (h := ?_) | refine w4 (h := ?_) | refine hD _ _ ?_ | refine hL _ _ ?_ | (intro h; (try simp only [n1, n2, n3, n4, n5, n6] at h); first | (exfalso; omega) | (cases h; done) | skip)) <;> (conv => whnf))
      apply Ret.dsk1
      · (repeat first | exact List.mem_cons_self .. | apply List.mem_cons_of_mem)
      · (repeat first | exact List.mem_cons_self .. | apply List.mem_cons_of_mem)
      · (repeat first | exact List.mem_cons_self .. | apply List.mem_cons_of_mem)
      · rfl
      · exact SEq.nrm rfl rfl
      · exact fun ρ => by simp [dskC, den, laid_length]
      · exact congrArg flat (synced_end v.h hall)
      · exact Holds.empty _
  · have hz : d.fuse < 0 := by omega
    rw [sync_ok hdn (by omega), burnt_lt hz]
    refine loop_by tok (α := Array Nat) (fun seen => ⟨[(0, .p 0 0), (15, .p 3 0)], [(0, .cells [.s 1 0 d.l.length d.l.length, .m 2, .v (.int .i64 (d.fuse)), .v (.bool d.down)] 101), (1, .row (flat (synced v.es seen d.l d.c)) 102), (2, .map v.es v.clk), (3, .iter 2 v.clk seen v.clk)], 4, fx⟩)
      (fun _ => True) (fun seen => (v.es.toList.filter fun x => !seen.contains x.born).length) #[] [0, 1, 2, 3] trivial ⟨rfl, ⟨SEq.ren rfl rfl, SEq.ren rfl rfl, trivial⟩, ⟨OSub.ren rfl rfl, OSub.ren rfl (by rw [synced_start]; rfl), OSub.ren rfl rfl, OSub.ren rfl rfl, trivial⟩, fun f hf => hf⟩ ?_
    rintro seen -
    have hsl := synced_length v.es seen d.l d.c
    conv => whnf
    repeat' ((first | refine w1 (h := ?_) | refine w2 ?_ ?_ | refine w3 (h := ?_) | refine w4 (h := ?_) | refine hD _ _ ?_ | refine hL _ _ ?_ | (intro h; (try simp only [n1, n2, n3, n4, n5, n6] at h); first | (exfalso; omega) | (cases h; done) | skip)) <;> (conv => whnf))
    refine ⟨⟨rfl, rfl, v.h.ok⟩, fun x i hx hk hs => ?_, fun hall => ?_⟩
    · obtain ⟨t, ht, hxv⟩ := v.h.entry hx hk
      obtain ⟨⟨hi0, hi1⟩, ht64⟩ := hd.cac _ _ ht
      obtain ⟨k, rfl⟩ := Int.eq_ofNat_of_zero_le hi0
      rw [hxv]
      conv => whnf
      repeat' ((first | refine w1 (h := ?_) | refine w2 ?_ ?_ | refine w3 (h := ?_) | refine w4 (h := ?_) | refine hD _ _ ?_ | refine hL _ _ ?_ | (intro h; (try simp only [n1, n2, n3, n4, n5, n6] at h); first | (exfalso; omega) | (cases h; done) | skip)) <;> (conv => whnf))
      refine ⟨⟨rfl, v.h.ok⟩, x, k, ⟨hx, hk, by simp⟩, ?_⟩
      rw [hxv]
      conv => whnf
      repeat' ((first | refine w1 (h := ?_) | refine w2 ?_ ?_ | refine w3 (h := ?_) | refine w4 (h := ?_) | refine hD _ _ ?_ | refine hL _ _ ?_ | (intro h; (try simp only [n1, n2, n3, n4, n5, n6] at h); first | (exfalso; omega) | (cases h; done) | skip)) <;> (conv => whnf))
      refine ⟨secV_ok ht64, ⟨rfl, rfl⟩, ?_⟩
      conv => whnf
      repeat' ((first | refine w1 (h := ?_) | refine w2 ?_ ?_ | refine w3 (h := ?_) | refine w4 (h := ?_) | refine hD _ _ ?_ | refine hL _ _ ?_ | (intro h; (try simp only [n1, n2, n3, n4, n5, n6] at h); first | (exfalso; omega) | (cases h; done) | skip)) <;> (conv => whnf))
      refine draw_rule tok (by kernel_rfl) [.any 0, .any 1, .any 2, .any 4, .load 3, .one 5, .any 6, .one 7] [] [(0, .cells [.s 1 0 d.l.length d.l.length, .m 2, .v (.int .i64 (d.fuse)), .v (.bool d.down)] 101)] (by kernel_rfl) rfl rfl ⟨rfl, trivial⟩ ?_
      conv => whnf
      repeat' ((first | refine w1 (h := ?_) | refine w2 ?_ ?_ | refine w3 (h := ?_) | refine w4 (h := ?_) | refine hD _ _ ?_ | refine hL _ _ ?_ | (intro h; (try simp only [n1, n2, n3, n4, n5, n6] at h); first | (exfalso; omega) | (cases h; done) | skip)) <;> (conv => whnf))
      refine ⟨t.map bv, ⟨by rw [List.drop_zero]; exact List.take_of_length_le (by simp [ht64]), by simp [ht64]⟩, ?_⟩
      conv => whnf
      repeat' ((first | refine w1 (h := ?_) | refine w2 ?_ ?_ | refine w3 (h := ?_) | refine w4 (h := ?_) | refine hD _ _ ?_ | refine hL _ _ ?_ | (intro h; (try simp only [n1, n2, n3, n4, n5, n6] at h); first | (exfalso; omega) | (cases h; done) | skip)) <;> (conv => whnf))
      have hss := synced_sec (es := v.es) (seen := seen) hd.sec (fun i s hc => (hd.cac i s hc).2)
      refine ⟨secV_ok ht64, ⟨by rw [flat_length hss, hsl]; show 0 + k * 64 + 64 ≤ _; omega, ?_⟩⟩
      conv => whnf
      repeat' ((first | refine w1 (h := ?_) | refine w2 ?_ ?_ | refine w3 (h := ?_) | refine w4 (h := ?_) | refine hD _ _ ?_ | refine hL _ _ ?_ | (intro h; (try simp only [n1, n2, n3, n4, n5, n6] at h); first | (exfalso; omega) | (cases h; done) | skip)) <;> (conv => whnf))
      refine ⟨seen.push x.born, [0, 1, 2, 3], ⟨trivial, unseen_lt hx hs⟩, rfl, ⟨SEq.ren rfl rfl, SEq.ren rfl rfl, trivial⟩, ⟨OSub.ren rfl rfl, OSub.ren rfl ?_, OSub.ren rfl rfl, OSub.ren rfl rfl, trivial⟩, fun f hf => hf⟩
      simp only [renO]
      rw [Nat.zero_add, flat_set t hss (by rw [hsl]; omega) ht64, synced_step v.h hx hk ht]
    · conv => whnf
      repeat' ((first | refine w1 (h := ?_) | refine w2 ?_ ?_ | refine w3 (h := ?_) | refine w4 (h := ?_) | refine hD _ _ ?_ | refine hL _ _ ?_ | (intro h; (try simp only [n1, n2, n3, n4, n5, n6] at h); first | (exfalso; omega) | (cases h; done) | skip)) <;> (conv => whnf))
      apply Ret.dsk1
      · (repeat first | exact List.mem_cons_self .. | apply List.mem_cons_of_mem)
      · (repeat first | exact List.mem_cons_self .. | apply List.mem_cons_of_mem)
      · (repeat first | exact List.mem_cons_self .. | apply List.mem_cons_of_mem)
      · rfl
      · exact SEq.nrm rfl rfl
      · exact fun ρ => by simp [dskC, den, laid_length]
      · exact congrArg flat (synced_end v.h hall)
      · exact Holds.empty _
end Go.Proofs.Ytekgjjanikicnaa.Sx

namespace Go.Proofs.Ytekgjjanikicnaa.Sx
open Go
set_option maxRecDepth 100000
set_option linter.unusedSimpArgs false
set_option linter.unusedVariables false

/-- A part of a sector, laid into it. -/
theorem flat_part {l : List Sec} {i : Nat} {s p : Sec} (h : ∀ s ∈ l, s.length = 64) (hi : l[i]? = some s) (hp : p.length ≤ 64) : splice (flat l) (i * 64) (p.map bv) = flat (l.set i (p ++ s.drop p.length)) := by
  have hl := (List.getElem?_eq_some_iff.1 hi).1
  have hs : s.length = 64 := h s (List.mem_of_getElem? hi)
  have hf := flat_length h
  rw [← flat_set (p ++ s.drop p.length) h hl (by simp [hs]; omega)]
  have hg := flat_get h hi
  have e : (flat l).drop (i * 64) = s.map bv ++ (flat l).drop (i * 64 + 64) := by
    rw [← hg, ← List.drop_drop, List.take_append_drop]
  simp only [splice, List.length_map, List.length_append, List.length_drop, hs]
  rw [show p.length + (64 - p.length) = 64 by omega, ← List.drop_drop, e, List.drop_append, List.map_append, List.map_drop]
  simp only [List.length_map, hs, List.append_assoc]
  rw [show p.length - 64 = 0 by omega, List.drop_zero]
theorem set_same {α : Type} {l : List α} {i : Nat} {x : α} (h : l[i]? = some x) : l.set i x = l := by
  apply List.ext_getElem?
  intro j
  rw [List.getElem?_set]
  split
  · rename_i e; subst e; rw [h]; split
    · rfl
    · rename_i hn; exact absurd (List.getElem?_eq_some_iff.1 h).1 hn
  · rfl
structure CrS where
  i : Nat
  k : Nat
  l : List Sec
structure CrP (d : DS) (keep : List Bool) (torn at_ : Int) (x : CrS) : Prop where
  i : x.i ≤ d.l.length
  k : x.k ≤ x.i
  len : x.l.length = d.l.length
  sec : ∀ s ∈ x.l, s.length = 64
  rest : x.l.drop x.i = d.l.drop x.i
  eq : x.l.take x.i ++ crashGo d.c keep torn at_ (d.l.drop x.i) x.i x.k = crashGo d.c keep torn at_ d.l 0 0
theorem crashGo_none {c : Int → Option Sec} {keep : List Bool} {torn at_ : Int} {s : Sec} {r : List Sec} {i k : Nat} (h : c (i : Int) = none) : crashGo c keep torn at_ (s :: r) i k = s :: crashGo c keep torn at_ r (i + 1) k := by
  rw [crashGo, h]
theorem crashGo_some {c : Int → Option Sec} {keep : List Bool} {torn at_ : Int} {s t : Sec} {r : List Sec} {i k : Nat} (h : c (i : Int) = some t) : crashGo c keep torn at_ (s :: r) i k = left k keep torn at_ s t :: crashGo c keep torn at_ r (i + 1) (k + 1) := by
  rw [crashGo, h]
theorem CrP.here {d : DS} {keep : List Bool} {torn at_ : Int} {x : CrS} (h : CrP d keep torn at_ x) (hi : x.i < d.l.length) : x.l[x.i]? = some d.l[x.i] := by
  have e := congrArg (·[0]?) h.rest
  simp only [List.getElem?_drop, Nat.add_zero] at e
  rw [e, List.getElem?_eq_getElem hi]
theorem CrP.skip {d : DS} {keep : List Bool} {torn at_ : Int} {x : CrS} (h : CrP d keep torn at_ x) (hi : x.i < d.l.length) (hc : d.c (x.i : Int) = none) : CrP d keep torn at_ ⟨x.i + 1, x.k, x.l⟩ := by
  have hk := h.k
  refine ⟨hi, show x.k ≤ x.i + 1 by omega, h.len, h.sec, ?_, ?_⟩
  · simp only
    rw [← List.drop_drop, h.rest, List.drop_drop]
  · have e := h.eq
    rw [List.drop_eq_getElem_cons hi, crashGo_none hc] at e
    simp only
    rw [take_succ_of (h.here hi), List.append_assoc]
    exact e
theorem CrP.step {d : DS} {keep : List Bool} {torn at_ : Int} {x : CrS} (h : CrP d keep torn at_ x) (hi : x.i < d.l.length) {t : Sec} (hc : d.c (x.i : Int) = some t) (ht : t.length = 64) : CrP d keep torn at_ ⟨x.i + 1, x.k + 1, x.l.set x.i (left x.k keep torn at_ d.l[x.i] t)⟩ := by
  have hk := h.k
  have hs64 : d.l[x.i].length = 64 := h.sec _ (List.mem_of_getElem? (h.here hi))
  refine ⟨hi, show x.k + 1 ≤ x.i + 1 by omega, by simpa using h.len, fun s hs => ?_, ?_, ?_⟩
  · rcases List.mem_or_eq_of_mem_set hs with hs | rfl
    · exact h.sec s hs
    · exact left_length hs64 ht
  · simp only
    rw [List.drop_set_of_lt (by omega), ← List.drop_drop, h.rest, List.drop_drop]
  · have e := h.eq
    rw [List.drop_eq_getElem_cons hi, crashGo_some hc] at e
    simp only
    have hxl : x.i < x.l.length := by rw [h.len]; exact hi
    rw [take_succ_of (l := x.l.set x.i _) (x := left x.k keep torn at_ d.l[x.i] t) (by simp [hxl]), List.take_set_of_le (Nat.le_refl _), List.append_assoc]
    exact e
theorem CrP.done {d : DS} {keep : List Bool} {torn at_ : Int} {x : CrS} (h : CrP d keep torn at_ x) (hi : x.i = d.l.length) : x.l = crashGo d.c keep torn at_ d.l 0 0 := by
  have e := h.eq
  rw [hi, List.drop_length, List.take_of_length_le (by rw [h.len]; exact Nat.le_refl _)] at e
  simpa [crashGo] using e
theorem tCrash (fx : List Fact) (d : DS) (hd : d.Ok) (A : Option Addr) (cap : Nat) (keep : List Bool) (torn at_ : Int) (hK : BoolsAt fx A keep) (hk : keep.length ≤ 1000000000) (ht : -9223372036854775808 ≤ at_ ∧ at_ < 9223372036854775808) :
    Tri Try.prog 28 [.p 0 0, .agg [.v (.slice A keep.length cap), .v (.int .i64 torn), .v (.int .i64 at_)]] [dsk 0 d] 1 fx (RetE (α := Unit) 1 (fun _ => True) (fun _ => .tup []) (fun _ => [dsk 0 (d.crash keep torn at_)]) 1 (fun _ => [])) := by
  refine Tri.toldE (told_dsk d) trivial 0 (List.mem_singleton.2 rfl) fun v => Tri.one ?_
  show Tri _ 28 _ [(0, .cells [.s 1 0 d.l.length d.l.length, .m 2, .v (.int .i64 d.fuse), .v (.bool d.down)] 101), (1, .row (flat d.l) 102), (2, .map v.es v.clk)] 3 fx _
  have hf := hd.fus
  have hlen := hd.len
  refine Tri.of_code tok Try.func28 rfl rfl rfl (by decide) rfl (Nat.le_of_ble_eq_true rfl) ?_
  conv => whnf
  repeat' ((first | refine w1 (h := ?_) | refine w2 ?_ ?_ | refine w3 (h := ?_) | refine w4 (h := ?_) | refine hD _ _ ?_ | refine hL _ _ ?_ | (intro h; (try simp only [n1, n2, n3, n4, n5, n6] at h); first | (exfalso; omega) | (cases h; done) | skip)) <;> (conv => whnf))
  refine loop_by tok (α := CrS) (fun x => match x with | ⟨i, k, l⟩ => ⟨[(0, .p 0 0), (3, .p 3 0), (4, .v (.int .i64 k)), (14, .v (.int .i64 d.l.length)), (15, .v (.int .i64 i))],
      [(0, .cells [.s 1 0 d.l.length d.l.length, .m 2, .v (.int .i64 d.fuse), .v (.bool d.down)] 101), (1, .row (flat l) 102), (2, .map v.es v.clk), (3, .cells [.v (.slice A keep.length cap), .v (.int .i64 torn), .v (.int .i64 at_)] 37)], 4, fx⟩)
    (CrP d keep torn at_) (fun x => d.l.length - x.i) ⟨0, 0, d.l⟩ [0, 1, 2, 3] ⟨Nat.zero_le _, Nat.le_refl _, rfl, hd.sec, rfl, rfl⟩ ⟨rfl, ⟨SEq.ren rfl rfl, SEq.ren rfl rfl, fun _ _ _ => rfl, fun _ _ _ => rfl, fun _ _ _ => rfl, trivial⟩, ⟨OSub.ren rfl rfl, OSub.ren rfl rfl, OSub.ren rfl rfl, OSub.ren rfl rfl, trivial⟩, fun f hf => hf⟩ ?_
  rintro ⟨i, k, l⟩ hx
  have hxi := hx.i
  have hxk := hx.k
  have hxl := hx.len
  have hsec := hx.sec
  simp only at hxi hxk hxl hsec
  conv => whnf
  repeat' ((first | refine w1 (h := ?_) | refine w2 ?_ ?_ | refine w3 (h := ?_) | refine w4 (h := ?_) | refine hD _ _ ?_ | refine hL _ _ ?_ | (intro h; (try simp only [n1, n2, n3, n4, n5, n6] at h); first | (exfalso; omega) | (cases h; done) | skip)) <;> (conv => whnf))
  · refine ⟨v.h.ok, fun w hw => ?_, fun hno z hz => ?_⟩
    · obtain ⟨t, htc, rfl⟩ := v.h.get hw
      have ht64 := (hd.cac _ _ htc).2
      have hstep := hx.step (by simp only; omega) htc ht64
      have hhere := hx.here (by simp only; omega)
      simp only at hstep hhere
      conv => whnf
      repeat' ((first | refine w1 (h := ?_) | refine w2 ?_ ?_ | refine w3 (h := ?_) | refine w4 (h := ?_) | refine hD _ _ ?_ | refine hL _ _ ?_ | (intro h; (try simp only [n1, n2, n3, n4, n5, n6] at h); first | (exfalso; omega) | (cases h; done) | skip)) <;> (conv => whnf))
      refine ⟨secV_ok ht64, ⟨rfl, rfl⟩, ?_⟩
      conv => whnf
      repeat' ((first | refine w1 (h := ?_) | refine w2 ?_ ?_ | refine w3 (h := ?_) | refine w4 (h := ?_) | refine hD _ _ ?_ | refine hL _ _ ?_ | (intro h; (try simp only [n1, n2, n3, n4, n5, n6] at h); first | (exfalso; omega) | (cases h; done) | skip)) <;> (conv => whnf))
      · refine draw_rule tok (by kernel_rfl) [.any 0, .any 1, .any 2, .any 4, .any 6, .any 10, .load 3, .any 5, .one 7, .any 8, .any 9, .one 11] [] [(0, .cells [.s 1 0 d.l.length d.l.length, .m 2, .v (.int .i64 d.fuse), .v (.bool d.down)] 101)] (by kernel_rfl) rfl rfl ⟨rfl, trivial⟩ ?_
        conv => whnf
        repeat' ((first | refine w1 (h := ?_) | refine w2 ?_ ?_ | refine w3 (h := ?_) | refine w4 (h := ?_) | refine hD _ _ ?_ | refine hL _ _ ?_ | (intro h; (try simp only [n1, n2, n3, n4, n5, n6] at h); first | (exfalso; omega) | (cases h; done) | skip)) <;> (conv => whnf))
        have hm : (at_ % 65).toNat ≤ 64 := by omega
        refine ⟨(t.take (at_ % 65).toNat).map bv, ⟨by rw [Nat.mul_one, Nat.min_eq_right hm, List.drop_zero, List.map_take], by rw [List.length_map, List.length_take, ht64, Nat.mul_one, Nat.min_comm]⟩, ?_⟩
        conv => whnf
        refine ⟨⟨by rw [flat_length hsec, hxl, List.length_map, List.length_take]; omega, fun u hu => by obtain ⟨c, _, rfl⟩ := List.mem_map.1 hu; rfl⟩, ?_⟩
        conv => whnf
        repeat' ((first | refine w1 (h := ?_) | refine w2 ?_ ?_ | refine w3 (h := ?_) | refine w4 (h := ?_) | refine hD _ _ ?_ | refine hL _ _ ?_ | (intro h; (try simp only [n1, n2, n3, n4, n5, n6] at h); first | (exfalso; omega) | (cases h; done) | skip)) <;> (conv => whnf))
        refine ⟨⟨i + 1, k + 1, l.set i (left k keep torn at_ d.l[i] t)⟩, [0, 1, 2, 3], ⟨hstep, by simp only; omega⟩, rfl, ⟨SEq.ren rfl rfl, SEq.ren rfl rfl, SEq.eq rfl, fun _ _ _ => rfl, SEq.eq rfl, trivial⟩, ⟨OSub.ren rfl rfl, OSub.ren rfl ?_, OSub.ren rfl rfl, OSub.ren rfl rfl, trivial⟩, fun f hf => hf⟩
        simp only [renO]
        have hl : left k keep torn at_ d.l[i] t = t.take (at_ % 65).toNat ++ d.l[i].drop (t.take (at_ % 65).toNat).length := by
          unfold left
          rw [if_pos (by assumption), if_pos (by assumption), List.length_take, ht64, Nat.min_eq_left hm]
        rw [Nat.zero_add, hl, flat_part hsec hhere (by rw [List.length_take]; omega)]
      · have hl : left k keep torn at_ d.l[i] t = d.l[i] := by
          unfold left
          rw [if_pos (by assumption), if_neg (by assumption)]
        have hset : l.set i d.l[i] = l := set_same hhere
        rw [hl, hset] at hstep
        refine ⟨⟨i + 1, k + 1, l⟩, [0, 1, 2, 3], ⟨hstep, by simp only; omega⟩, rfl, ⟨SEq.ren rfl rfl, SEq.ren rfl rfl, SEq.eq rfl, fun _ _ _ => rfl, SEq.eq rfl, trivial⟩, ⟨OSub.ren rfl rfl, OSub.ren rfl rfl, OSub.ren rfl rfl, OSub.ren rfl rfl, trivial⟩, fun f hf => hf⟩
      · have hkl : k < keep.length := by omega
        obtain ⟨ad, rfl⟩ : ∃ ad, A = some ad := by
          cases A with
          | none => rw [hK.1 rfl] at hkl; cases hkl
          | some ad => exact ⟨ad, rfl⟩
        have hkk := hK.2 ad rfl k keep[k] (List.getElem?_eq_getElem hkl)
        rw [show ad.add k = ad.add (k * 1) by rw [Nat.mul_one]] at hkk
        cases hkv : keep[k] with
        | true =>
          rw [hkv] at hkk
          conv => whnf
          repeat' ((first | refine w1 (h := ?_) | refine w2 ?_ ?_ | refine w3 (h := ?_) | refine w4 (h := ?_) | refine hD _ _ ?_ | refine hL _ _ ?_ | (intro h; (try simp only [n1, n2, n3, n4, n5, n6] at h); first | (exfalso; omega) | (cases h; done) | skip)) <;> (conv => whnf))
          refine draw_rule tok (by kernel_rfl) [.any 0, .any 1, .any 2, .any 4, .load 3, .one 5, .any 6, .one 7] [] [(0, .cells [.s 1 0 d.l.length d.l.length, .m 2, .v (.int .i64 d.fuse), .v (.bool d.down)] 101)] (by kernel_rfl) rfl rfl ⟨rfl, trivial⟩ ?_
          conv => whnf
          repeat' ((first | refine w1 (h := ?_) | refine w2 ?_ ?_ | refine w3 (h := ?_) | refine w4 (h := ?_) | refine hD _ _ ?_ | refine hL _ _ ?_ | (intro h; (try simp only [n1, n2, n3, n4, n5, n6] at h); first | (exfalso; omega) | (cases h; done) | skip)) <;> (conv => whnf))
          refine ⟨t.map bv, ⟨by rw [List.drop_zero]; exact List.take_of_length_le (by simp [ht64]), by simp [ht64]⟩, ?_⟩
          conv => whnf
          repeat' ((first | refine w1 (h := ?_) | refine w2 ?_ ?_ | refine w3 (h := ?_) | refine w4 (h := ?_) | refine hD _ _ ?_ | refine hL _ _ ?_ | (intro h; (try simp only [n1, n2, n3, n4, n5, n6] at h); first | (exfalso; omega) | (cases h; done) | skip)) <;> (conv => whnf))
          refine ⟨secV_ok ht64, ⟨by rw [flat_length hsec, hxl]; show 0 + i * 64 + 64 ≤ _; omega, ?_⟩⟩
          conv => whnf
          repeat' ((first | refine w1 (h := ?_) | refine w2 ?_ ?_ | refine w3 (h := ?_) | refine w4 (h := ?_) | refine hD _ _ ?_ | refine hL _ _ ?_ | (intro h; (try simp only [n1, n2, n3, n4, n5, n6] at h); first | (exfalso; omega) | (cases h; done) | skip)) <;> (conv => whnf))
          refine ⟨⟨i + 1, k + 1, l.set i (left k keep torn at_ d.l[i] t)⟩, [0, 1, 2, 3], ⟨hstep, by simp only; omega⟩, rfl, ⟨SEq.ren rfl rfl, SEq.ren rfl rfl, SEq.eq rfl, fun _ _ _ => rfl, SEq.eq rfl, trivial⟩, ⟨OSub.ren rfl rfl, OSub.ren rfl ?_, OSub.ren rfl rfl, OSub.ren rfl rfl, trivial⟩, fun f hf => hf⟩
          simp only [renO]
          have hl : left k keep torn at_ d.l[i] t = t := by
            unfold left
            rw [if_neg (by assumption), if_pos (by rw [List.getElem?_eq_getElem hkl, hkv])]
          rw [Nat.zero_add, hl, flat_set t hsec (by omega) ht64]
        | false =>
          rw [hkv] at hkk
          conv => whnf
          repeat' ((first | refine w1 (h := ?_) | refine w2 ?_ ?_ | refine w3 (h := ?_) | refine w4 (h := ?_) | refine hD _ _ ?_ | refine hL _ _ ?_ | (intro h; (try simp only [n1, n2, n3, n4, n5, n6] at h); first | (exfalso; omega) | (cases h; done) | skip)) <;> (conv => whnf))
          have hl : left k keep torn at_ d.l[i] t = d.l[i] := by
            unfold left
            rw [if_neg (by assumption), if_neg (by rw [List.getElem?_eq_getElem hkl, hkv]; simp)]
          have hset : l.set i d.l[i] = l := set_same hhere
          rw [hl, hset] at hstep
          refine ⟨⟨i + 1, k + 1, l⟩, [0, 1, 2, 3], ⟨hstep, by simp only; omega⟩, rfl, ⟨SEq.ren rfl rfl, SEq.ren rfl rfl, SEq.eq rfl, fun _ _ _ => rfl, SEq.eq rfl, trivial⟩, ⟨OSub.ren rfl rfl, OSub.ren rfl rfl, OSub.ren rfl rfl, OSub.ren rfl rfl, trivial⟩, fun f hf => hf⟩
      · have hl : left k keep torn at_ d.l[i] t = d.l[i] := by
          unfold left
          rw [if_neg (by assumption), if_neg (fun e => by have := (List.getElem?_eq_some_iff.1 e).1; omega)]
        have hset : l.set i d.l[i] = l := set_same hhere
        rw [hl, hset] at hstep
        refine ⟨⟨i + 1, k + 1, l⟩, [0, 1, 2, 3], ⟨hstep, by simp only; omega⟩, rfl, ⟨SEq.ren rfl rfl, SEq.ren rfl rfl, SEq.eq rfl, fun _ _ _ => rfl, SEq.eq rfl, trivial⟩, ⟨OSub.ren rfl rfl, OSub.ren rfl rfl, OSub.ren rfl rfl, OSub.ren rfl rfl, trivial⟩, fun f hf => hf⟩
    · obtain ⟨a, rfl, ha⟩ := zero_agg hz
      conv => whnf
      repeat' ((first | refine w1 (h := ?_) | refine w2 ?_ ?_ | refine w3 (h := ?_) | refine w4 (h := ?_) | refine hD _ _ ?_ | refine hL _ _ ?_ | (intro h; (try simp only [n1, n2, n3, n4, n5, n6] at h); first | (exfalso; omega) | (cases h; done) | skip)) <;> (conv => whnf))
      refine ⟨⟨rfl, rfl⟩, ?_⟩
      conv => whnf
      repeat' ((first | refine w1 (h := ?_) | refine w2 ?_ ?_ | refine w3 (h := ?_) | refine w4 (h := ?_) | refine hD _ _ ?_ | refine hL _ _ ?_ | (intro h; (try simp only [n1, n2, n3, n4, n5, n6] at h); first | (exfalso; omega) | (cases h; done) | skip)) <;> (conv => whnf))
      have hskip := hx.skip (by simp only; omega) (v.h.miss hno)
      simp only at hskip
      refine ⟨⟨i + 1, k, l⟩, [0, 1, 2, 3], ⟨hskip, by simp only; omega⟩, rfl, ⟨SEq.ren rfl rfl, SEq.ren rfl rfl, fun _ _ _ => rfl, fun _ _ _ => rfl, SEq.eq rfl, trivial⟩, ⟨OSub.ren rfl rfl, OSub.ren rfl rfl, OSub.ren rfl rfl, OSub.ren rfl rfl, trivial⟩, fun f hf => hf⟩
  · have hdone := hx.done (by simp only; omega)
    simp only at hdone
    apply Ret.dsk1
    · (repeat first | exact List.mem_cons_self .. | apply List.mem_cons_of_mem)
    · (repeat first | exact List.mem_cons_self .. | apply List.mem_cons_of_mem)
    · (repeat first | exact List.mem_cons_self .. | apply List.mem_cons_of_mem)
    · rfl
    · exact fun _ _ _ => rfl
    · exact fun ρ => by simp [dskC, den, DS.crash, crashGo_length]
    · exact congrArg flat hdone
    · exact Holds.empty _
end Go.Proofs.Ytekgjjanikicnaa.Sx

namespace Go.Proofs.Ytekgjjanikicnaa.Sx
open Go
set_option maxRecDepth 100000
set_option linter.unusedSimpArgs false
set_option linter.unusedVariables false

theorem tDAwake (fx : List Fact) : Tri Try.prog 25 [] [] 0 fx (Ret 0 (.b true) [] 0 []) := by
  refine Tri.of_code tok Try.func25 rfl rfl rfl (by decide) rfl (Nat.le_of_ble_eq_true rfl) ?_
  conv => whnf
  repeat' ((first | refine w1 (h := ?_) | refine w2 ?_ ?_ | refine w3 (h := ?_) | refine w4 (h := ?_) | refine hD _ _ ?_ | refine hL _ _ ?_ | (intro h; (try simp only [n1, n2, n3, n4, n5, n6] at h); first | (exfalso; omega) | (cases h; done) | skip)) <;> (conv => whnf))
  refine Tri.use (tNew fx 2 (by decide)) [] rfl (args_ren rfl rfl) trivial (fun f hf => by first | exact hf | cases hf | simp_all) (fun u hu => ?_)
  conv => whnf
  repeat' ((first | refine w1 (h := ?_) | refine w2 ?_ ?_ | refine w3 (h := ?_) | refine w4 (h := ?_) | refine hD _ _ ?_ | refine hL _ _ ?_ | (intro h; (try simp only [n1, n2, n3, n4, n5, n6] at h); first | (exfalso; omega) | (cases h; done) | skip)) <;> (conv => whnf))
  refine Tri.use (tSize fx (DS.new 2)) [0] rfl (args_ren rfl rfl) ⟨OSub.ren rfl rfl, trivial⟩ (fun f hf => by first | exact hf | cases hf | simp_all) (fun u hu => ?_)
  conv => whnf
  repeat' ((first | refine w1 (h := ?_) | refine w2 ?_ ?_ | refine w3 (h := ?_) | refine w4 (h := ?_) | refine hD _ _ ?_ | refine hL _ _ ?_ | (intro h; (try simp only [n1, n2, n3, n4, n5, n6] at h); first | (exfalso; omega) | (cases h; done) | skip)) <;> (conv => whnf))
  exact Ret.mk [] [] (Fold.drop (by simp)) rfl (fun _ _ _ => by simp [den, DS.new]) trivial (fun _ h => nomatch h)
theorem tNilDown (fx : List Fact) : Tri Try.prog 36 [.v (.pointer none)] [] 0 fx (Ret 0 (.b true) [] 0 []) := by
  refine Tri.of_code tok Try.func36 rfl rfl rfl (by decide) rfl (Nat.le_of_ble_eq_true rfl) ?_
  conv => whnf
  repeat' ((first | refine w1 (h := ?_) | refine w2 ?_ ?_ | refine w3 (h := ?_) | refine w4 (h := ?_) | refine hD _ _ ?_ | refine hL _ _ ?_ | (intro h; (try simp only [n1, n2, n3, n4, n5, n6] at h); first | (exfalso; omega) | (cases h; done) | skip)) <;> (conv => whnf))
  exact Ret.noneS rfl (fun _ _ => rfl) (fun _ h => nomatch h)
theorem tNilSize (fx : List Fact) : Tri Try.prog 38 [.v (.pointer none)] [] 0 fx (Ret 0 (.k .i64 0) [] 0 []) := by
  refine Tri.of_code tok Try.func38 rfl rfl rfl (by decide) rfl (Nat.le_of_ble_eq_true rfl) ?_
  conv => whnf
  repeat' ((first | refine w1 (h := ?_) | refine w2 ?_ ?_ | refine w3 (h := ?_) | refine w4 (h := ?_) | refine hD _ _ ?_ | refine hL _ _ ?_ | (intro h; (try simp only [n1, n2, n3, n4, n5, n6] at h); first | (exfalso; omega) | (cases h; done) | skip)) <;> (conv => whnf))
  exact Ret.noneS rfl (fun _ _ => rfl) (fun _ h => nomatch h)
theorem tNilFuse (fx : List Fact) (n : Int) : Tri Try.prog 40 [.v (.pointer none), .v (.int .i64 n)] [] 0 fx (Ret 0 (.tup []) [] 0 []) := by
  refine Tri.of_code tok Try.func40 rfl rfl rfl (by decide) rfl (Nat.le_of_ble_eq_true rfl) ?_
  conv => whnf
  repeat' ((first | refine w1 (h := ?_) | refine w2 ?_ ?_ | refine w3 (h := ?_) | refine w4 (h := ?_) | refine hD _ _ ?_ | refine hL _ _ ?_ | (intro h; (try simp only [n1, n2, n3, n4, n5, n6] at h); first | (exfalso; omega) | (cases h; done) | skip)) <;> (conv => whnf))
  exact Ret.noneS rfl (fun _ _ => rfl) (fun _ h => nomatch h)
theorem tNilCrash (fx : List Fact) (A : Option Addr) (m cap : Nat) (torn at_ : Int) : Tri Try.prog 28 [.v (.pointer none), .agg [.v (.slice A m cap), .v (.int .i64 torn), .v (.int .i64 at_)]] [] 0 fx (Ret 0 (.tup []) [] 0 []) := by
  refine Tri.of_code tok Try.func28 rfl rfl rfl (by decide) rfl (Nat.le_of_ble_eq_true rfl) ?_
  conv => whnf
  repeat' ((first | refine w1 (h := ?_) | refine w2 ?_ ?_ | refine w3 (h := ?_) | refine w4 (h := ?_) | refine hD _ _ ?_ | refine hL _ _ ?_ | (intro h; (try simp only [n1, n2, n3, n4, n5, n6] at h); first | (exfalso; omega) | (cases h; done) | skip)) <;> (conv => whnf))
  exact Ret.noneS rfl (fun _ _ => rfl) (fun _ h => nomatch h)
theorem tNilRead (fx : List Fact) (i : Int) : Tri Try.prog 29 [.v (.pointer none), .v (.int .i64 i)] [] 0 fx (Ret 0 (.tup [.v (.slice none 0 0), .k .i64 6]) [] 0 []) := by
  refine Tri.of_code tok Try.func29 rfl rfl rfl (by decide) rfl (Nat.le_of_ble_eq_true rfl) ?_
  conv => whnf
  repeat' ((first | refine w1 (h := ?_) | refine w2 ?_ ?_ | refine w3 (h := ?_) | refine w4 (h := ?_) | refine hD _ _ ?_ | refine hL _ _ ?_ | (intro h; (try simp only [n1, n2, n3, n4, n5, n6] at h); first | (exfalso; omega) | (cases h; done) | skip)) <;> (conv => whnf))
  refine Tri.of_code tok Try.func36 rfl rfl rfl (by decide) rfl (Nat.le_of_ble_eq_true rfl) ?_
  conv => whnf
  repeat' ((first | refine w1 (h := ?_) | refine w2 ?_ ?_ | refine w3 (h := ?_) | refine w4 (h := ?_) | refine hD _ _ ?_ | refine hL _ _ ?_ | (intro h; (try simp only [n1, n2, n3, n4, n5, n6] at h); first | (exfalso; omega) | (cases h; done) | skip)) <;> (conv => whnf))
  exact Ret.noneS rfl (fun _ _ => rfl) (fun _ h => nomatch h)
theorem tNilWrite (fx : List Fact) (i : Int) (A : Option Addr) (m cap : Nat) : Tri Try.prog 27 [.v (.pointer none), .v (.int .i64 i), .v (.slice A m cap)] [] 0 fx (Ret 0 (.k .i64 6) [] 0 []) := by
  refine Tri.of_code tok Try.func27 rfl rfl rfl (by decide) rfl (Nat.le_of_ble_eq_true rfl) ?_
  conv => whnf
  repeat' ((first | refine w1 (h := ?_) | refine w2 ?_ ?_ | refine w3 (h := ?_) | refine w4 (h := ?_) | refine hD _ _ ?_ | refine hL _ _ ?_ | (intro h; (try simp only [n1, n2, n3, n4, n5, n6] at h); first | (exfalso; omega) | (cases h; done) | skip)) <;> (conv => whnf))
  refine Tri.of_code tok Try.func36 rfl rfl rfl (by decide) rfl (Nat.le_of_ble_eq_true rfl) ?_
  conv => whnf
  repeat' ((first | refine w1 (h := ?_) | refine w2 ?_ ?_ | refine w3 (h := ?_) | refine w4 (h := ?_) | refine hD _ _ ?_ | refine hL _ _ ?_ | (intro h; (try simp only [n1, n2, n3, n4, n5, n6] at h); first | (exfalso; omega) | (cases h; done) | skip)) <;> (conv => whnf))
  exact Ret.noneS rfl (fun _ _ => rfl) (fun _ h => nomatch h)
theorem tNilSync (fx : List Fact) : Tri Try.prog 35 [.v (.pointer none)] [] 0 fx (Ret 0 (.k .i64 6) [] 0 []) := by
  refine Tri.of_code tok Try.func35 rfl rfl rfl (by decide) rfl (Nat.le_of_ble_eq_true rfl) ?_
  conv => whnf
  repeat' ((first | refine w1 (h := ?_) | refine w2 ?_ ?_ | refine w3 (h := ?_) | refine w4 (h := ?_) | refine hD _ _ ?_ | refine hL _ _ ?_ | (intro h; (try simp only [n1, n2, n3, n4, n5, n6] at h); first | (exfalso; omega) | (cases h; done) | skip)) <;> (conv => whnf))
  refine Tri.of_code tok Try.func36 rfl rfl rfl (by decide) rfl (Nat.le_of_ble_eq_true rfl) ?_
  conv => whnf
  repeat' ((first | refine w1 (h := ?_) | refine w2 ?_ ?_ | refine w3 (h := ?_) | refine w4 (h := ?_) | refine hD _ _ ?_ | refine hL _ _ ?_ | (intro h; (try simp only [n1, n2, n3, n4, n5, n6] at h); first | (exfalso; omega) | (cases h; done) | skip)) <;> (conv => whnf))
  exact Ret.noneS rfl (fun _ _ => rfl) (fun _ h => nomatch h)
end Go.Proofs.Ytekgjjanikicnaa.Sx

namespace Go.Proofs.Ytekgjjanikicnaa.Sx
open Go
set_option maxRecDepth 100000
set_option linter.unusedSimpArgs false
set_option linter.unusedVariables false

theorem args_cons {m : Nat} {σ : List Nat} {x y : SV} {xs ys : List SV} (h1 : SEq m σ x y) (h2 : ∀ ρ ρ'', AgS m σ ρ ρ'' → denL ρ'' xs = denL ρ ys) : ∀ ρ ρ'', AgS m σ ρ ρ'' → denL ρ'' (x :: xs) = denL ρ (y :: ys) := fun ρ ρ'' ha => by
  rw [denL_cons, denL_cons, h1 ρ ρ'' ha, h2 ρ ρ'' ha]
theorem tDownB (fx : List Fact) (d : DS) (b : Bool) (h : d.down = b) : Tri Try.prog 36 [.p 0 0] [dsk 0 d] 1 fx (RetE (α := Unit) 1 (fun _ => True) (fun _ => .b b) (fun _ => [dsk 0 d]) 1 (fun _ => [])) :=
  (tDown fx d).reval fun ρ => by simp [den, h]
theorem tWriteRow (fx : List Fact) (d : DS) (hd : d.Ok) (i : Int) (b : List UInt8) (xs : List Value) (cap : Nat) (hx : xs.take b.length = b.map bv) :
    Tri Try.prog 27 [.p 0 0, .v (.int .i64 i), .s 1 0 b.length cap] [dsk 0 d, (1, .row xs 5)] 2 fx (RetE (α := Unit) 2 (fun _ => True) (fun _ => .v (.int .i64 (d.write i b).1)) (fun _ => [dsk 0 (d.write i b).2, (1, .row xs 5)]) 2 (fun _ => [])) := by
  refine Tri.lend 1 (xs := xs) (T := 5) (fun b1 => [.p 0 0, .v (.int .i64 i), .v (.slice (some ⟨b1, 0, none⟩) b.length cap)]) (by simp) rowOf.row (fun _ => rfl) fun b1 => ?_
  refine Tri.use (tWrite (rowFact b1 xs 5 :: fx) d hd i (some ⟨b1, 0, none⟩) cap b (BytesAt.row (List.mem_cons_self ..) (by rw [List.drop_zero]; exact hx))) [0] rfl (args_ren rfl rfl) ⟨OSub.ren rfl rfl, trivial⟩ (fun f hf => hf) fun u hu => ?_
  conv => whnf
  refine And.intro rfl ?_
  exact ⟨(), trivial, Ret.mk [0, 1] [dsk 0 _, (1, .row xs 5)] (Fold.drop (by simp)) rfl (fun _ _ _ => rfl) ⟨OSub.ren rfl rfl, OSub.ren rfl rfl, trivial⟩ (fun _ h => nomatch h)⟩
theorem zero_row : (repRow [Value.int IntKind.u8 0] 64).take zsec.length = zsec.map bv := rfl
theorem zsec_length : zsec.length = 64 := rfl
theorem tReadF (fx : List Fact) (d : DS) (hd : d.Ok) (h : d.down = false) (i : Nat) (hi : i < d.l.length) :
    Tri Try.prog 29 [.p 0 0, .v (.int .i64 i)] [dsk 0 d] 1 fx (RetE (α := Nat × List Value) 1 (fun _ => True) (fun x => .tup [.v (.slice (some ⟨x.1, 0, none⟩) 64 (64 + x.2.length)), .k .i64 0]) (fun _ => [dsk 0 d]) 2 (fun x => [rowFact x.1 ((d.get i).map bv ++ x.2) 5])) := by
  refine Tri.share (tRead fx d hd h i hi).conv fun y h m f ⟨sp, _, e1, e2, e3, e4⟩ => ?_
  subst e1 e2 e3 e4
  refine ⟨1, _, 5, List.mem_cons_of_mem _ (List.mem_singleton.2 rfl), fun b => ⟨.tup [.v (.slice (some ⟨b, 0, none⟩) 64 (64 + sp.length)), .k .i64 0], fun ρ hr => ?_, (b, sp), trivial, ?_⟩⟩
  · subst hr; rfl
  · exact Ret.mk [0, 0] [dsk 0 d] (Fold.drop (fun e he => by obtain rfl := List.mem_singleton.1 he; exact List.mem_cons_self ..)) rfl (fun _ _ _ => rfl) ⟨OSub.ren rfl rfl, trivial⟩ (fun g hg => by simpa using hg)
theorem wrap_byte (x : Int) : ∃ w : UInt8, IntKind.u8.wrap x = (w.toNat : Int) := by
  have e : IntKind.u8.wrap x = x % 256 := by simp [IntKind.wrap, IntKind.signed, IntKind.bits]
  refine ⟨UInt8.ofNat (x % 256).toNat, ?_⟩
  rw [e, UInt8.toNat_ofNat']
  omega
theorem write_open {l : List Sec} {c : Int → Option Sec} {i : Int} {b : Sec} (hi : 0 ≤ i ∧ i < (l.length : Int)) (hb : b.length = 64) : DS.write ⟨l, c, -1, false⟩ i b = (0, ⟨l, fun j => if j = i then some b else c j, -1, false⟩) := by
  simp only [DS.write]
  rw [if_neg (by simp), if_neg (by omega), if_neg (by omega), if_neg (by omega)]
  simp [DS.burnt, DS.put]
theorem splice_set {α : Type} {l : List α} {o : Nat} {x : α} (h : o < l.length) : splice l o [x] = l.set o x := by
  rw [← splice_cons l o x [] h, splice_nil]
theorem fill_step {α : Type} {N j : Nat} (a b : α) (h : j < N) : splice (List.replicate j a ++ List.replicate (N - j) b) j [a] = List.replicate (j + 1) a ++ List.replicate (N - (j + 1)) b := by
  rw [splice_set (by simp; omega), List.set_append_right _ _ (by simp), List.length_replicate, Nat.sub_self, show N - j = (N - (j + 1)) + 1 by omega, List.replicate_succ, List.set_cons_zero, List.replicate_succ', List.append_assoc]
  rfl
theorem BoolsAt.row {fx : List Fact} {b : Nat} {bs : List Bool} {T : TypeId} (h : rowFact b (bs.map Value.bool) T ∈ fx) : BoolsAt fx (some ⟨b, 0, none⟩) bs := by
  refine ⟨fun e => (by cases e), fun ad e j y hj => ?_⟩
  obtain rfl := Option.some.inj e
  have := rowFact_FC h (j := j) (y := .bool y) (by rw [List.getElem?_map, hj]; rfl)
  rw [add_at, Nat.zero_add]
  exact this
theorem tCrashRow (fx : List Fact) (d : DS) (hd : d.Ok) (cap : Nat) (keep : List Bool) (torn at_ : Int) (hk : keep.length ≤ 1000000000) (ht : -9223372036854775808 ≤ at_ ∧ at_ < 9223372036854775808) :
    Tri Try.prog 28 [.p 0 0, .agg [.s 1 0 keep.length cap, .v (.int .i64 torn), .v (.int .i64 at_)]] [dsk 0 d, (1, .row (keep.map Value.bool) 4)] 2 fx (RetE (α := Unit) 2 (fun _ => True) (fun _ => .tup []) (fun _ => [dsk 0 (d.crash keep torn at_), (1, .row (keep.map Value.bool) 4)]) 2 (fun _ => [])) := by
  refine Tri.lend 1 (xs := keep.map Value.bool) (T := 4) (fun b1 => [.p 0 0, .agg [.v (.slice (some ⟨b1, 0, none⟩) keep.length cap), .v (.int .i64 torn), .v (.int .i64 at_)]]) (by simp) rowOf.row (fun _ => rfl) fun b1 => ?_
  refine Tri.use (tCrash (rowFact b1 (keep.map Value.bool) 4 :: fx) d hd (some ⟨b1, 0, none⟩) cap keep torn at_ (BoolsAt.row (List.mem_cons_self ..)) hk ht) [0] rfl (args_ren rfl rfl) ⟨OSub.ren rfl rfl, trivial⟩ (fun f hf => hf) fun u hu => ?_
  conv => whnf
  refine And.intro rfl ?_
  exact ⟨(), trivial, Ret.mk [0, 1] [dsk 0 _, (1, .row (keep.map Value.bool) 4)] (Fold.drop (by simp)) rfl (fun _ _ _ => rfl) ⟨OSub.ren rfl rfl, OSub.ren rfl rfl, trivial⟩ (fun _ h => nomatch h)⟩
theorem tSame30 (fx : List Fact) (A B : Option Addr) (ca cb : Nat) (a b : List UInt8) (hA : BytesAt fx A a) (hB : BytesAt fx B b) (hl : a.length < 9223372036854775808) :
    Tri Try.prog 30 [.v (.slice A a.length ca), .v (.slice B b.length cb)] [] 0 fx (RetE (α := Unit) 0 (fun _ => True) (fun _ => .v (.bool (decide (a = b)))) (fun _ => []) 0 (fun _ => [])) := by
  refine Tri.one ?_
  refine Tri.of_code tok Try.func30 rfl rfl rfl (by decide) rfl (Nat.le_of_ble_eq_true rfl) ?_
  conv => whnf
  repeat' ((first | refine w1 (h := ?_) | refine w2 ?_ ?_ | refine w3 (h := ?_) | refine w4 (h := ?_) | refine hD _ _ ?_ | refine hL _ _ ?_ | (intro h; (try simp only [n1, n2, n3, n4, n5, n6] at h); first | (exfalso; omega) | (cases h; done) | skip)) <;> (conv => whnf))
  refine Tri.use (tSame fx A B ca cb a b hA hB hl).one [] rfl (args_ren rfl rfl) trivial (fun f hf => by first | exact hf | cases hf | simp_all) (fun u hu => ?_)
  conv => whnf
  repeat' ((first | refine w1 (h := ?_) | refine w2 ?_ ?_ | refine w3 (h := ?_) | refine w4 (h := ?_) | refine hD _ _ ?_ | refine hL _ _ ?_ | (intro h; (try simp only [n1, n2, n3, n4, n5, n6] at h); first | (exfalso; omega) | (cases h; done) | skip)) <;> (conv => whnf))
  exact Ret.noneS rfl (fun _ _ => rfl) (fun _ h => nomatch h)
/-- The second row is the caller's own. -/
theorem tSame30Row (fx : List Fact) (A : Option Addr) (ca cb : Nat) (a b : List UInt8) (hA : BytesAt fx A a) (xs : List Value) (hB : xs.take b.length = b.map bv) (hl : a.length < 9223372036854775808) :
    Tri Try.prog 30 [.v (.slice A a.length ca), .s 0 0 b.length cb] [(0, .row xs 5)] 1 fx (RetE (α := Unit) 1 (fun _ => True) (fun _ => .v (.bool (decide (a = b)))) (fun _ => [(0, .row xs 5)]) 1 (fun _ => [])) := by
  refine Tri.lend 0 (xs := xs) (T := 5) (fun b1 => [.v (.slice A a.length ca), .v (.slice (some ⟨b1, 0, none⟩) b.length cb)]) (by simp) rowOf.row (fun _ => rfl) fun b1 => ?_
  refine Tri.use (tSame30 (rowFact b1 xs 5 :: fx) A (some ⟨b1, 0, none⟩) ca cb a b (hA.mono fun f hf => List.mem_cons_of_mem _ hf) (BytesAt.row (List.mem_cons_self ..) (by rw [List.drop_zero]; exact hB)) hl) [] rfl (args_ren rfl rfl) trivial (fun f hf => hf) fun u hu => ?_
  conv => whnf
  refine And.intro rfl ?_
  exact ⟨(), trivial, Ret.mk [0] [(0, .row xs 5)] (Fold.drop (by simp)) rfl (fun _ _ _ => rfl) ⟨OSub.ren rfl rfl, trivial⟩ (fun _ h => nomatch h)⟩
end Go.Proofs.Ytekgjjanikicnaa.Sx

namespace Go.Proofs.Ytekgjjanikicnaa.Sx
open Go
set_option maxRecDepth 100000
set_option linter.unusedSimpArgs false
set_option linter.unusedVariables false

theorem write_err (d : DS) (i : Int) (b : Sec) : 0 ≤ (d.write i b).1 ∧ (d.write i b).1 ≤ 6 := by
  unfold DS.write
  repeat' split
  all_goals simp
theorem tPut (fx : List Fact) (d : DS) (hd : d.Ok) (i : Int) (A : Option Addr) (cap : Nat) (b : List UInt8) (hB : BytesAt fx A b) :
    Tri Try.prog 72 [.p 0 0, .v (.int .i64 i), .v (.slice A b.length cap)] [dsk 0 d] 1 fx (RetE (α := Unit) 1 (fun _ => True) (fun _ => .v (.int .i64 (d.putS i b).1)) (fun _ => [dsk 0 (d.putS i b).2]) 1 (fun _ => [])) := by
  refine Tri.one ?_
  refine Tri.of_code tok Try.func72 rfl rfl rfl (by decide) rfl (Nat.le_of_ble_eq_true rfl) ?_
  conv => whnf
  repeat' ((first | refine w1 (h := ?_) | refine w2 ?_ ?_ | refine w3 (h := ?_) | refine w4 (h := ?_) | refine hD _ _ ?_ | refine hL _ _ ?_ | (intro h; (try simp only [n1, n2, n3, n4, n5, n6] at h); first | (exfalso; omega) | (cases h; done) | skip)) <;> (conv => whnf))
  refine Tri.use (tWrite fx d hd i A cap b hB) [0] rfl (args_ren rfl rfl) ⟨OSub.ren rfl rfl, trivial⟩ (fun f hf => by first | exact hf | cases hf | simp_all) (fun u hu => ?_)
  conv => whnf
  repeat' ((first | refine w1 (h := ?_) | refine w2 ?_ ?_ | refine w3 (h := ?_) | refine w4 (h := ?_) | refine hD _ _ ?_ | refine hL _ _ ?_ | (intro h; (try simp only [n1, n2, n3, n4, n5, n6] at h); first | (exfalso; omega) | (cases h; done) | skip)) <;> (conv => whnf))
  · have e : d.putS i b = d.write i b := by unfold DS.putS; rw [if_neg (by assumption)]
    rw [e]
    exact Ret.mk [0] [dsk 0 _] (Fold.drop (by simp)) rfl (fun _ _ _ => rfl) ⟨OSub.ren rfl rfl, trivial⟩ (fun _ h => nomatch h)
  · have e : d.putS i b = (d.write i b).2.sync := by unfold DS.putS; rw [if_pos (by omega)]
    rw [e]
    refine Tri.use (tSync fx (d.write i b).2 (hd.write i b)) [0] rfl (args_ren rfl rfl) ⟨OSub.ren rfl rfl, trivial⟩ (fun f hf => by first | exact hf | cases hf | simp_all) (fun u hu => ?_)
    conv => whnf
    repeat' ((first | refine w1 (h := ?_) | refine w2 ?_ ?_ | refine w3 (h := ?_) | refine w4 (h := ?_) | refine hD _ _ ?_ | refine hL _ _ ?_ | (intro h; (try simp only [n1, n2, n3, n4, n5, n6] at h); first | (exfalso; omega) | (cases h; done) | skip)) <;> (conv => whnf))
    exact Ret.mk [0] [dsk 0 _] (Fold.drop (by simp)) rfl (fun _ _ _ => rfl) ⟨OSub.ren rfl rfl, trivial⟩ (fun _ h => nomatch h)
/-- What is put is the caller's own row. -/
theorem tPutRow (fx : List Fact) (d : DS) (hd : d.Ok) (i : Int) (b : List UInt8) (xs : List Value) (cap : Nat) (hx : xs.take b.length = b.map bv) :
    Tri Try.prog 72 [.p 0 0, .v (.int .i64 i), .s 1 0 b.length cap] [dsk 0 d, (1, .row xs 5)] 2 fx (RetE (α := Unit) 2 (fun _ => True) (fun _ => .v (.int .i64 (d.putS i b).1)) (fun _ => [dsk 0 (d.putS i b).2, (1, .row xs 5)]) 2 (fun _ => [])) := by
  refine Tri.lend 1 (xs := xs) (T := 5) (fun b1 => [.p 0 0, .v (.int .i64 i), .v (.slice (some ⟨b1, 0, none⟩) b.length cap)]) (by simp) rowOf.row (fun _ => rfl) fun b1 => ?_
  refine Tri.use (tPut (rowFact b1 xs 5 :: fx) d hd i (some ⟨b1, 0, none⟩) cap b (BytesAt.row (List.mem_cons_self ..) (by rw [List.drop_zero]; exact hx))) [0] rfl (args_ren rfl rfl) ⟨OSub.ren rfl rfl, trivial⟩ (fun f hf => hf) fun u hu => ?_
  conv => whnf
  refine And.intro rfl ?_
  exact ⟨(), trivial, Ret.mk [0, 1] [dsk 0 _, (1, .row xs 5)] (Fold.drop (by simp)) rfl (fun _ _ _ => rfl) ⟨OSub.ren rfl rfl, OSub.ren rfl rfl, trivial⟩ (fun _ h => nomatch h)⟩
theorem tEqual (fx : List Fact) (A B : Option Addr) (ca cb : Nat) (a b : List UInt8) (hA : BytesAt fx A a) (hB : BytesAt fx B b) (hl : a.length < 9223372036854775808) :
    Tri Try.prog 75 [.v (.slice A a.length ca), .v (.slice B b.length cb)] [] 0 fx (RetE (α := Unit) 0 (fun _ => True) (fun _ => .v (.bool (decide (a = b)))) (fun _ => []) 0 (fun _ => [])) := by
  refine Tri.one ?_
  refine Tri.of_code tok Try.func75 rfl rfl rfl (by decide) rfl (Nat.le_of_ble_eq_true rfl) ?_
  conv => whnf
  repeat' ((first | refine w1 (h := ?_) | refine w2 ?_ ?_ | refine w3 (h := ?_) | refine w4 (h := ?_) | refine hD _ _ ?_ | refine hL _ _ ?_ | (intro h; (try simp only [n1, n2, n3, n4, n5, n6] at h); first | (exfalso; omega) | (cases h; done) | skip)) <;> (conv => whnf))
  · refine Ret.none rfl (fun ρ => ?_) (fun _ h => nomatch h)
    have hne : a ≠ b := fun e => by subst e; exact h rfl
    simp [den, hne]
  have hlen : a.length = b.length := by omega
  refine loop_by tok (α := Nat) (fun i => ⟨[(0, .v (.slice A a.length ca)), (1, .v (.slice B b.length cb)), (12, .v (.int .i64 a.length)), (13, .v (.int .i64 i))], [], 0, fx⟩) (fun i => i ≤ a.length ∧ a.take i = b.take i) (fun i => a.length - i) 0 [] (by simp) ⟨rfl, ⟨(fun _ _ _ => rfl), (fun _ _ _ => rfl), (fun _ _ _ => rfl), (fun _ _ _ => rfl), trivial⟩, trivial, fun f hf => hf⟩ ?_
  rintro i ⟨hi, he⟩
  conv => whnf
  repeat' ((first | refine w1 (h := ?_) | refine w2 ?_ ?_ | refine w3 (h := ?_) | refine w4 (h := ?_) | refine hD _ _ ?_ | refine hL _ _ ?_ | (intro h; (try simp only [n1, n2, n3, n4, n5, n6] at h); first | (exfalso; omega) | (cases h; done) | skip)) <;> (conv => whnf))
  · refine draw_rule tok (by kernel_rfl) [.any 0, .any 1, .any 2, .any 4, .any 5, .any 6, .load 3, .load 7, .any 8] [] [] (by kernel_rfl) rfl rfl trivial ?_
    have hi1 : i < a.length := by omega
    have hi2 : i < b.length := by omega
    obtain ⟨ad, rfl, h1⟩ := hA.get hi1
    obtain ⟨bd, rfl, h2⟩ := hB.get hi2
    conv => whnf
    repeat' ((first | refine w1 (h := ?_) | refine w2 ?_ ?_ | refine w3 (h := ?_) | refine w4 (h := ?_) | refine hD _ _ ?_ | refine hL _ _ ?_ | (intro h; (try simp only [n1, n2, n3, n4, n5, n6] at h); first | (exfalso; omega) | (cases h; done) | skip)) <;> (conv => whnf))
    · refine Ret.none rfl (fun ρ => ?_) (fun _ h => nomatch h)
      have hne : a ≠ b := fun e => by
        subst e
        exact h rfl
      simp [den, hne]
    · refine ⟨i + 1, [], ⟨⟨by omega, ?_⟩, by omega⟩, rfl, ⟨(fun _ _ _ => rfl), (fun _ _ _ => rfl), (fun _ _ _ => rfl), (fun _ _ _ => rfl), trivial⟩, trivial, fun f hf => hf⟩
      have hab : a[i] = b[i] := UInt8.toNat_inj.1 (by omega)
      rw [take_succ_of (List.getElem?_eq_getElem hi1), take_succ_of (List.getElem?_eq_getElem hi2), he, hab]
  · refine Ret.none rfl (fun ρ => ?_) (fun _ h => nomatch h)
    obtain rfl : i = a.length := by omega
    have hab : a = b := by
      rw [List.take_length, hlen, List.take_length] at he
      exact he
    simp [den, hab]
end Go.Proofs.Ytekgjjanikicnaa.Sx
