/- The disk, plainly: what its calls make of it. -/
import Derived.Test.YtekgjjanikicnaaSxN
namespace Go.Proofs.Ytekgjjanikicnaa.Sx
open Go
set_option linter.unusedSimpArgs false
set_option linter.unusedVariables false

abbrev Sec := List UInt8
/-- A disk: what lasts, what was written since, the fuse, and is the power gone. -/
structure DS where
  l : List Sec
  c : Int → Option Sec
  fuse : Int
  down : Bool
def zsec : Sec := List.replicate 64 0
structure DS.Ok (d : DS) : Prop where
  sec : ∀ s ∈ d.l, s.length = 64
  cac : ∀ i s, d.c i = some s → (0 ≤ i ∧ i < (d.l.length : Int)) ∧ s.length = 64
  len : d.l.length ≤ 4096
  fus : -1 ≤ d.fuse ∧ d.fuse < 9223372036854775808
def DS.new (n : Nat) : DS := ⟨List.replicate n zsec, fun _ => none, -1, false⟩
theorem DS.new_ok {n : Nat} (h : n ≤ 4096) : (DS.new n).Ok :=
  ⟨fun s hs => by rw [List.eq_of_mem_replicate hs]; rfl, fun i s h => (by cases h), by simpa [DS.new] using h, by simp [DS.new]⟩
def DS.get (d : DS) (i : Nat) : Sec := (d.c i).getD (d.l.getD i [])
theorem DS.Ok.get_length {d : DS} (h : d.Ok) {i : Nat} (hi : i < d.l.length) : (d.get i).length = 64 := by
  unfold DS.get
  cases hc : d.c i with
  | some s => exact (h.cac _ _ hc).2
  | none =>
    simp only [Option.getD_none, List.getD_eq_getElem?_getD, List.getElem?_eq_getElem hi, Option.getD_some]
    exact h.sec _ (List.getElem_mem _)
/-- The fuse burns; is it out? -/
def DS.out (d : DS) : Bool := decide (d.fuse = 0)
def DS.burnt (d : DS) : DS := if d.fuse = 0 then { d with down := true } else if 0 < d.fuse then { d with fuse := d.fuse - 1 } else d
def DS.put (d : DS) (i : Int) (b : Sec) : DS := { d with c := fun j => if j = i then some b else d.c j }
def DS.write (d : DS) (i : Int) (b : Sec) : Int × DS :=
  if d.down = true then (6, d)
  else if ¬ (0 ≤ i ∧ i < (d.l.length : Int)) then (3, d)
  else if b.length ≠ 64 then (1, d)
  else if d.fuse = 0 then (6, d.burnt)
  else (0, d.burnt.put i b)
/-- What lasts, with what was written laid upon it. -/
def laid (l : List Sec) (c : Int → Option Sec) : List Sec := l.mapIdx fun i s => (c (i : Int)).getD s
def DS.sync (d : DS) : Int × DS :=
  if d.down = true then (6, d)
  else if d.fuse = 0 then (6, d.burnt)
  else (0, { d.burnt with l := laid d.l d.c, c := fun _ => none })
def DS.setFuse (d : DS) (n : Int) : DS := { d with fuse := max n (-1) }
/-- What a crash leaves of a sector that was written, the k-th of those. -/
def left (k : Nat) (keep : List Bool) (torn at_ : Int) (s t : Sec) : Sec :=
  if (k : Int) = torn then (if 0 ≤ at_ then t.take (at_ % 65).toNat ++ s.drop (at_ % 65).toNat else s)
  else if keep[k]? = some true then t else s
def crashGo (c : Int → Option Sec) (keep : List Bool) (torn at_ : Int) : List Sec → Nat → Nat → List Sec
  | [], _, _ => []
  | s :: r, i, k => match c (i : Int) with
    | none => s :: crashGo c keep torn at_ r (i + 1) k
    | some t => left k keep torn at_ s t :: crashGo c keep torn at_ r (i + 1) (k + 1)
def DS.crash (d : DS) (keep : List Bool) (torn at_ : Int) : DS := ⟨crashGo d.c keep torn at_ d.l 0 0, fun _ => none, -1, false⟩
theorem laid_length (l : List Sec) (c : Int → Option Sec) : (laid l c).length = l.length := by simp [laid]
theorem laid_get {l : List Sec} {c : Int → Option Sec} {i : Nat} : (laid l c)[i]? = l[i]?.map fun s => (c (i : Int)).getD s := by simp [laid, List.getElem?_mapIdx]
theorem DS.burnt_l (d : DS) : d.burnt.l = d.l := by unfold DS.burnt; split; rfl; split <;> rfl
theorem DS.burnt_c (d : DS) : d.burnt.c = d.c := by unfold DS.burnt; split; rfl; split <;> rfl
theorem DS.Ok.burnt {d : DS} (h : d.Ok) : d.burnt.Ok := by
  refine ⟨by rw [d.burnt_l]; exact h.sec, by rw [d.burnt_l, d.burnt_c]; exact h.cac, by rw [d.burnt_l]; exact h.len, ?_⟩
  have := h.fus
  unfold DS.burnt
  split
  · exact this
  · split
    · simp only; omega
    · exact this
theorem DS.Ok.put {d : DS} (h : d.Ok) {i : Int} {b : Sec} (hi : 0 ≤ i ∧ i < (d.l.length : Int)) (hb : b.length = 64) : (d.put i b).Ok := by
  refine ⟨h.sec, fun j s hj => ?_, h.len, h.fus⟩
  simp only [DS.put] at hj
  split at hj
  · rename_i e; cases hj; subst e; exact ⟨hi, hb⟩
  · exact h.cac j s hj
theorem DS.Ok.write {d : DS} (h : d.Ok) (i : Int) (b : Sec) : (d.write i b).2.Ok := by
  unfold DS.write
  repeat' split
  · exact h
  · exact h
  · exact h
  · exact h.burnt
  · rename_i h1 h2 h3 h4
    exact h.burnt.put (by rw [d.burnt_l]; omega) (by omega)
theorem laid_sec {l : List Sec} {c : Int → Option Sec} (h1 : ∀ s ∈ l, s.length = 64) (h2 : ∀ i s, c i = some s → s.length = 64) : ∀ s ∈ laid l c, s.length = 64 := by
  intro s hs
  obtain ⟨i, hi⟩ := List.getElem?_of_mem hs
  rw [laid_get] at hi
  cases hl : l[i]? with
  | none => rw [hl] at hi; cases hi
  | some t =>
    rw [hl] at hi
    simp only [Option.map_some, Option.some.injEq] at hi
    subst hi
    cases hc : c (i : Int) with
    | none => exact h1 _ (List.mem_of_getElem? hl)
    | some u => exact h2 _ _ hc
theorem DS.Ok.sync {d : DS} (h : d.Ok) : d.sync.2.Ok := by
  unfold DS.sync
  repeat' split
  · exact h
  · exact h.burnt
  · exact ⟨laid_sec h.sec fun i s hc => (h.cac i s hc).2, fun i s hc => (by cases hc), by simpa [laid_length] using h.len, h.burnt.fus⟩
theorem DS.Ok.setFuse {d : DS} (h : d.Ok) {n : Int} (hn : n < 9223372036854775808) : (d.setFuse n).Ok := ⟨h.sec, h.cac, h.len, by simp only [DS.setFuse]; omega⟩
theorem left_length {k : Nat} {keep : List Bool} {torn at_ : Int} {s t : Sec} (hs : s.length = 64) (ht : t.length = 64) : (left k keep torn at_ s t).length = 64 := by
  unfold left
  repeat' split
  · rw [List.length_append, List.length_take, List.length_drop, hs, ht]; omega
  · exact hs
  · exact ht
  · exact hs
theorem crashGo_length (c : Int → Option Sec) (keep : List Bool) (torn at_ : Int) : ∀ (l : List Sec) (i k : Nat), (crashGo c keep torn at_ l i k).length = l.length
  | [], i, k => rfl
  | s :: r, i, k => by
    unfold crashGo
    split <;> simp [crashGo_length c keep torn at_ r]
theorem crashGo_sec {c : Int → Option Sec} {keep : List Bool} {torn at_ : Int} (h2 : ∀ i s, c i = some s → s.length = 64) : ∀ (l : List Sec) (i k : Nat), (∀ s ∈ l, s.length = 64) → ∀ s ∈ crashGo c keep torn at_ l i k, s.length = 64
  | [], i, k, h1, s, hs => by cases hs
  | x :: r, i, k, h1, s, hs => by
    have hx := h1 x (List.mem_cons_self ..)
    have hr : ∀ s ∈ r, s.length = 64 := fun s hs => h1 s (List.mem_cons_of_mem _ hs)
    unfold crashGo at hs
    split at hs
    · rcases List.mem_cons.1 hs with rfl | hs
      · exact hx
      · exact crashGo_sec h2 r _ _ hr s hs
    · rename_i t hc
      rcases List.mem_cons.1 hs with rfl | hs
      · exact left_length hx (h2 _ _ hc)
      · exact crashGo_sec h2 r _ _ hr s hs
theorem DS.Ok.crash {d : DS} (h : d.Ok) (keep : List Bool) (torn at_ : Int) : (d.crash keep torn at_).Ok :=
  ⟨crashGo_sec (fun i s hc => (h.cac i s hc).2) _ _ _ h.sec, fun i s hc => (by cases hc), by simpa [DS.crash, crashGo_length] using h.len, by simp [DS.crash]⟩
/-- All is kept: all lasts. -/
theorem crash_all {c : Int → Option Sec} {m : Nat} {at_ : Int} : ∀ (l : List Sec) (i k : Nat), k ≤ i → i + l.length ≤ m → crashGo c (List.replicate m true) (-1) at_ l i k = l.mapIdx fun j s => (c ((i + j : Nat) : Int)).getD s
  | [], i, k, hk, hm => rfl
  | s :: r, i, k, hk, hm => by
    simp only [List.length_cons] at hm
    rw [List.mapIdx_cons]
    unfold crashGo
    have e : (fun (j : Nat) (s : Sec) => (c ((i + (j + 1) : Nat) : Int)).getD s) = fun j s => (c ((i + 1 + j : Nat) : Int)).getD s := by
      funext j s; rw [show i + (j + 1) = i + 1 + j by omega]
    split
    · rename_i hc
      rw [crash_all r (i + 1) k (by omega) (by omega)]
      simp only [Nat.add_zero, hc, Option.getD_none, e]
    · rename_i t hc
      rw [crash_all r (i + 1) (k + 1) (by omega) (by omega)]
      have hl : left k (List.replicate m true) (-1) at_ s t = t := by
        unfold left
        rw [if_neg (show ¬ (k : Int) = -1 by omega), if_pos (show (List.replicate m true)[k]? = some true by rw [List.getElem?_replicate, if_pos (by omega)])]
      simp only [Nat.add_zero, hc, Option.getD_some, hl, e]
theorem crash_all0 {c : Int → Option Sec} {m : Nat} {at_ : Int} (l : List Sec) (h : l.length ≤ m) : crashGo c (List.replicate m true) (-1) at_ l 0 0 = laid l c := by
  rw [crash_all l 0 0 (Nat.le_refl _) (by omega)]
  simp [laid]
/-- Nothing is kept. -/
theorem crash_none {c : Int → Option Sec} {at_ : Int} : ∀ (l : List Sec) (i k : Nat), crashGo c [] (-1) at_ l i k = l
  | [], i, k => rfl
  | s :: r, i, k => by
    unfold crashGo
    split
    · rw [crash_none r]
    · rw [crash_none r]
      have : left k [] (-1) at_ s ‹_› = s := by
        unfold left
        rw [if_neg (show ¬ (k : Int) = -1 by omega), if_neg (by simp)]
      rw [this]
/-- The cells of the sectors, one behind the other. -/
def flat (l : List Sec) : List Value := l.flatMap fun s => s.map bv
theorem flat_length {l : List Sec} (h : ∀ s ∈ l, s.length = 64) : (flat l).length = 64 * l.length := by
  unfold flat
  induction l with
  | nil => rfl
  | cons s r ih =>
    rw [List.flatMap_cons, List.length_append, ih fun s hs => h s (List.mem_cons_of_mem _ hs), List.length_map, h s (List.mem_cons_self ..), List.length_cons]
    omega
theorem flat_get : ∀ {l : List Sec} {i : Nat} {s : Sec}, (∀ s ∈ l, s.length = 64) → l[i]? = some s → ((flat l).drop (i * 64)).take 64 = s.map bv
  | x :: r, 0, s, h, hi => by
    simp only [List.getElem?_cons_zero, Option.some.injEq] at hi
    subst hi
    simp only [flat, List.flatMap_cons, Nat.zero_mul, List.drop_zero]
    rw [List.take_left' (by rw [List.length_map, h x (List.mem_cons_self ..)])]
  | x :: r, i + 1, s, h, hi => by
    have hx : (x.map bv).length = 64 := by rw [List.length_map, h x (List.mem_cons_self ..)]
    have ih := flat_get (l := r) (i := i) (fun s hs => h s (List.mem_cons_of_mem _ hs)) (by simpa using hi)
    simp only [flat, List.flatMap_cons] at ih ⊢
    rw [show (i + 1) * 64 = 64 + i * 64 by omega, ← List.drop_drop, List.drop_left' hx]
    exact ih
theorem flat_set : ∀ {l : List Sec} {i : Nat} (t : Sec), (∀ s ∈ l, s.length = 64) → i < l.length → t.length = 64 → splice (flat l) (i * 64) (t.map bv) = flat (l.set i t)
  | x :: r, 0, t, h, hi, ht => by
    have hx : (x.map bv).length = 64 := by rw [List.length_map, h x (List.mem_cons_self ..)]
    simp only [splice, flat, List.flatMap_cons, Nat.zero_mul, List.take_zero, List.nil_append, List.length_map, ht, Nat.zero_add, List.set_cons_zero]
    rw [List.drop_left' hx]
  | x :: r, i + 1, t, h, hi, ht => by
    have hx : (x.map bv).length = 64 := by rw [List.length_map, h x (List.mem_cons_self ..)]
    have ih := flat_set (l := r) (i := i) t (fun s hs => h s (List.mem_cons_of_mem _ hs)) (by simpa using hi) ht
    simp only [splice, flat, List.flatMap_cons, List.set_cons_succ] at ih ⊢
    rw [← ih, show (i + 1) * 64 = 64 + i * 64 by omega, List.take_append, List.take_of_length_le (by omega), hx, show 64 + i * 64 + (t.map bv).length = 64 + (i * 64 + (t.map bv).length) by omega, ← List.drop_drop, List.drop_left' hx]
    simp [List.append_assoc]
def secV (s : Sec) : Value := .agg ⟨s.map bv⟩
theorem bv_one (b : UInt8) : (bv b).oneCell' = true := rfl
theorem secV_ok {s : Sec} (h : s.length = 64) : aggOk ⟨s.map bv⟩ 64 := by
  refine ⟨by simpa using h, fun u hu => ?_⟩
  simp only [List.mem_map] at hu
  obtain ⟨b, _, rfl⟩ := hu
  rfl
end Go.Proofs.Ytekgjjanikicnaa.Sx
