/- The mark, plainly: it is old or new, wherever the power goes. -/
import Derived.Test.YtekgjjanikicnaaMk1
namespace Go.Proofs.Ytekgjjanikicnaa.Sx
open Go
set_option linter.unusedSimpArgs false
set_option linter.unusedVariables false

/-- Three sectors, as they last, and as they were written since. -/
structure At3 (d : DS) (p : Nat) (x y z : Sec) (cx cy cz : Option Sec) : Prop where
  x : d.l[p]? = some x
  y : d.l[p + 1]? = some y
  z : d.l[p + 2]? = some z
  cx : d.c (p : Int) = cx
  cy : d.c ((p + 1 : Nat) : Int) = cy
  cz : d.c ((p + 2 : Nat) : Int) = cz
theorem burnt_neg {d : DS} (h : d.fuse < 0) : d.burnt = d := by unfold DS.burnt; rw [if_neg (by omega), if_neg (by omega)]
theorem burnt_pos {d : DS} (h : 0 < d.fuse) : d.burnt = { d with fuse := d.fuse - 1 } := by unfold DS.burnt; rw [if_neg (by omega), if_pos h]
theorem putS_cases {d : DS} {i : Nat} {b : Sec} (hd : d.down = false) (hi : i < d.l.length) (hb : b.length = 64) :
    (∃ f, d.putS i b = (6, { d with down := true, fuse := f }) ∧ d.fuse = 0) ∨ (∃ f, d.putS i b = (6, { d.put i b with down := true, fuse := f }) ∧ d.fuse = 1) ∨
      (∃ f, d.putS i b = (0, { d with l := laid d.l (d.put i b).c, c := fun _ => none, fuse := f }) ∧ (d.fuse < 0 → f = d.fuse) ∧ (2 ≤ d.fuse → f = d.fuse - 2) ∧ (d.fuse < 0 ∨ 2 ≤ d.fuse)) := by
  have hin : ¬ ¬ (0 ≤ (i : Int) ∧ (i : Int) < (d.l.length : Int)) := fun h => h ⟨by omega, by omega⟩
  by_cases h0 : d.fuse = 0
  · left
    refine ⟨d.fuse, ?_, h0⟩
    have e : d.write i b = (6, d.burnt) := by unfold DS.write; rw [if_neg (by simp [hd]), if_neg hin, if_neg (by omega), if_pos h0]
    unfold DS.putS
    rw [e, if_neg (show ¬ ((6, d.burnt) : Int × DS).1 = 0 by simp)]
    simp [DS.burnt, h0]
  · have e : d.write i b = (0, d.burnt.put i b) := by unfold DS.write; rw [if_neg (by simp [hd]), if_neg hin, if_neg (by omega), if_neg h0]
    have ep : d.putS i b = (d.burnt.put i b).sync := by unfold DS.putS; rw [e, if_pos rfl]
    by_cases h1 : d.fuse = 1
    · right; left
      refine ⟨0, ?_, h1⟩
      rw [ep]
      have eb : d.burnt = { d with fuse := 0 } := by unfold DS.burnt; rw [if_neg h0, if_pos (by omega), h1]; rfl
      rw [eb]
      unfold DS.sync
      simp [DS.put, hd, DS.burnt]
    · right; right
      by_cases hn : d.fuse < 0
      · refine ⟨d.fuse, ?_, fun _ => rfl, fun h => by omega, .inl hn⟩
        rw [ep]
        have eb : d.burnt = d := by unfold DS.burnt; rw [if_neg h0, if_neg (by omega)]
        rw [eb]
        unfold DS.sync
        have eb2 : (d.put i b).burnt = d.put i b := burnt_neg (d := d.put i b) hn
        rw [eb2]
        simp [DS.put, hd, h0]
      · refine ⟨d.fuse - 2, ?_, fun h => by omega, fun _ => rfl, .inr (by omega)⟩
        rw [ep]
        have eb : d.burnt = { d with fuse := d.fuse - 1 } := by unfold DS.burnt; rw [if_neg h0, if_pos (by omega)]
        rw [eb]
        have eb2 : ({ d with fuse := d.fuse - 1 }.put i b : DS).burnt = { d.put i b with fuse := d.fuse - 2 } := by
          refine (burnt_pos (d := { d with fuse := d.fuse - 1 }.put i b) (show 0 < d.fuse - 1 by omega)).trans ?_
          simp only [DS.put, DS.mk.injEq, true_and, and_true]
          omega
        unfold DS.sync
        rw [eb2]
        simp only [DS.put, hd]
        rw [if_neg (by simp), if_neg (by omega)]
/-- A put that went well, or was lost within. -/
theorem At3.put {d : DS} {p : Nat} {x y z : Sec} {cx cy cz : Option Sec} (h : At3 d p x y z cx cy cz) (hd : d.down = false) {b : Sec} (hb : b.length = 64) {k : Nat} (hk : k < 3) :
    ((d.putS ((p + k : Nat) : Int) b).1 ≠ 0 ∧ (At3 (d.putS ((p + k : Nat) : Int) b).2 p x y z cx cy cz ∨
        At3 (d.putS ((p + k : Nat) : Int) b).2 p x y z (if k = 0 then some b else cx) (if k = 1 then some b else cy) (if k = 2 then some b else cz)) ∧ (d.putS ((p + k : Nat) : Int) b).2.down = true) ∨
      ((d.putS ((p + k : Nat) : Int) b).1 = 0 ∧ At3 (d.putS ((p + k : Nat) : Int) b).2 p (if k = 0 then b else cx.getD x) (if k = 1 then b else cy.getD y) (if k = 2 then b else cz.getD z) none none none ∧ (d.putS ((p + k : Nat) : Int) b).2.down = false ∧
        ((d.fuse < 0 ∧ (d.putS ((p + k : Nat) : Int) b).2.fuse = d.fuse) ∨ (2 ≤ d.fuse ∧ (d.putS ((p + k : Nat) : Int) b).2.fuse = d.fuse - 2))) := by
  have hl : p + 2 < d.l.length := (List.getElem?_eq_some_iff.1 h.z).1
  rcases putS_cases hd (i := p + k) (by omega) hb with ⟨f, e, _⟩ | ⟨f, e, _⟩ | ⟨f, e, f1, f2, f3⟩
  · left
    rw [e]
    exact ⟨by simp, .inl ⟨h.x, h.y, h.z, h.cx, h.cy, h.cz⟩, rfl⟩
  · left
    rw [e]
    refine ⟨by simp, .inr ⟨h.x, h.y, h.z, ?_, ?_, ?_⟩, rfl⟩
    · simp only [DS.put]
      have : ((p : Int) = ((p + k : Nat) : Int)) ↔ k = 0 := by omega
      simp only [this, h.cx]
    · simp only [DS.put]
      have : (((p + 1 : Nat) : Int) = ((p + k : Nat) : Int)) ↔ k = 1 := by omega
      simp only [this, h.cy]
    · simp only [DS.put]
      have : (((p + 2 : Nat) : Int) = ((p + k : Nat) : Int)) ↔ k = 2 := by omega
      simp only [this, h.cz]
  · right
    rw [e]
    refine ⟨rfl, ⟨?_, ?_, ?_, rfl, rfl, rfl⟩, hd, f3.imp (fun h => ⟨h, f1 h⟩) (fun h => ⟨h, f2 h⟩)⟩
    · simp only [laid_get, h.x, DS.put, Option.map_some]
      have : ((p : Int) = ((p + k : Nat) : Int)) ↔ k = 0 := by omega
      simp only [this, h.cx]
      split <;> simp
    · simp only [laid_get, h.y, DS.put, Option.map_some]
      have : (((p + 1 : Nat) : Int) = ((p + k : Nat) : Int)) ↔ k = 1 := by omega
      simp only [this, h.cy]
      split <;> simp
    · simp only [laid_get, h.z, DS.put, Option.map_some]
      have : (((p + 2 : Nat) : Int) = ((p + k : Nat) : Int)) ↔ k = 2 := by omega
      simp only [this, h.cz]
      split <;> simp
/-- Of an old value and a new one: which of the three sectors is on its way. -/
def Mid (o n : Sec) (p : Nat) (d : DS) : Prop :=
  (∃ x cx, At3 d p x o o cx none none) ∨ (∃ y cy, At3 d p n y o none cy none) ∨ ∃ z cz, At3 d p n n z none none cz
theorem crashGo_at {c : Int → Option Sec} {keep : List Bool} {torn at_ : Int} : ∀ (l : List Sec) (i k j : Nat) (s : Sec), l[j]? = some s → ∃ t, (crashGo c keep torn at_ l i k)[j]? = some t ∧ (c ((i + j : Nat) : Int) = none → t = s)
  | x :: r, i, k, 0, s, h => by
    simp only [List.getElem?_cons_zero, Option.some.injEq] at h
    subst h
    unfold crashGo
    split
    · exact ⟨x, rfl, fun _ => rfl⟩
    · rename_i t hc
      exact ⟨_, rfl, fun h => by rw [Nat.add_zero, hc] at h; cases h⟩
  | x :: r, i, k, j + 1, s, h => by
    have h' : r[j]? = some s := by simpa using h
    unfold crashGo
    split
    · obtain ⟨t, h1, h2⟩ := crashGo_at r (i + 1) k j s h'
      exact ⟨t, by simpa using h1, fun hc => h2 (by rw [show i + 1 + j = i + (j + 1) by omega]; exact hc)⟩
    · obtain ⟨t, h1, h2⟩ := crashGo_at r (i + 1) (k + 1) j s h'
      exact ⟨t, by simpa using h1, fun hc => h2 (by rw [show i + 1 + j = i + (j + 1) by omega]; exact hc)⟩
theorem At3.crash {d : DS} {p : Nat} {x y z : Sec} {cx cy cz : Option Sec} (h : At3 d p x y z cx cy cz) (keep : List Bool) (torn at_ : Int) :
    ∃ x' y' z', At3 (d.crash keep torn at_) p x' y' z' none none none ∧ (cx = none → x' = x) ∧ (cy = none → y' = y) ∧ (cz = none → z' = z) := by
  obtain ⟨x', h1, h2⟩ := crashGo_at (c := d.c) (keep := keep) (torn := torn) (at_ := at_) d.l 0 0 p x h.x
  obtain ⟨y', h3, h4⟩ := crashGo_at (c := d.c) (keep := keep) (torn := torn) (at_ := at_) d.l 0 0 (p + 1) y h.y
  obtain ⟨z', h5, h6⟩ := crashGo_at (c := d.c) (keep := keep) (torn := torn) (at_ := at_) d.l 0 0 (p + 2) z h.z
  simp only [Nat.zero_add] at h2 h4 h6
  exact ⟨x', y', z', ⟨h1, h3, h5, rfl, rfl, rfl⟩, fun e => h2 (by rw [h.cx, e]), fun e => h4 (by rw [h.cy, e]), fun e => h6 (by rw [h.cz, e])⟩
theorem Mid.crash {o n : Sec} {p : Nat} {d : DS} (h : Mid o n p d) (keep : List Bool) (torn at_ : Int) :
    (∃ x, At3 (d.crash keep torn at_) p x o o none none none) ∨ (∃ y, At3 (d.crash keep torn at_) p n y o none none none) ∨ ∃ z, At3 (d.crash keep torn at_) p n n z none none none := by
  rcases h with ⟨x, cx, h⟩ | ⟨y, cy, h⟩ | ⟨z, cz, h⟩
  · obtain ⟨x', y', z', h1, h2, h3, h4⟩ := h.crash keep torn at_
    rw [h3 rfl, h4 rfl] at h1
    exact .inl ⟨x', h1⟩
  · obtain ⟨x', y', z', h1, h2, h3, h4⟩ := h.crash keep torn at_
    rw [h2 rfl, h4 rfl] at h1
    exact .inr (.inl ⟨y', h1⟩)
  · obtain ⟨x', y', z', h1, h2, h3, h4⟩ := h.crash keep torn at_
    rw [h2 rfl, h3 rfl] at h1
    exact .inr (.inr ⟨z', h1⟩)
theorem At3.val {d : DS} {p : Nat} {x y z : Sec} {cx cy cz : Option Sec} (h : At3 d p x y z cx cy cz) : d.val (p : Int) = val3 (cx.getD x) (cy.getD y) (cz.getD z) := by
  unfold DS.val DS.get
  rw [show ((p : Int) + 1).toNat = p + 1 by omega, show ((p : Int) + 2).toNat = p + 2 by omega, Int.toNat_natCast, h.cx, h.cy, h.cz]
  simp only [List.getD_eq_getElem?_getD, h.x, h.y, h.z, Option.getD_some]
theorem save_cases {d : DS} {p : Nat} {o n : Sec} (h : At3 d p o o o none none none) (hd : d.down = false) (hn : n.length = 64) :
    ((d.putN (p : Int) n 3).1 ≠ 0 ∧ Mid o n p (d.putN (p : Int) n 3).2) ∨
      ((d.putN (p : Int) n 3).1 = 0 ∧ At3 (d.putN (p : Int) n 3).2 p n n n none none none ∧ (d.putN (p : Int) n 3).2.down = false ∧ (d.fuse < 0 ∧ (d.putN (p : Int) n 3).2.fuse = d.fuse ∨ 6 ≤ d.fuse)) := by
  have r1 := h.put hd hn (k := 0) (by omega)
  simp only [Nat.add_zero, if_true, Option.getD_none, show ¬ (0 = 1) by omega, show ¬ (0 = 2) by omega, if_false] at r1
  rcases r1 with ⟨e1, hm, _⟩ | ⟨e1, h1, d1, f1⟩
  · left
    have e : d.putN (p : Int) n 3 = d.putS p n := by unfold DS.putN; rw [if_neg e1]
    rw [e]
    refine ⟨e1, .inl ?_⟩
    rcases hm with hm | hm
    · exact ⟨_, _, hm⟩
    · exact ⟨_, _, hm⟩
  have e : d.putN (p : Int) n 3 = (d.putS p n).2.putN ((p : Int) + 1) n 2 := by
    conv => lhs; unfold DS.putN
    rw [if_pos e1]
  generalize (d.putS p n).2 = D1 at *
  have r2 := h1.put d1 hn (k := 1) (by omega)
  simp only [if_true, Option.getD_none, show ¬ (1 = 0) by omega, show ¬ (1 = 2) by omega, if_false] at r2
  have c1 : ((p + 1 : Nat) : Int) = (p : Int) + 1 := by omega
  rw [c1] at r2
  rcases r2 with ⟨e2, hm, _⟩ | ⟨e2, h2, d2, f2⟩
  · left
    have e' : D1.putN ((p : Int) + 1) n 2 = D1.putS ((p : Int) + 1) n := by unfold DS.putN; rw [if_neg e2]
    rw [e, e']
    refine ⟨e2, .inr (.inl ?_)⟩
    rcases hm with hm | hm
    · exact ⟨_, _, hm⟩
    · exact ⟨_, _, hm⟩
  have e' : D1.putN ((p : Int) + 1) n 2 = (D1.putS ((p : Int) + 1) n).2.putN ((p : Int) + 1 + 1) n 1 := by
    conv => lhs; unfold DS.putN
    rw [if_pos e2]
  generalize (D1.putS ((p : Int) + 1) n).2 = D2 at *
  have r3 := h2.put d2 hn (k := 2) (by omega)
  simp only [if_true, Option.getD_none, show ¬ (2 = 0) by omega, show ¬ (2 = 1) by omega, if_false] at r3
  have c2 : ((p + 2 : Nat) : Int) = (p : Int) + 1 + 1 := by omega
  rw [c2] at r3
  rcases r3 with ⟨e3, hm, _⟩ | ⟨e3, h3, d3, f3⟩
  · left
    have e'' : D2.putN ((p : Int) + 1 + 1) n 1 = D2.putS ((p : Int) + 1 + 1) n := by unfold DS.putN; rw [if_neg e3]
    rw [e, e', e'']
    refine ⟨e3, .inr (.inr ?_)⟩
    rcases hm with hm | hm
    · exact ⟨_, _, hm⟩
    · exact ⟨_, _, hm⟩
  · right
    have e'' : D2.putN ((p : Int) + 1 + 1) n 1 = (0, (D2.putS ((p : Int) + 1 + 1) n).2) := by
      unfold DS.putN
      rw [if_pos e3]
      rfl
    rw [e, e', e'']
    refine ⟨rfl, h3, d3, ?_⟩
    simp only
    omega
/-- One sector is mended, if it isn't as it should be. -/
theorem fix_step {d : DS} {i : Int} {v x : Sec} {r : List Sec} : d.fix i v (x :: r) = if x = v then d.fix (i + 1) v r else if (d.putS i v).1 = 0 then (d.putS i v).2.fix (i + 1) v r else d.putS i v := rfl
theorem lerr_ok {d : DS} {p : Nat} (hd : d.down = false) (hp : p + 2 < d.l.length) : d.lerr (p : Int) = 0 := by
  have r : ∀ k : Int, 0 ≤ k → k < d.l.length → d.rerr k = 0 := fun k h1 h2 => by
    unfold DS.rerr DS.inb
    rw [if_neg (by simp [hd]), if_pos (by simp; omega)]
  unfold DS.lerr
  rw [r p (by omega) (by omega), r (p + 1) (by omega) (by omega), r (p + 2) (by omega) (by omega)]
  simp
theorem At3.gets {d : DS} {p : Nat} {x y z : Sec} (h : At3 d p x y z none none none) : d.get (p : Int).toNat = x ∧ d.get ((p : Int) + 1).toNat = y ∧ d.get ((p : Int) + 2).toNat = z := by
  unfold DS.get
  rw [show ((p : Int) + 1).toNat = p + 1 by omega, show ((p : Int) + 2).toNat = p + 2 by omega, Int.toNat_natCast, h.cx, h.cy, h.cz]
  simp only [List.getD_eq_getElem?_getD, h.x, h.y, h.z, Option.getD_some, Option.getD_none, and_self]
theorem mend_eq {d : DS} {p : Nat} {x y z : Sec} (h : At3 d p x y z none none none) (hd : d.down = false) : d.mend (p : Int) = d.fix (p : Int) (val3 x y z) [x, y, z] := by
  have hp := (List.getElem?_eq_some_iff.1 h.z).1
  obtain ⟨g1, g2, g3⟩ := h.gets
  unfold DS.mend
  rw [lerr_ok hd hp, if_neg (by simp), h.val, g1, g2, g3]
  rfl
/-- The third sector alone is left. -/
theorem fix_third {d : DS} {p : Nat} {n z o : Sec} (h : At3 d p n n z none none none) (hd : d.down = false) (hn : n.length = 64) :
    ((d.fix ((p : Int) + 1 + 1) n [z]).1 ≠ 0 ∧ Mid o n p (d.fix ((p : Int) + 1 + 1) n [z]).2) ∨ ((d.fix ((p : Int) + 1 + 1) n [z]).1 = 0 ∧ At3 (d.fix ((p : Int) + 1 + 1) n [z]).2 p n n n none none none ∧ (d.fix ((p : Int) + 1 + 1) n [z]).2.down = false) := by
  rw [fix_step]
  by_cases hz : z = n
  · subst hz
    rw [if_pos rfl]
    exact .inr ⟨rfl, h, hd⟩
  · rw [if_neg hz]
    have r3 := h.put hd hn (k := 2) (by omega)
    simp only [if_true, Option.getD_none, show ¬ (2 = 0) by omega, show ¬ (2 = 1) by omega, if_false] at r3
    rw [show ((p + 2 : Nat) : Int) = (p : Int) + 1 + 1 by omega] at r3
    rcases r3 with ⟨e3, hm, _⟩ | ⟨e3, h3, d3, _⟩
    · left
      rw [if_neg e3]
      refine ⟨e3, .inr (.inr ?_)⟩
      rcases hm with hm | hm
      · exact ⟨_, _, hm⟩
      · exact ⟨_, _, hm⟩
    · right
      rw [if_pos e3]
      exact ⟨rfl, h3, d3⟩
theorem mend_first {d : DS} {p : Nat} {x o n : Sec} (h : At3 d p x o o none none none) (hd : d.down = false) (ho : o.length = 64) :
    ((d.mend (p : Int)).1 ≠ 0 ∧ Mid o n p (d.mend (p : Int)).2) ∨ ((d.mend (p : Int)).1 = 0 ∧ At3 (d.mend (p : Int)).2 p o o o none none none ∧ (d.mend (p : Int)).2.down = false) := by
  have hv : val3 x o o = o := by simp [val3]
  have nil : ∀ (D : DS) (i : Int), D.fix i o [o, o] = (0, D) := fun D i => by rw [fix_step, if_pos rfl, fix_step, if_pos rfl]; rfl
  rw [mend_eq h hd, hv, fix_step]
  by_cases hx : x = o
  · subst hx
    rw [if_pos rfl, nil]
    exact .inr ⟨rfl, h, hd⟩
  · rw [if_neg hx]
    have r1 := h.put hd ho (k := 0) (by omega)
    simp only [Nat.add_zero, if_true, Option.getD_none, show ¬ (0 = 1) by omega, show ¬ (0 = 2) by omega, if_false] at r1
    rcases r1 with ⟨e1, hm, _⟩ | ⟨e1, h1, d1, _⟩
    · left
      rw [if_neg e1]
      refine ⟨e1, .inl ?_⟩
      rcases hm with hm | hm
      · exact ⟨_, _, hm⟩
      · exact ⟨_, _, hm⟩
    · right
      rw [if_pos e1, nil]
      exact ⟨rfl, h1, d1⟩
/-- A mend: lost within, it leaves old or new; else it is what it was told to be. -/
theorem mend_cases {d : DS} {p : Nat} {x y z o n : Sec} (h : At3 d p x y z none none none) (hd : d.down = false) (ho : o.length = 64) (hn : n.length = 64) (hc : (y = o ∧ z = o) ∨ (x = n ∧ z = o) ∨ (x = n ∧ y = n)) :
    ((d.mend (p : Int)).1 ≠ 0 ∧ Mid o n p (d.mend (p : Int)).2) ∨
      ((d.mend (p : Int)).1 = 0 ∧ At3 (d.mend (p : Int)).2 p (val3 x y z) (val3 x y z) (val3 x y z) none none none ∧ (d.mend (p : Int)).2.down = false) := by
  rcases hc with ⟨rfl, rfl⟩ | ⟨rfl, rfl⟩ | ⟨rfl, rfl⟩
  · have := mend_first (n := n) h hd ho
    rwa [show val3 x z z = z by simp [val3]]
  · by_cases hyz : y = z
    · subst hyz
      have := mend_first (n := x) h hd ho
      rwa [show val3 x y y = y by simp [val3]]
    · have hv : val3 x y z = x := by simp [val3, hyz]
      rw [hv, mend_eq h hd, hv, fix_step, if_pos rfl, fix_step]
      by_cases hyx : y = x
      · subst hyx
        rw [if_pos rfl]
        exact fix_third h hd hn
      · rw [if_neg hyx]
        have r2 := h.put hd hn (k := 1) (by omega)
        simp only [if_true, Option.getD_none, show ¬ (1 = 0) by omega, show ¬ (1 = 2) by omega, if_false] at r2
        rw [show ((p + 1 : Nat) : Int) = (p : Int) + 1 by omega] at r2
        rcases r2 with ⟨e2, hm, _⟩ | ⟨e2, h2, d2, _⟩
        · left
          rw [if_neg e2]
          refine ⟨e2, .inr (.inl ?_)⟩
          rcases hm with hm | hm
          · exact ⟨_, _, hm⟩
          · exact ⟨_, _, hm⟩
        · rw [if_pos e2]
          exact fix_third h2 d2 hn
  · have hv : val3 y y z = y := by
      unfold val3
      split
      · rename_i e; exact e.symm
      · rfl
    rw [hv, mend_eq h hd, hv, fix_step, if_pos rfl, fix_step, if_pos rfl]
    exact fix_third h hd hn
end Go.Proofs.Ytekgjjanikicnaa.Sx
