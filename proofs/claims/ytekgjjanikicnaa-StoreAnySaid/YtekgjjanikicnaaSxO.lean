/- A symbolic executor for the model's code, part 19: what a law is handed, opened: rows of structs, arrays, Bools. -/
import Derived.Test.YtekgjjanikicnaaSxL
namespace Go.Proofs.Ytekgjjanikicnaa.Sx
open Go Go.ChangeShapes Go.WideShapes Go.ChangeAt Go.RowKit
set_option linter.unusedVariables false
set_option linter.unusedSimpArgs false

section
variable {H : Type} {enc : TypeId × Value → H} {P : Program} {W : World}
/-- A slice whose elements (of z cells each) are each as Q says. -/
def ElemsAt (fx : List Fact) (A : Option Addr) (len z : Nat) (Q : Nat → List Value → Prop) : Prop :=
  (A = none → len = 0) ∧ ∀ ad, A = some ad → ∀ i, i < len → ∃ es : List Value, es.length = z ∧ Q i es ∧ ∀ j v, es[j]? = some v → FC fx (ad.add (i * z + j)) v
theorem mapM_cells {W : World} {a : Addr} {n : Nat} {cs : List Value} (h : (List.range n).mapM (fun i => W.cell? (a.add i)) = some cs) : cs.length = n ∧ ∀ j v, cs[j]? = some v → W.cell? (a.add j) = some v := by
  have hl := mapM_some_length h
  rw [List.length_range] at hl
  refine ⟨hl, fun j v hj => ?_⟩
  have hlt := (List.getElem?_eq_some_iff.1 hj).1
  have := mapM_some_get h j j (by simp [hl ▸ hlt])
  rw [this, hj]
theorem trod_elems {t e : TypeId} {z base fuel : Nat} {sp : Nat → Bool} {held : Bool} {cs : List Value} {x : DataW H × List MemPlace} (ht : P.underlying t = some (.slice e)) (hc : P.cellsOf e = z)
    (h : DataW.trod enc P W base sp held fuel t cs = some x) {Q : List Value → Prop} (hQ : ∀ fuel es y, DataW.trod enc P W base sp held fuel e es = some y → Q es) :
    ∃ (A : Option Addr) (len cap : Nat), cs = [.slice A len cap] ∧ len ≤ cap ∧ cap ≤ maxLen ∧ ElemsAt [oldFact W] A len z (fun _ => Q) := by
  rcases DataW.trod_slice ht h with ⟨h1, _⟩ | ⟨a, len, cap, elems, rest, n, _, rfl, _, _, h3, h4, h5, h6, _⟩
  · exact ⟨none, 0, 0, h1, Nat.le_refl _, Nat.zero_le _, fun _ => rfl, fun ad e => by cases e⟩
  · refine ⟨some a, len, cap, rfl, h3, h4, fun e => (by cases e), fun ad e i hi => ?_⟩
    obtain rfl := Option.some.inj e
    have h7 := h6 i hi
    rw [List.getElem?_eq_getElem (by omega), Option.bind_eq_some_iff] at h7
    obtain ⟨es, h8, h9⟩ := h7
    unfold World.cells? at h8
    split at h8
    · obtain ⟨h10, h11⟩ := mapM_cells h8
      rw [hc] at h10
      refine ⟨es, h10, hQ _ _ _ h9, fun j v hj => ?_⟩
      have h12 := h11 j v hj
      rw [Addr.add_add, hc] at h12
      exact oldFact_FC (List.mem_singleton.2 rfl) h12
    · cases h8
theorem trod_field {t : TypeId} {fs : Array Field} {base fuel : Nat} {sp : Nat → Bool} {held : Bool} {cs : List Value} {x : DataW H × List MemPlace} (ht : P.underlying t = some (.struct fs))
    (h : DataW.trod enc P W base sp held fuel t cs = some x) : cs.length = P.cellsOf t ∧ ∀ (i : Nat) (f : Field), fs[i]? = some f → ∃ fuel' y, DataW.trod enc P W base sp held fuel' f.type ((cs.drop f.offset).take (P.cellsOf f.type)) = some y := by
  obtain ⟨xs, n, _, _, h1, h2, h3⟩ := DataW.trod_struct ht h
  refine ⟨h1, fun i f hf => ?_⟩
  have hi := (Array.getElem?_eq_some_iff.1 hf).1
  exact ⟨n, xs[i], by rw [h3 i f hf, List.getElem?_eq_getElem (by omega)]⟩
theorem trod_part {t e : TypeId} {n base fuel : Nat} {sp : Nat → Bool} {held : Bool} {cs : List Value} {x : DataW H × List MemPlace} (ht : P.underlying t = some (.array n e))
    (h : DataW.trod enc P W base sp held fuel t cs = some x) : cs.length = P.cellsOf t ∧ ∀ (i : Nat), i < n → ∃ fuel' y, DataW.trod enc P W base sp held fuel' e ((cs.drop (i * P.cellsOf e)).take (P.cellsOf e)) = some y := by
  obtain ⟨xs, m, _, _, h1, h2, h3⟩ := DataW.trod_array ht h
  refine ⟨h1, fun i hi => ?_⟩
  exact ⟨m, xs[i], by rw [h3 i hi, List.getElem?_eq_getElem (by omega)]⟩
/-- A slice of Bools, told by facts. -/
def BoolsAt (fx : List Fact) (A : Option Addr) (bs : List Bool) : Prop := (A = none → bs = []) ∧ ∀ ad, A = some ad → ∀ j y, bs[j]? = some y → FC fx (ad.add j) (.bool y)
theorem choose_list {α : Type} {p : Nat → α → Prop} : ∀ (n : Nat), (∀ i, i < n → ∃ x, p i x) → ∃ l : List α, l.length = n ∧ ∀ i x, l[i]? = some x → p i x
  | 0, _ => ⟨[], rfl, fun i x h => by cases h⟩
  | n + 1, h => by
    obtain ⟨l, h1, h2⟩ := choose_list n fun i hi => h i (by omega)
    obtain ⟨x, hx⟩ := h n (by omega)
    refine ⟨l ++ [x], by simp [h1], fun i y hy => ?_⟩
    by_cases hi : i < n
    · rw [List.getElem?_append_left (by omega)] at hy
      exact h2 i y hy
    · have hlt := (List.getElem?_eq_some_iff.1 hy).1
      simp [h1] at hlt
      obtain rfl : i = n := by omega
      rw [List.getElem?_append_right (by omega), h1, Nat.sub_self] at hy
      simp only [List.getElem?_cons_zero, Option.some.injEq] at hy
      rw [← hy]; exact hx
theorem trod_bools {t e : TypeId} {base fuel : Nat} {sp : Nat → Bool} {held : Bool} {cs : List Value} {x : DataW H × List MemPlace} (ht : P.underlying t = some (.slice e)) (he : P.underlying e = some .bool) (hc : P.cellsOf e = 1)
    (h : DataW.trod enc P W base sp held fuel t cs = some x) : ∃ (A : Option Addr) (bs : List Bool) (cap : Nat), cs = [.slice A bs.length cap] ∧ bs.length ≤ cap ∧ cap ≤ maxLen ∧ BoolsAt [oldFact W] A bs := by
  obtain ⟨A, len, cap, rfl, h1, h2, h3, h4⟩ := trod_elems (Q := fun es => ∃ b, es = [.bool b]) ht hc h (fun fuel es y hy => by obtain ⟨b, h1, _⟩ := DataW.trod_bool he hy; exact ⟨b, h1⟩)
  cases A with
  | none =>
    obtain rfl := h3 rfl
    exact ⟨none, [], cap, rfl, h1, h2, fun _ => rfl, fun ad e => by cases e⟩
  | some ad =>
    obtain ⟨bs, h5, h6⟩ := choose_list (p := fun i b => FC [oldFact W] (ad.add i) (.bool b)) len fun i hi => by
      obtain ⟨es, _, ⟨b, rfl⟩, h7⟩ := h4 ad rfl i hi
      exact ⟨b, by have := h7 0 _ rfl; rwa [Nat.mul_one, Nat.add_zero] at this⟩
    exact ⟨some ad, bs, cap, by rw [h5], by omega, h2, fun e => (by cases e), fun ad' e j y hj => by obtain rfl := Option.some.inj e; exact h6 j y hj⟩
/-- A slice argument, opened. -/
theorem open_slice {t e : TypeId} {r : Reach} {b0 : Nat} {v : Value} {d : DataW H} {ps : List MemPlace} {base : Nat} {sp : Nat → Bool} {held : Bool} (ht : P.underlying t = some (.slice e))
    (hval : Value.okWide P W r b0 t v) (hd : DataW.Trod enc P W base sp held t v d ps) : ∃ fuel a len cap, v = .slice a len cap ∧ DataW.trod enc P W base sp held fuel t [.slice a len cap] = some (d, ps) := by
  obtain ⟨a, len, cap, rfl⟩ := okWide_slice ht hval
  obtain ⟨fuel, hf⟩ := hd
  exact ⟨fuel, a, len, cap, rfl, by simpa [Value.cells] using hf⟩
/-- A struct, or an array, opened. -/
theorem open_agg {t : TypeId} {r : Reach} {b0 : Nat} {v : Value} {d : DataW H} {ps : List MemPlace} {base : Nat} {sp : Nat → Bool} {held : Bool} (ht : (∃ fs, P.underlying t = some (.struct fs)) ∨ ∃ n e, P.underlying t = some (.array n e))
    (hval : Value.okWide P W r b0 t v) (hd : DataW.Trod enc P W base sp held t v d ps) : ∃ fuel cs, v = .agg ⟨cs⟩ ∧ DataW.trod enc P W base sp held fuel t cs = some (d, ps) := by
  obtain ⟨fuel, hf⟩ := hd
  have : ∃ cs, v = .agg cs := by
    rcases ht with ⟨fs, ht⟩ | ⟨n, e, ht⟩
    · simp only [Value.okWide, ht] at hval
      obtain ⟨cs, h1, _⟩ := hval
      exact ⟨cs, h1⟩
    · simp only [Value.okWide, ht] at hval
      obtain ⟨cs, h1, _⟩ := hval
      exact ⟨cs, h1⟩
  obtain ⟨⟨cs⟩, rfl⟩ := this
  exact ⟨fuel, cs, rfl, by simpa [Value.cells] using hf⟩
end
end Go.Proofs.Ytekgjjanikicnaa.Sx
