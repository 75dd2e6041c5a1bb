/- What laws are handed, opened: rows of bytes' slices, of fates, two slices. -/
import Derived.Test.YtekgjjanikicnaaDkP
namespace Go.Proofs.Ytekgjjanikicnaa.Sx
open Go Go.ChangeShapes Go.WideShapes Go.ChangeAt Go.RowKit
set_option maxRecDepth 100000
set_option linter.unusedVariables false
set_option linter.unusedSimpArgs false

structure BsV where
  B : Option Addr
  bs : List UInt8
  cap : Nat
structure BsV.Ok (fx : List Fact) (o : BsV) : Prop where
  l : o.bs.length ≤ o.cap ∧ o.cap ≤ maxLen
  b : BytesAt fx o.B o.bs
/-- A row of bytes' slices. -/
def BssAt (fx : List Fact) (A : Option Addr) (l : List BsV) : Prop := (A = none → l = []) ∧ ∀ ad, A = some ad → ∀ i o, l[i]? = some o → o.Ok fx ∧ FC fx (ad.add (i * 1)) (.slice o.B o.bs.length o.cap)
theorem BssAt.get {fx : List Fact} {A : Option Addr} {l : List BsV} (h : BssAt fx A l) {i : Nat} (hi : i < l.length) : ∃ ad, A = some ad ∧ l[i].Ok fx ∧ FC fx (ad.add (i * 1)) (.slice l[i].B l[i].bs.length l[i].cap) := by
  cases A with
  | none => rw [h.1 rfl] at hi; simp at hi
  | some ad => exact ⟨ad, rfl, h.2 ad rfl i _ (List.getElem?_eq_getElem hi)⟩
theorem FC.mono {fx fx' : List Fact} {ad : Addr} {x : Value} (h : FC fx ad x) (hf : ∀ f, f ∈ fx → f ∈ fx') : FC fx' ad x := by
  obtain ⟨g, h1, h2⟩ := h
  exact ⟨g, hf g h1, h2⟩
theorem BsV.Ok.mono {fx fx' : List Fact} {o : BsV} (h : o.Ok fx) (hf : ∀ f, f ∈ fx → f ∈ fx') : o.Ok fx' := ⟨h.l, h.b.mono hf⟩
theorem BssAt.mono {fx fx' : List Fact} {A : Option Addr} {l : List BsV} (h : BssAt fx A l) (hf : ∀ f, f ∈ fx → f ∈ fx') : BssAt fx' A l :=
  ⟨h.1, fun ad e i o hi => by obtain ⟨h1, h2⟩ := h.2 ad e i o hi; exact ⟨h1.mono hf, h2.mono hf⟩⟩
def FatesAt (fx : List Fact) (A : Option Addr) (l : List FateV) : Prop := (A = none → l = []) ∧ ∀ ad, A = some ad → ∀ i o, l[i]? = some o → o.Ok fx ∧ ∀ j v, o.cells[j]? = some v → FC fx ((ad.add (i * 3)).add j) v
theorem FatesAt.get {fx : List Fact} {A : Option Addr} {l : List FateV} (h : FatesAt fx A l) {i : Nat} (hi : i < l.length) : ∃ ad, A = some ad ∧ l[i].Ok fx ∧ ∀ j v, l[i].cells[j]? = some v → FC fx ((ad.add (i * 3)).add j) v := by
  cases A with
  | none => rw [h.1 rfl] at hi; simp at hi
  | some ad => exact ⟨ad, rfl, h.2 ad rfl i _ (List.getElem?_eq_getElem hi)⟩
theorem FateV.Ok.mono {fx fx' : List Fact} {o : FateV} (h : o.Ok fx) (hf : ∀ f, f ∈ fx → f ∈ fx') : o.Ok fx' :=
  ⟨h.kl, ⟨h.bk.1, fun ad e j y hj => (h.bk.2 ad e j y hj).mono hf⟩, h.torn, h.at_⟩
section
variable {H : Type} {enc : TypeId × Value → H} {W : World}
theorem open_bss {r : Reach} {b0 : Nat} {v : Value} {d : DataW H} {ps : List MemPlace} {base : Nat} {sp : Nat → Bool} {held : Bool}
    (hval : Value.okWide Try.prog W r b0 52 v) (hd : DataW.Trod enc Try.prog W base sp held 52 v d ps) : ∃ (A : Option Addr) (l : List BsV) (cap : Nat), v = .slice A l.length cap ∧ l.length ≤ cap ∧ cap ≤ maxLen ∧ BssAt [oldFact W] A l := by
  obtain ⟨fuel, a, len, cap, rfl, h⟩ := open_slice Try.underlying52 hval hd
  have hc5 : Try.prog.cellsOf 5 = 1 := by kernel_rfl
  obtain ⟨A, l, c, e, h1, h2, h3⟩ := trod_elems Try.underlying52 (by kernel_rfl : Try.prog.cellsOf 22 = 1) (Q := fun es => ∃ o : BsV, es = [Value.slice o.B o.bs.length o.cap] ∧ o.Ok [oldFact W]) h (fun _ _ _ h => by
    obtain ⟨B, bs, bc, e2, l2, m2, b2⟩ := trod_bytes Try.underlying22 Try.underlying5 hc5 h
    exact ⟨⟨B, bs, bc⟩, e2, ⟨l2, m2⟩, b2⟩)
  simp only [List.cons.injEq, and_true, Value.slice.injEq] at e
  obtain ⟨e1, e2, e3⟩ := e
  subst e1 e2 e3
  cases a with
  | none => obtain rfl := h3.1 rfl; exact ⟨none, [], cap, rfl, h1, h2, fun _ => rfl, fun ad e => by cases e⟩
  | some ad =>
    obtain ⟨ops, g1, g2⟩ := choose_list (p := fun i (o : BsV) => o.Ok [oldFact W] ∧ FC [oldFact W] (ad.add (i * 1)) (.slice o.B o.bs.length o.cap)) len fun i hi => by
      obtain ⟨es, _, ⟨o, rfl, ho⟩, h4⟩ := h3.2 ad rfl i hi
      exact ⟨o, ho, h4 0 _ rfl⟩
    subst g1
    exact ⟨some ad, ops, cap, rfl, h1, h2, fun e => (by cases e), fun ad' e i o hi => by obtain rfl := Option.some.inj e; exact g2 i o hi⟩
theorem open_fates {r : Reach} {b0 : Nat} {v : Value} {d : DataW H} {ps : List MemPlace} {base : Nat} {sp : Nat → Bool} {held : Bool}
    (hval : Value.okWide Try.prog W r b0 71 v) (hd : DataW.Trod enc Try.prog W base sp held 71 v d ps) : ∃ (A : Option Addr) (l : List FateV) (cap : Nat), v = .slice A l.length cap ∧ l.length ≤ cap ∧ cap ≤ maxLen ∧ FatesAt [oldFact W] A l := by
  obtain ⟨fuel, a, len, cap, rfl, h⟩ := open_slice Try.underlying71 hval hd
  obtain ⟨A, l, c, e, h1, h2, h3⟩ := trod_elems Try.underlying71 (by kernel_rfl : Try.prog.cellsOf 47 = 3) h (fun _ _ _ => trod_fate)
  simp only [List.cons.injEq, and_true, Value.slice.injEq] at e
  obtain ⟨e1, e2, e3⟩ := e
  subst e1 e2 e3
  cases a with
  | none => obtain rfl := h3.1 rfl; exact ⟨none, [], cap, rfl, h1, h2, fun _ => rfl, fun ad e => by cases e⟩
  | some ad =>
    obtain ⟨ops, g1, g2⟩ := choose_list (p := fun i (o : FateV) => o.Ok [oldFact W] ∧ ∀ j v, o.cells[j]? = some v → FC [oldFact W] ((ad.add (i * 3)).add j) v) len fun i hi => by
      obtain ⟨es, _, hop, h4⟩ := h3.2 ad rfl i hi
      obtain ⟨o, rfl, h5⟩ := hop.v
      exact ⟨o, h5, fun j v hj => by rw [Addr.add_add]; exact h4 j v hj⟩
    subst g1
    exact ⟨some ad, ops, cap, rfl, h1, h2, fun e => (by cases e), fun ad' e i o hi => by obtain rfl := Option.some.inj e; exact g2 i o hi⟩
theorem two_of {α : Type} : ∀ {l : List α}, l.length = 2 → ∃ a b, l = [a, b]
  | [a, b], _ => ⟨a, b, rfl⟩
theorem open_two {r : Reach} {b0 : Nat} {v : Value} {d : DataW H} {ps : List MemPlace} {base : Nat} {sp : Nat → Bool} {held : Bool}
    (hval : Value.okWide Try.prog W r b0 65 v) (hd : DataW.Trod enc Try.prog W base sp held 65 v d ps) : ∃ x y : BsV, v = .agg ⟨[.slice x.B x.bs.length x.cap, .slice y.B y.bs.length y.cap]⟩ ∧ x.Ok [oldFact W] ∧ y.Ok [oldFact W] := by
  obtain ⟨fuel, cs, rfl, h⟩ := open_agg (.inr ⟨_, _, Try.underlying65⟩) hval hd
  obtain ⟨h1, h2⟩ := trod_part Try.underlying65 h
  have hc : Try.prog.cellsOf 65 = 2 := by kernel_rfl
  have c22 : Try.prog.cellsOf 22 = 1 := by kernel_rfl
  have c5 : Try.prog.cellsOf 5 = 1 := by kernel_rfl
  rw [hc] at h1
  obtain ⟨a, b, rfl⟩ := two_of h1
  obtain ⟨f0, y0, k0⟩ := h2 0 (by decide)
  obtain ⟨f1, y1, k1⟩ := h2 1 (by decide)
  simp only [c22, Nat.zero_mul, Nat.one_mul, List.drop_zero, List.drop_succ_cons, List.take_succ_cons, List.take_zero] at k0 k1
  obtain ⟨A, xs, ac, e0, l0, m0, g0⟩ := trod_bytes Try.underlying22 Try.underlying5 c5 k0
  obtain ⟨B, bs, bc, e1, l1, m1, g1⟩ := trod_bytes Try.underlying22 Try.underlying5 c5 k1
  simp only [List.cons.injEq, and_true] at e0 e1
  subst e0 e1
  exact ⟨⟨A, xs, ac⟩, ⟨B, bs, bc⟩, rfl, ⟨⟨l0, m0⟩, g0⟩, ⟨⟨l1, m1⟩, g1⟩⟩
end
end Go.Proofs.Ytekgjjanikicnaa.Sx
