/- A symbolic executor for the model's code: slices of bytes, and slices of such, told by facts. -/
import Derived.Test.YtekgjjanikicnaaSxU
namespace Go.Proofs.Ytekgjjanikicnaa.Sx
open Go
set_option linter.unusedVariables false
set_option linter.unusedSimpArgs false

structure BsV where
  B : Option Addr
  bs : List UInt8
  cap : Nat
structure BsV.Ok (fx : List Fact) (o : BsV) : Prop where
  l : o.bs.length ≤ o.cap ∧ o.cap ≤ maxLen
  b : BytesAt fx o.B o.bs
/-- A row of bytes' slices. -/
def BssAt (fx : List Fact) (A : Option Addr) (l : List BsV) : Prop := (A = none → l = []) ∧ ∀ ad, A = some ad → ∀ i o, l[i]? = some o → o.Ok fx ∧ FC fx (ad.add (i * 1)) (.slice o.B o.bs.length o.cap)
theorem BssAt.get {fx : List Fact} {A : Option Addr} {l : List BsV} (h : BssAt fx A l) {i : Nat} (hi : i < l.length) : ∃ ad, A = some ad ∧ l[i].Ok fx ∧ FC fx (ad.add (i * 1)) (.slice l[i].B l[i].bs.length l[i].cap) := by
  cases A with
  | none => rw [h.1 rfl] at hi; simp at hi
  | some ad => exact ⟨ad, rfl, h.2 ad rfl i _ (List.getElem?_eq_getElem hi)⟩
theorem FC.mono {fx fx' : List Fact} {ad : Addr} {x : Value} (h : FC fx ad x) (hf : ∀ f, f ∈ fx → f ∈ fx') : FC fx' ad x := by
  obtain ⟨g, h1, h2⟩ := h
  exact ⟨g, hf g h1, h2⟩
theorem BsV.Ok.mono {fx fx' : List Fact} {o : BsV} (h : o.Ok fx) (hf : ∀ f, f ∈ fx → f ∈ fx') : o.Ok fx' := ⟨h.l, h.b.mono hf⟩
theorem BssAt.mono {fx fx' : List Fact} {A : Option Addr} {l : List BsV} (h : BssAt fx A l) (hf : ∀ f, f ∈ fx → f ∈ fx') : BssAt fx' A l :=
  ⟨h.1, fun ad e i o hi => by obtain ⟨h1, h2⟩ := h.2 ad e i o hi; exact ⟨h1.mono hf, h2.mono hf⟩⟩
/-- The same, of whatever capacity. -/
structure BsV.Fit (fx : List Fact) (o : BsV) : Prop where
  le : o.bs.length ≤ o.cap
  b : BytesAt fx o.B o.bs
def BsV.v (o : BsV) : Value := .slice o.B o.bs.length o.cap
def PartsAt (fx : List Fact) (A : Option Addr) (l : List BsV) : Prop := (A = none → l = []) ∧ ∀ ad, A = some ad → ∀ i o, l[i]? = some o → o.Fit fx ∧ FC fx (ad.add i) o.v
theorem BsV.Ok.fit {fx : List Fact} {o : BsV} (h : o.Ok fx) : o.Fit fx := ⟨h.l.1, h.b⟩
theorem BsV.Fit.mono {fx fx' : List Fact} {o : BsV} (h : o.Fit fx) (hf : ∀ f, f ∈ fx → f ∈ fx') : o.Fit fx' := ⟨h.le, h.b.mono hf⟩
theorem PartsAt.mono {fx fx' : List Fact} {A : Option Addr} {l : List BsV} (h : PartsAt fx A l) (hf : ∀ f, f ∈ fx → f ∈ fx') : PartsAt fx' A l :=
  ⟨h.1, fun ad e i o hi => by obtain ⟨h1, h2⟩ := h.2 ad e i o hi; exact ⟨h1.mono hf, h2.mono hf⟩⟩
theorem PartsAt.get {fx : List Fact} {A : Option Addr} {l : List BsV} (h : PartsAt fx A l) {i : Nat} (hi : i < l.length) : ∃ ad, A = some ad ∧ l[i].Fit fx ∧ FC fx (ad.add (i * 1)) (.slice l[i].B l[i].bs.length l[i].cap) := by
  cases A with
  | none => rw [h.1 rfl] at hi; simp at hi
  | some ad => rw [Nat.mul_one]; exact ⟨ad, rfl, h.2 ad rfl i _ (List.getElem?_eq_getElem hi)⟩
theorem BssAt.parts {fx : List Fact} {A : Option Addr} {l : List BsV} (h : BssAt fx A l) : PartsAt fx A l :=
  ⟨h.1, fun ad e i o hi => by obtain ⟨h1, h2⟩ := h.2 ad e i o hi; rw [Nat.mul_one] at h2; exact ⟨h1.fit, h2⟩⟩
/-- A row of slices that is told by a fact. -/
theorem PartsAt.row {fx : List Fact} {b : Nat} {T : TypeId} {l : List BsV} (h : rowFact b (l.map BsV.v) T ∈ fx) (hl : ∀ o ∈ l, o.Fit fx) : PartsAt fx (some ⟨b, 0, none⟩) l := by
  refine ⟨fun e => (by cases e), fun ad e i o hi => ?_⟩
  obtain rfl := Option.some.inj e
  refine ⟨hl o (List.mem_of_getElem? hi), ?_⟩
  have := rowFact_FC (b := b) h (j := i) (y := o.v) (by rw [List.getElem?_map, hi]; rfl)
  rwa [add_at, Nat.zero_add]
def allB (l : List BsV) : List UInt8 := l.flatMap BsV.bs
end Go.Proofs.Ytekgjjanikicnaa.Sx
