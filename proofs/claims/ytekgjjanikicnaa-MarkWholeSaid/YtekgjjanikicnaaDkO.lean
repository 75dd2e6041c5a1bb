/- What the laws of the disk are handed, opened: fates, ops. -/
import Derived.Test.YtekgjjanikicnaaSxO
namespace Go.Proofs.Ytekgjjanikicnaa.Sx
open Go Go.ChangeShapes Go.WideShapes Go.ChangeAt Go.RowKit
set_option maxRecDepth 100000
set_option linter.unusedVariables false
set_option linter.unusedSimpArgs false

section
variable {H : Type} {enc : TypeId × Value → H} {W : World}
theorem three_of {α : Type} : ∀ {l : List α}, l.length = 3 → ∃ a b c, l = [a, b, c]
  | [a, b, c], _ => ⟨a, b, c, rfl⟩
theorem six_of {α : Type} : ∀ {l : List α}, l.length = 6 → ∃ a b c d e f, l = [a, b, c, d, e, f]
  | [a, b, c, d, e, f], _ => ⟨a, b, c, d, e, f, rfl⟩
/-- The cells of a fate. -/
def FateIs (fx : List Fact) (cs : List Value) : Prop := ∃ (K : Option Addr) (keep : List Bool) (cap : Nat) (torn at_ : Int), cs = [.slice K keep.length cap, .int .i64 torn, .int .i64 at_] ∧ keep.length ≤ cap ∧ cap ≤ maxLen ∧ BoolsAt fx K keep ∧
  (-9223372036854775808 ≤ torn ∧ torn ≤ 9223372036854775807) ∧ (-9223372036854775808 ≤ at_ ∧ at_ ≤ 9223372036854775807)
theorem trod_fate {base fuel : Nat} {sp : Nat → Bool} {held : Bool} {cs : List Value} {x : DataW H × List MemPlace} (h : DataW.trod enc Try.prog W base sp held fuel 47 cs = some x) : FateIs [oldFact W] cs := by
  obtain ⟨h1, h2⟩ := trod_field Try.underlying47 h
  have hc : Try.prog.cellsOf 47 = 3 := by kernel_rfl
  rw [hc] at h1
  obtain ⟨a, b, c, rfl⟩ := three_of h1
  obtain ⟨f0, y0, k0⟩ : ∃ fu y, DataW.trod enc Try.prog W base sp held fu 32 (List.take (Try.prog.cellsOf 32) (List.drop 0 [a, b, c])) = some y := h2 0 _ rfl
  obtain ⟨f1, y1, k1⟩ : ∃ fu y, DataW.trod enc Try.prog W base sp held fu 3 (List.take (Try.prog.cellsOf 3) (List.drop 1 [a, b, c])) = some y := h2 1 _ rfl
  obtain ⟨f2, y2, k2⟩ : ∃ fu y, DataW.trod enc Try.prog W base sp held fu 3 (List.take (Try.prog.cellsOf 3) (List.drop 2 [a, b, c])) = some y := h2 2 _ rfl
  have c0 : Try.prog.cellsOf 32 = 1 := by kernel_rfl
  have c1 : Try.prog.cellsOf 3 = 1 := by kernel_rfl
  have c2 : Try.prog.cellsOf 4 = 1 := by kernel_rfl
  simp only [c0, c1, List.drop_zero, List.drop_succ_cons, List.take_succ_cons, List.take_zero] at k0 k1 k2
  obtain ⟨K, keep, cap, e0, l0, m0, b0⟩ := trod_bools Try.underlying32 Try.underlying4 c2 k0
  obtain ⟨n1, e1, _, w1⟩ := DataW.trod_int Try.underlying3 k1
  obtain ⟨n2, e2, _, w2⟩ := DataW.trod_int Try.underlying3 k2
  simp only [List.cons.injEq, and_true] at e0 e1 e2
  subst e0 e1 e2
  exact ⟨K, keep, cap, n1, n2, rfl, l0, m0, b0, bounds_i64 w1, bounds_i64 w2⟩
/-- The cells of an op. -/
def OpIs (fx : List Fact) (cs : List Value) : Prop := ∃ (kind i : Int) (B : Option Addr) (bs : List UInt8) (bcap : Nat) (fs : List Value), cs = .int .i64 kind :: .int .i64 i :: .slice B bs.length bcap :: fs ∧ bs.length ≤ bcap ∧ bcap ≤ maxLen ∧ BytesAt fx B bs ∧
  (-9223372036854775808 ≤ kind ∧ kind ≤ 9223372036854775807) ∧ (-9223372036854775808 ≤ i ∧ i ≤ 9223372036854775807) ∧ FateIs fx fs
theorem trod_op {base fuel : Nat} {sp : Nat → Bool} {held : Bool} {cs : List Value} {x : DataW H × List MemPlace} (h : DataW.trod enc Try.prog W base sp held fuel 50 cs = some x) : OpIs [oldFact W] cs := by
  obtain ⟨h1, h2⟩ := trod_field Try.underlying50 h
  have hc : Try.prog.cellsOf 50 = 6 := by kernel_rfl
  rw [hc] at h1
  obtain ⟨a, b, c, d, e, f, rfl⟩ := six_of h1
  obtain ⟨f0, y0, k0⟩ : ∃ fu y, DataW.trod enc Try.prog W base sp held fu 3 (List.take (Try.prog.cellsOf 3) (List.drop 0 [a, b, c, d, e, f])) = some y := h2 0 _ rfl
  obtain ⟨f1, y1, k1⟩ : ∃ fu y, DataW.trod enc Try.prog W base sp held fu 3 (List.take (Try.prog.cellsOf 3) (List.drop 1 [a, b, c, d, e, f])) = some y := h2 1 _ rfl
  obtain ⟨f2, y2, k2⟩ : ∃ fu y, DataW.trod enc Try.prog W base sp held fu 22 (List.take (Try.prog.cellsOf 22) (List.drop 2 [a, b, c, d, e, f])) = some y := h2 2 _ rfl
  obtain ⟨f3, y3, k3⟩ : ∃ fu y, DataW.trod enc Try.prog W base sp held fu 47 (List.take (Try.prog.cellsOf 47) (List.drop 3 [a, b, c, d, e, f])) = some y := h2 3 _ rfl
  have c0 : Try.prog.cellsOf 3 = 1 := by kernel_rfl
  have c1 : Try.prog.cellsOf 22 = 1 := by kernel_rfl
  have c2 : Try.prog.cellsOf 5 = 1 := by kernel_rfl
  have c3 : Try.prog.cellsOf 47 = 3 := by kernel_rfl
  simp only [c0, c1, c3, List.drop_zero, List.drop_succ_cons, List.take_succ_cons, List.take_zero] at k0 k1 k2 k3
  obtain ⟨n0, e0, _, w0⟩ := DataW.trod_int Try.underlying3 k0
  obtain ⟨n1, e1, _, w1⟩ := DataW.trod_int Try.underlying3 k1
  obtain ⟨B, bs, cap, e2, l2, m2, b2⟩ := trod_bytes Try.underlying22 Try.underlying5 c2 k2
  simp only [List.cons.injEq, and_true] at e0 e1 e2
  subst e0 e1 e2
  exact ⟨n0, n1, B, bs, cap, _, rfl, l2, m2, b2, bounds_i64 w0, bounds_i64 w1, trod_fate k3⟩
theorem open_fate {r : Reach} {b0 : Nat} {v : Value} {d : DataW H} {ps : List MemPlace} {base : Nat} {sp : Nat → Bool} {held : Bool}
    (hval : Value.okWide Try.prog W r b0 47 v) (hd : DataW.Trod enc Try.prog W base sp held 47 v d ps) : ∃ (K : Option Addr) (keep : List Bool) (cap : Nat) (torn at_ : Int), v = .agg ⟨[.slice K keep.length cap, .int .i64 torn, .int .i64 at_]⟩ ∧ keep.length ≤ cap ∧ cap ≤ maxLen ∧ BoolsAt [oldFact W] K keep ∧
      (-9223372036854775808 ≤ torn ∧ torn ≤ 9223372036854775807) ∧ (-9223372036854775808 ≤ at_ ∧ at_ ≤ 9223372036854775807) := by
  obtain ⟨fuel, cs, rfl, h⟩ := open_agg (.inl ⟨_, Try.underlying47⟩) hval hd
  obtain ⟨K, keep, cap, torn, at_, rfl, h1⟩ := trod_fate h
  exact ⟨K, keep, cap, torn, at_, rfl, h1⟩
theorem open_ops {r : Reach} {b0 : Nat} {v : Value} {d : DataW H} {ps : List MemPlace} {base : Nat} {sp : Nat → Bool} {held : Bool}
    (hval : Value.okWide Try.prog W r b0 44 v) (hd : DataW.Trod enc Try.prog W base sp held 44 v d ps) : ∃ (A : Option Addr) (len cap : Nat), v = .slice A len cap ∧ len ≤ cap ∧ cap ≤ maxLen ∧ ElemsAt [oldFact W] A len 6 (fun _ => OpIs [oldFact W]) := by
  obtain ⟨fuel, a, len, cap, rfl, h⟩ := open_slice Try.underlying44 hval hd
  obtain ⟨A, l, c, e, h1, h2, h3⟩ := trod_elems Try.underlying44 (by kernel_rfl : Try.prog.cellsOf 50 = 6) h (fun _ _ _ => trod_op)
  simp only [List.cons.injEq, and_true, Value.slice.injEq] at e
  obtain ⟨e1, e2, e3⟩ := e
  exact ⟨A, l, c, by rw [e1, e2, e3], h1, h2, h3⟩
end
end Go.Proofs.Ytekgjjanikicnaa.Sx
