/- The ops of a story, plainly; a story, opened. -/
import Derived.Test.YtekgjjanikicnaaDkO
namespace Go.Proofs.Ytekgjjanikicnaa.Sx
open Go Go.ChangeShapes Go.WideShapes Go.ChangeAt Go.RowKit
set_option maxRecDepth 100000
set_option linter.unusedVariables false
set_option linter.unusedSimpArgs false

structure FateV where
  K : Option Addr
  keep : List Bool
  kcap : Nat
  torn : Int
  at_ : Int
structure OpV where
  kind : Int
  i : Int
  B : Option Addr
  bs : List UInt8
  bcap : Nat
  f : FateV
def FateV.cells (o : FateV) : List Value := [.slice o.K o.keep.length o.kcap, .int .i64 o.torn, .int .i64 o.at_]
def OpV.cells (o : OpV) : List Value := .int .i64 o.kind :: .int .i64 o.i :: .slice o.B o.bs.length o.bcap :: o.f.cells
structure FateV.Ok (fx : List Fact) (o : FateV) : Prop where
  kl : o.keep.length ≤ o.kcap ∧ o.kcap ≤ maxLen
  bk : BoolsAt fx o.K o.keep
  torn : -9223372036854775808 ≤ o.torn ∧ o.torn ≤ 9223372036854775807
  at_ : -9223372036854775808 ≤ o.at_ ∧ o.at_ ≤ 9223372036854775807
structure OpV.Ok (fx : List Fact) (o : OpV) : Prop where
  kind : -9223372036854775808 ≤ o.kind ∧ o.kind ≤ 9223372036854775807
  i : -9223372036854775808 ≤ o.i ∧ o.i ≤ 9223372036854775807
  bl : o.bs.length ≤ o.bcap ∧ o.bcap ≤ maxLen
  bb : BytesAt fx o.B o.bs
  f : o.f.Ok fx
theorem FateIs.v {fx : List Fact} {cs : List Value} (h : FateIs fx cs) : ∃ o : FateV, cs = o.cells ∧ o.Ok fx := by
  obtain ⟨K, keep, cap, torn, at_, rfl, h1, h2, h3, h4, h5⟩ := h
  exact ⟨⟨K, keep, cap, torn, at_⟩, rfl, ⟨h1, h2⟩, h3, h4, h5⟩
theorem OpIs.v {fx : List Fact} {cs : List Value} (h : OpIs fx cs) : ∃ o : OpV, cs = o.cells ∧ o.Ok fx := by
  obtain ⟨kind, i, B, bs, cap, fs, rfl, h1, h2, h3, h4, h5, h6⟩ := h
  obtain ⟨f, rfl, h7⟩ := h6.v
  exact ⟨⟨kind, i, B, bs, cap, f⟩, rfl, h4, h5, ⟨h1, h2⟩, h3, h7⟩
/-- A script. -/
def OpsAt (fx : List Fact) (A : Option Addr) (ops : List OpV) : Prop := (A = none → ops = []) ∧ ∀ ad, A = some ad → ∀ i o, ops[i]? = some o → o.Ok fx ∧ ∀ j v, o.cells[j]? = some v → FC fx ((ad.add (i * 6)).add j) v
theorem elems_ops {fx : List Fact} {A : Option Addr} {len : Nat} (h : ElemsAt fx A len 6 (fun _ => OpIs fx)) : ∃ ops : List OpV, ops.length = len ∧ OpsAt fx A ops := by
  cases A with
  | none => exact ⟨[], (h.1 rfl).symm, fun _ => rfl, fun ad e => by cases e⟩
  | some ad =>
    obtain ⟨ops, h1, h2⟩ := choose_list (p := fun i (o : OpV) => o.Ok fx ∧ ∀ j v, o.cells[j]? = some v → FC fx ((ad.add (i * 6)).add j) v) len fun i hi => by
      obtain ⟨es, _, hop, h3⟩ := h.2 ad rfl i hi
      obtain ⟨o, rfl, h4⟩ := hop.v
      exact ⟨o, h4, fun j v hj => by rw [Addr.add_add]; exact h3 j v hj⟩
    exact ⟨ops, h1, fun e => (by cases e), fun ad' e i o hi => by obtain rfl := Option.some.inj e; exact h2 i o hi⟩
section
variable {H : Type} {enc : TypeId × Value → H} {W : World}
theorem open_opv {r : Reach} {b0 : Nat} {v : Value} {d : DataW H} {ps : List MemPlace} {base : Nat} {sp : Nat → Bool} {held : Bool}
    (hval : Value.okWide Try.prog W r b0 44 v) (hd : DataW.Trod enc Try.prog W base sp held 44 v d ps) : ∃ (A : Option Addr) (ops : List OpV) (cap : Nat), v = .slice A ops.length cap ∧ ops.length ≤ cap ∧ cap ≤ maxLen ∧ OpsAt [oldFact W] A ops := by
  obtain ⟨A, len, cap, rfl, h1, h2, h3⟩ := open_ops hval hd
  obtain ⟨ops, rfl, h4⟩ := elems_ops h3
  exact ⟨A, ops, cap, rfl, h1, h2, h4⟩
theorem open_fatev {r : Reach} {b0 : Nat} {v : Value} {d : DataW H} {ps : List MemPlace} {base : Nat} {sp : Nat → Bool} {held : Bool}
    (hval : Value.okWide Try.prog W r b0 47 v) (hd : DataW.Trod enc Try.prog W base sp held 47 v d ps) : ∃ o : FateV, v = .agg ⟨o.cells⟩ ∧ o.Ok [oldFact W] := by
  obtain ⟨fuel, cs, rfl, h⟩ := open_agg (.inl ⟨_, Try.underlying47⟩) hval hd
  obtain ⟨o, rfl, h1⟩ := (trod_fate h).v
  exact ⟨o, rfl, h1⟩
theorem trod_ops {base fuel : Nat} {sp : Nat → Bool} {held : Bool} {cs : List Value} {x : DataW H × List MemPlace} (h : DataW.trod enc Try.prog W base sp held fuel 44 cs = some x) : ∃ (A : Option Addr) (ops : List OpV) (cap : Nat), cs = [.slice A ops.length cap] ∧ ops.length ≤ cap ∧ cap ≤ maxLen ∧ OpsAt [oldFact W] A ops := by
  obtain ⟨A, l, c, rfl, h1, h2, h3⟩ := trod_elems Try.underlying44 (by kernel_rfl : Try.prog.cellsOf 50 = 6) h (fun _ _ _ => trod_op)
  obtain ⟨ops, rfl, h4⟩ := elems_ops h3
  exact ⟨A, ops, c, rfl, h1, h2, h4⟩
theorem open_story {T : Nat} (hT : T = 45 ∨ T = 46) {r : Reach} {b0 : Nat} {v : Value} {d : DataW H} {ps : List MemPlace} {base : Nat} {sp : Nat → Bool} {held : Bool}
    (hval : Value.okWide Try.prog W r b0 T v) (hd : DataW.Trod enc Try.prog W base sp held T v d ps) : ∃ (n at_ : Int) (A : Option Addr) (ops : List OpV) (cap : Nat), v = .agg ⟨[.int .u8 n, .int .i64 at_, .slice A ops.length cap]⟩ ∧ (0 ≤ n ∧ n ≤ 255) ∧ (-9223372036854775808 ≤ at_ ∧ at_ ≤ 9223372036854775807) ∧ ops.length ≤ cap ∧ cap ≤ maxLen ∧ OpsAt [oldFact W] A ops := by
  have hu : Try.prog.underlying T = some (.struct #[{ name := "N", type := 5, offset := 0, embedded := false, tag := "", pkgPath := "", byteOffset := 0 }, { name := "At", type := 3, offset := 1, embedded := false, tag := "", pkgPath := "", byteOffset := 8 }, { name := "Script", type := 44, offset := 2, embedded := false, tag := "", pkgPath := "", byteOffset := 16 }]) := by
    rcases hT with rfl | rfl
    · exact Try.underlying45
    · exact Try.underlying46
  have hc : Try.prog.cellsOf T = 3 := by rcases hT with rfl | rfl <;> kernel_rfl
  obtain ⟨fuel, cs, rfl, h⟩ := open_agg (.inl ⟨_, hu⟩) hval hd
  obtain ⟨h1, h2⟩ := trod_field hu h
  rw [hc] at h1
  obtain ⟨a, b, c, rfl⟩ := three_of h1
  obtain ⟨f0, y0, k0⟩ : ∃ fu y, DataW.trod enc Try.prog W base sp held fu 5 (List.take (Try.prog.cellsOf 5) (List.drop 0 [a, b, c])) = some y := h2 0 _ rfl
  obtain ⟨f1, y1, k1⟩ : ∃ fu y, DataW.trod enc Try.prog W base sp held fu 3 (List.take (Try.prog.cellsOf 3) (List.drop 1 [a, b, c])) = some y := h2 1 _ rfl
  obtain ⟨f2, y2, k2⟩ : ∃ fu y, DataW.trod enc Try.prog W base sp held fu 44 (List.take (Try.prog.cellsOf 44) (List.drop 2 [a, b, c])) = some y := h2 2 _ rfl
  have c0 : Try.prog.cellsOf 5 = 1 := by kernel_rfl
  have c1 : Try.prog.cellsOf 3 = 1 := by kernel_rfl
  have c2 : Try.prog.cellsOf 44 = 1 := by kernel_rfl
  simp only [c0, c1, c2, List.drop_zero, List.drop_succ_cons, List.take_succ_cons, List.take_zero] at k0 k1 k2
  obtain ⟨n0, e0, _, w0⟩ := DataW.trod_int Try.underlying5 k0
  obtain ⟨n1, e1, _, w1⟩ := DataW.trod_int Try.underlying3 k1
  obtain ⟨A, ops, cap, e2, h3, h4, h5⟩ := trod_ops k2
  simp only [List.cons.injEq, and_true] at e0 e1 e2
  subst e0 e1 e2
  exact ⟨n0, n1, A, ops, cap, rfl, bounds_u8 w0, bounds_i64 w1, h3, h4, h5⟩
end
end Go.Proofs.Ytekgjjanikicnaa.Sx
