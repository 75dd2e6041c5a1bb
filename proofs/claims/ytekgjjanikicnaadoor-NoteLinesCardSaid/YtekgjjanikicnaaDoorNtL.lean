/- What the note laws are handed, opened: heads, signatures; the tables that their rows list. -/
import Derived.Test.YtekgjjanikicnaaDoorNt3
import Derived.Test.YtekgjjanikicnaaDoorGuL
namespace Go.Proofs.YtekgjjanikicnaaDoor.Sx
open Go Go.ChangeShapes Go.WideShapes Go.ChangeAt Go.RowKit
set_option maxRecDepth 100000
set_option linter.unusedVariables false
set_option linter.unusedSimpArgs false
theorem byte_of_wf {z : Int} (h : (Lit.int .u8 z).wf = true) : ∃ b : UInt8, Value.int .u8 z = bv b := by
  simp [Lit.wf, IntKind.min, IntKind.max, IntKind.signed, IntKind.bits] at h
  refine ⟨UInt8.ofNat z.toNat, ?_⟩
  simp only [bv]
  congr 1
  simp
  omega
section
variable {H : Type} {enc : TypeId × Value → H} {W : World}
/-- An array of bytes. -/
theorem trod_hash {P : Program} {t e : TypeId} {n base fuel : Nat} {sp : Nat → Bool} {held : Bool} {cs : List Value} {x : DataW H × List MemPlace} (ht : P.underlying t = some (.array n e)) (he : P.underlying e = some (.int .u8)) (hc : P.cellsOf e = 1) (hct : P.cellsOf t = n)
    (h : DataW.trod enc P W base sp held fuel t cs = some x) : ∃ bs : List UInt8, bs.length = n ∧ cs = bs.map bv := by
  obtain ⟨h1, h2⟩ := trod_part ht h
  rw [hct] at h1
  obtain ⟨bs, g1, g2⟩ := choose_list (p := fun i (b : UInt8) => cs[i]? = some (bv b)) n fun i hi => by
    obtain ⟨f, y, k⟩ := h2 i hi
    rw [hc, Nat.mul_one] at k
    obtain ⟨z, e1, _, e2⟩ := DataW.trod_int he k
    obtain ⟨b, hb⟩ := byte_of_wf e2
    refine ⟨b, ?_⟩
    have := congrArg (·[0]?) e1
    simp only [List.getElem?_take, List.getElem?_drop] at this
    simpa [hb] using this
  refine ⟨bs, g1, List.ext_getElem? fun i => ?_⟩
  by_cases hi : i < n
  · rw [List.getElem?_map, g2 i _ (List.getElem?_eq_getElem (by omega)), List.getElem?_eq_getElem (by omega)]; rfl
  · rw [List.getElem?_eq_none (by omega), List.getElem?_eq_none (by simp; omega)]
theorem open_head {r : Reach} {b0 : Nat} {v : Value} {d : DataW H} {ps : List MemPlace} {base : Nat} {sp : Nat → Bool} {held : Bool}
    (hval : Value.okWide Tryd.prog W r b0 47 v) (hd : DataW.Trod enc Tryd.prog W base sp held 47 v d ps) : ∃ x : Hd, v = x.v ∧ x.Fit := by
  obtain ⟨fuel, cs, rfl, hf⟩ := open_agg (.inl ⟨_, Tryd.underlying47⟩) hval hd
  obtain ⟨h1, h2⟩ := trod_field Tryd.underlying47 hf
  have hc : Tryd.prog.cellsOf 47 = 34 := by kernel_rfl
  have c9 : Tryd.prog.cellsOf 9 = 1 := by kernel_rfl
  have c3 : Tryd.prog.cellsOf 3 = 1 := by kernel_rfl
  have c5 : Tryd.prog.cellsOf 5 = 1 := by kernel_rfl
  have ch : Tryd.prog.cellsOf 45 = 32 := by kernel_rfl
  rw [hc] at h1
  obtain ⟨f0, y0, k0⟩ : ∃ fu y, DataW.trod enc Tryd.prog W base sp held fu 9 (List.take (Tryd.prog.cellsOf 9) (List.drop 0 cs)) = some y := h2 0 _ rfl
  obtain ⟨f1, y1, k1⟩ : ∃ fu y, DataW.trod enc Tryd.prog W base sp held fu 3 (List.take (Tryd.prog.cellsOf 3) (List.drop 1 cs)) = some y := h2 1 _ rfl
  obtain ⟨f2, y2, k2⟩ : ∃ fu y, DataW.trod enc Tryd.prog W base sp held fu 45 (List.take (Tryd.prog.cellsOf 45) (List.drop 2 cs)) = some y := h2 2 _ rfl
  rw [c9] at k0
  rw [c3] at k1
  rw [ch] at k2
  obtain ⟨s, e0, _, m0⟩ := DataW.trod_string Tryd.underlying9 k0
  obtain ⟨n, e1, _, m1⟩ := DataW.trod_int Tryd.underlying3 k1
  obtain ⟨bs, m2, e2⟩ := trod_hash Tryd.underlying45 Tryd.underlying5 c5 ch k2
  refine ⟨⟨s, n, bs⟩, ?_, ⟨m2, ?_, by unfold maxLen at m0; simp only; omega⟩⟩
  · match cs, h1, e0, e1, e2 with
    | a :: b :: r, h1, e0, e1, e2 =>
      simp only [List.length_cons] at h1
      simp only [List.drop_zero, List.take_succ_cons, List.take_zero, List.cons.injEq, and_true, List.drop_succ_cons] at e0 e1 e2
      rw [List.take_of_length_le (by omega)] at e2
      subst e0 e1 e2
      rfl
  · simp [Lit.wf, IntKind.min, IntKind.max, IntKind.signed, IntKind.bits] at m1
    simp only; omega
theorem trod_sg {base fuel : Nat} {sp : Nat → Bool} {held : Bool} {cs : List Value} {y : DataW H × List MemPlace} (h : DataW.trod enc Tryd.prog W base sp held fuel 106 cs = some y) : ∃ s : Sg, cs = s.cells ∧ s.Fit [oldFact W] := by
  obtain ⟨h1, h2⟩ := trod_field Tryd.underlying106 h
  have hc : Tryd.prog.cellsOf 106 = 4 := by kernel_rfl
  have c9 : Tryd.prog.cellsOf 9 = 1 := by kernel_rfl
  have c5 : Tryd.prog.cellsOf 5 = 1 := by kernel_rfl
  have c7 : Tryd.prog.cellsOf 70 = 1 := by kernel_rfl
  have c6 : Tryd.prog.cellsOf 61 = 1 := by kernel_rfl
  rw [hc] at h1
  obtain ⟨f0, y0, k0⟩ : ∃ fu y, DataW.trod enc Tryd.prog W base sp held fu 9 (List.take (Tryd.prog.cellsOf 9) (List.drop 0 cs)) = some y := h2 0 _ rfl
  obtain ⟨f1, y1, k1⟩ : ∃ fu y, DataW.trod enc Tryd.prog W base sp held fu 5 (List.take (Tryd.prog.cellsOf 5) (List.drop 1 cs)) = some y := h2 1 _ rfl
  obtain ⟨f2, y2, k2⟩ : ∃ fu y, DataW.trod enc Tryd.prog W base sp held fu 70 (List.take (Tryd.prog.cellsOf 70) (List.drop 2 cs)) = some y := h2 2 _ rfl
  obtain ⟨f3, y3, k3⟩ : ∃ fu y, DataW.trod enc Tryd.prog W base sp held fu 61 (List.take (Tryd.prog.cellsOf 61) (List.drop 3 cs)) = some y := h2 3 _ rfl
  rw [c9] at k0
  rw [c5] at k1
  rw [c7] at k2
  rw [c6] at k3
  obtain ⟨s, e0, _, m0⟩ := DataW.trod_string Tryd.underlying9 k0
  obtain ⟨z, e1, _, m1⟩ := DataW.trod_int Tryd.underlying5 k1
  obtain ⟨n, e2, _, m2⟩ := DataW.trod_int Tryd.underlying70 k2
  obtain ⟨A, bs, cap, e3, m3, m4, hB⟩ := trod_bytes Tryd.underlying61 Tryd.underlying5 c5 k3
  obtain ⟨b, hb⟩ := byte_of_wf m1
  simp [Lit.wf, IntKind.min, IntKind.max, IntKind.signed, IntKind.bits] at m2
  unfold maxLen at m0 m4
  match cs, h1, e0, e1, e2, e3 with
  | [p, q, r, t], h1, e0, e1, e2, e3 =>
    simp only [List.drop_zero, List.take_succ_cons, List.take_zero, List.cons.injEq, and_true, List.drop_succ_cons] at e0 e1 e2 e3
    subst e0 e1 e2 e3
    refine ⟨⟨s, b, n.toNat, A, cap, bs⟩, ?_, ⟨by simp only; omega, by simp only; omega, hB, m3, by simp only; omega⟩⟩
    simp only [Sg.cells, hb]
    rw [Int.toNat_of_nonneg (by omega)]
theorem open_sigs {r : Reach} {b0 : Nat} {v : Value} {d : DataW H} {ps : List MemPlace} {base : Nat} {sp : Nat → Bool} {held : Bool}
    (hval : Value.okWide Tryd.prog W r b0 48 v) (hd : DataW.Trod enc Tryd.prog W base sp held 48 v d ps) : ∃ (A : Option Addr) (l : List Sg) (cap : Nat), v = .slice A l.length cap ∧ l.length ≤ cap ∧ cap ≤ maxLen ∧ SgsAt [oldFact W] A l := by
  obtain ⟨fuel, a, len, cap, rfl, h⟩ := open_slice Tryd.underlying48 hval hd
  obtain ⟨A, l, c, e, h1, h2, h3⟩ := trod_elems Tryd.underlying48 (by kernel_rfl : Tryd.prog.cellsOf 106 = 4) (Q := fun es => ∃ s : Sg, es = s.cells ∧ s.Fit [oldFact W]) h (fun _ _ _ h => trod_sg h)
  simp only [List.cons.injEq, and_true, Value.slice.injEq] at e
  obtain ⟨e1, e2, e3⟩ := e
  subst e1 e2 e3
  cases a with
  | none => obtain rfl := h3.1 rfl; exact ⟨none, [], cap, rfl, h1, h2, ⟨⟨fun _ => rfl, fun ad e => by cases e⟩, fun s hs => by cases hs⟩⟩
  | some ad =>
    obtain ⟨ops, g1, g2⟩ := choose_list (p := fun i (o : Sg) => o.Fit [oldFact W] ∧ ∀ j v, o.cells[j]? = some v → FC [oldFact W] (ad.add (i * 4 + j)) v) len fun i hi => by
      obtain ⟨es, _, ⟨o, rfl, ho⟩, h4⟩ := h3.2 ad rfl i hi
      exact ⟨o, ho, h4⟩
    subst g1
    refine ⟨some ad, ops, cap, rfl, h1, h2, ⟨⟨fun e => (by cases e), fun ad' e j y hj => ?_⟩, fun s hs => ?_⟩⟩
    · obtain rfl := Option.some.inj e
      obtain ⟨i, k, s, e1, e2, e3⟩ := sgRow_inv ops j y hj
      rw [e1]
      exact (g2 i s e2).2 k y e3
    · obtain ⟨i, hi⟩ := List.getElem?_of_mem hs
      exact (g2 i s hi).1
end
def laidN3 : List (String × DataW Unit) := [("math/bits.deBruijn32tab", Rows.laid_math_bits_deBruijn32tab), ("math/bits.deBruijn64tab", Rows.laid_math_bits_deBruijn64tab), ("internal/strconv.uint64pow10", Rows.laid_internal_strconv_uint64pow10)]
theorem door_metN3 (os : Os) (args : Array Value) : laidMetH Tryd.prog laidN3 ((World.doorLaid Tryd.prog 400 os).forCall (fun _ _ => 0) ⟨#[], args, []⟩).memory :=
  laidMetH_of_parts3 (fuel := 8) (laidMet_of_run' 8 (by kernel_rfl) (by kernel_rfl)) (by kernel_rfl) (by kernel_rfl)
theorem globN3 {W : World} (h : laidMetH Tryd.prog laidN3 W) : gTab.φ W := by
  rw [MakeChecks.laidMetH_plain _ _ _ (by kernel_rfl)] at h
  obtain ⟨c0, f0, p0, v0, d0⟩ := read_at h (n := "internal/strconv.uint64pow10") (d := Rows.laid_internal_strconv_uint64pow10) (by simp [laidN3]) gnTab gtTab
  have e0 := Lib.cells_of_tab (zs := Lib.pow10Tab) Tryd.underlying195 Tryd.underlying22 (by kernel_rfl) (by kernel_rfl) d0
  show W.var? _ _ = _
  rw [v0]
  congr 1
  rw [← e0]
theorem glob_oldN3 {W : World} (h : gTab.φ W) : ∀ f, f ∈ [gTab, oldFact W] → f.φ W ∧ ∀ k, f.G k → k < W.heap.size := by
  intro f hf
  rcases List.mem_cons.1 hf with rfl | hf
  · exact ⟨h, gTab_lt h⟩
  · obtain rfl := List.mem_singleton.1 hf
    exact ⟨fun k _ => rfl, fun k hk => hk⟩
end Go.Proofs.YtekgjjanikicnaaDoor.Sx
