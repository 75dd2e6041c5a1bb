/- Lemmas of this proof, part 7: 2 texts joined. -/
import Derived.Test.YtekgjjanikicnaaDoorNoteBackLawB4
import Derived.Test.YtekgjjanikicnaaDoorNoteBackLawB6
import Derived.Test.YtekgjjanikicnaaDoorNoteBackLawB5
import Derived.Shelf.Vars
import Derived.HandedShaped
import Derived.Lay
namespace Go.Proofs.YtekgjjanikicnaaDoor.Sx
open Go Go.ChangeShapes Go.WideShapes Go.ChangeAt Go.RowKit
set_option maxRecDepth 100000
set_option linter.unusedVariables false
set_option linter.unusedSimpArgs false
theorem byte_of_wf {z : Int} (h : (Lit.int .u8 z).wf = true) : ∃ b : UInt8, Value.int .u8 z = bv b := by
  simp [Lit.wf, IntKind.min, IntKind.max, IntKind.signed, IntKind.bits] at h
  refine ⟨UInt8.ofNat z.toNat, ?_⟩
  simp only [bv]
  congr 1
  simp
  omega
section
variable {H : Type} {enc : TypeId × Value → H} {W : World}
/-- An array of bytes. -/
theorem trod_hash {P : Program} {t e : TypeId} {n base fuel : Nat} {sp : Nat → Bool} {held : Bool} {cs : List Value} {x : DataW H × List MemPlace} (ht : P.underlying t = some (.array n e)) (he : P.underlying e = some (.int .u8)) (hc : P.cellsOf e = 1) (hct : P.cellsOf t = n)
    (h : DataW.trod enc P W base sp held fuel t cs = some x) : ∃ bs : List UInt8, bs.length = n ∧ cs = bs.map bv := by
  obtain ⟨h1, h2⟩ := trod_part ht h
  rw [hct] at h1
  obtain ⟨bs, g1, g2⟩ := choose_list (p := fun i (b : UInt8) => cs[i]? = some (bv b)) n fun i hi => by
    obtain ⟨f, y, k⟩ := h2 i hi
    rw [hc, Nat.mul_one] at k
    obtain ⟨z, e1, _, e2⟩ := DataW.trod_int he k
    obtain ⟨b, hb⟩ := byte_of_wf e2
    refine ⟨b, ?_⟩
    have := congrArg (·[0]?) e1
    simp only [List.getElem?_take, List.getElem?_drop] at this
    simpa [hb] using this
  refine ⟨bs, g1, List.ext_getElem? fun i => ?_⟩
  by_cases hi : i < n
  · rw [List.getElem?_map, g2 i _ (List.getElem?_eq_getElem (by omega)), List.getElem?_eq_getElem (by omega)]; rfl
  · rw [List.getElem?_eq_none (by omega), List.getElem?_eq_none (by simp; omega)]
theorem open_head2 {r : Reach} {b0 : Nat} {v : Value} {d : DataW H} {ps : List MemPlace} {base : Nat} {sp : Nat → Bool} {held : Bool}
    (hval : Value.okWide Tryd.prog W r b0 47 v) (hd : DataW.Trod enc Tryd.prog W base sp held 47 v d ps) : ∃ x : Hd, v = x.v ∧ x.Fit ∧ x.org.size ≤ maxLen := by
  obtain ⟨fuel, cs, rfl, hf⟩ := open_agg (.inl ⟨_, Tryd.underlying47⟩) hval hd
  obtain ⟨h1, h2⟩ := trod_field Tryd.underlying47 hf
  have hc : Tryd.prog.cellsOf 47 = 34 := by kernel_rfl
  have c9 : Tryd.prog.cellsOf 9 = 1 := by kernel_rfl
  have c3 : Tryd.prog.cellsOf 3 = 1 := by kernel_rfl
  have c5 : Tryd.prog.cellsOf 5 = 1 := by kernel_rfl
  have ch : Tryd.prog.cellsOf 45 = 32 := by kernel_rfl
  rw [hc] at h1
  obtain ⟨f0, y0, k0⟩ : ∃ fu y, DataW.trod enc Tryd.prog W base sp held fu 9 (List.take (Tryd.prog.cellsOf 9) (List.drop 0 cs)) = some y := h2 0 _ rfl
  obtain ⟨f1, y1, k1⟩ : ∃ fu y, DataW.trod enc Tryd.prog W base sp held fu 3 (List.take (Tryd.prog.cellsOf 3) (List.drop 1 cs)) = some y := h2 1 _ rfl
  obtain ⟨f2, y2, k2⟩ : ∃ fu y, DataW.trod enc Tryd.prog W base sp held fu 45 (List.take (Tryd.prog.cellsOf 45) (List.drop 2 cs)) = some y := h2 2 _ rfl
  rw [c9] at k0
  rw [c3] at k1
  rw [ch] at k2
  obtain ⟨s, e0, _, m0⟩ := DataW.trod_string Tryd.underlying9 k0
  obtain ⟨n, e1, _, m1⟩ := DataW.trod_int Tryd.underlying3 k1
  obtain ⟨bs, m2, e2⟩ := trod_hash Tryd.underlying45 Tryd.underlying5 c5 ch k2
  refine ⟨⟨s, n, bs⟩, ?_, ⟨m2, ?_, by unfold maxLen at m0; simp only; omega⟩, m0⟩
  · match cs, h1, e0, e1, e2 with
    | a :: b :: r, h1, e0, e1, e2 =>
      simp only [List.length_cons] at h1
      simp only [List.drop_zero, List.take_succ_cons, List.take_zero, List.cons.injEq, and_true, List.drop_succ_cons] at e0 e1 e2
      rw [List.take_of_length_le (by omega)] at e2
      subst e0 e1 e2
      rfl
  · simp [Lit.wf, IntKind.min, IntKind.max, IntKind.signed, IntKind.bits] at m1
    simp only; omega
theorem open_head {r : Reach} {b0 : Nat} {v : Value} {d : DataW H} {ps : List MemPlace} {base : Nat} {sp : Nat → Bool} {held : Bool}
    (hval : Value.okWide Tryd.prog W r b0 47 v) (hd : DataW.Trod enc Tryd.prog W base sp held 47 v d ps) : ∃ x : Hd, v = x.v ∧ x.Fit :=
  let ⟨x, h1, h2, _⟩ := open_head2 hval hd
  ⟨x, h1, h2⟩
theorem trod_sg {base fuel : Nat} {sp : Nat → Bool} {held : Bool} {cs : List Value} {y : DataW H × List MemPlace} (h : DataW.trod enc Tryd.prog W base sp held fuel 106 cs = some y) : ∃ s : Sg, cs = s.cells ∧ s.Fit [oldFact W] := by
  obtain ⟨h1, h2⟩ := trod_field Tryd.underlying106 h
  have hc : Tryd.prog.cellsOf 106 = 4 := by kernel_rfl
  have c9 : Tryd.prog.cellsOf 9 = 1 := by kernel_rfl
  have c5 : Tryd.prog.cellsOf 5 = 1 := by kernel_rfl
  have c7 : Tryd.prog.cellsOf 70 = 1 := by kernel_rfl
  have c6 : Tryd.prog.cellsOf 61 = 1 := by kernel_rfl
  rw [hc] at h1
  obtain ⟨f0, y0, k0⟩ : ∃ fu y, DataW.trod enc Tryd.prog W base sp held fu 9 (List.take (Tryd.prog.cellsOf 9) (List.drop 0 cs)) = some y := h2 0 _ rfl
  obtain ⟨f1, y1, k1⟩ : ∃ fu y, DataW.trod enc Tryd.prog W base sp held fu 5 (List.take (Tryd.prog.cellsOf 5) (List.drop 1 cs)) = some y := h2 1 _ rfl
  obtain ⟨f2, y2, k2⟩ : ∃ fu y, DataW.trod enc Tryd.prog W base sp held fu 70 (List.take (Tryd.prog.cellsOf 70) (List.drop 2 cs)) = some y := h2 2 _ rfl
  obtain ⟨f3, y3, k3⟩ : ∃ fu y, DataW.trod enc Tryd.prog W base sp held fu 61 (List.take (Tryd.prog.cellsOf 61) (List.drop 3 cs)) = some y := h2 3 _ rfl
  rw [c9] at k0
  rw [c5] at k1
  rw [c7] at k2
  rw [c6] at k3
  obtain ⟨s, e0, _, m0⟩ := DataW.trod_string Tryd.underlying9 k0
  obtain ⟨z, e1, _, m1⟩ := DataW.trod_int Tryd.underlying5 k1
  obtain ⟨n, e2, _, m2⟩ := DataW.trod_int Tryd.underlying70 k2
  obtain ⟨A, bs, cap, e3, m3, m4, hB⟩ := trod_bytes Tryd.underlying61 Tryd.underlying5 c5 k3
  obtain ⟨b, hb⟩ := byte_of_wf m1
  simp [Lit.wf, IntKind.min, IntKind.max, IntKind.signed, IntKind.bits] at m2
  unfold maxLen at m0 m4
  match cs, h1, e0, e1, e2, e3 with
  | [p, q, r, t], h1, e0, e1, e2, e3 =>
    simp only [List.drop_zero, List.take_succ_cons, List.take_zero, List.cons.injEq, and_true, List.drop_succ_cons] at e0 e1 e2 e3
    subst e0 e1 e2 e3
    refine ⟨⟨s, b, n.toNat, A, cap, bs⟩, ?_, ⟨by simp only; omega, by simp only; omega, hB, m3, by simp only; omega⟩⟩
    simp only [Sg.cells, hb]
    rw [Int.toNat_of_nonneg (by omega)]
theorem open_sigs {r : Reach} {b0 : Nat} {v : Value} {d : DataW H} {ps : List MemPlace} {base : Nat} {sp : Nat → Bool} {held : Bool}
    (hval : Value.okWide Tryd.prog W r b0 48 v) (hd : DataW.Trod enc Tryd.prog W base sp held 48 v d ps) : ∃ (A : Option Addr) (l : List Sg) (cap : Nat), v = .slice A l.length cap ∧ l.length ≤ cap ∧ cap ≤ maxLen ∧ SgsAt [oldFact W] A l := by
  obtain ⟨fuel, a, len, cap, rfl, h⟩ := open_slice Tryd.underlying48 hval hd
  obtain ⟨A, l, c, e, h1, h2, h3⟩ := trod_elems Tryd.underlying48 (by kernel_rfl : Tryd.prog.cellsOf 106 = 4) (Q := fun es => ∃ s : Sg, es = s.cells ∧ s.Fit [oldFact W]) h (fun _ _ _ h => trod_sg h)
  simp only [List.cons.injEq, and_true, Value.slice.injEq] at e
  obtain ⟨e1, e2, e3⟩ := e
  subst e1 e2 e3
  cases a with
  | none => obtain rfl := h3.1 rfl; exact ⟨none, [], cap, rfl, h1, h2, ⟨⟨fun _ => rfl, fun ad e => by cases e⟩, fun s hs => by cases hs⟩⟩
  | some ad =>
    obtain ⟨ops, g1, g2⟩ := choose_list (p := fun i (o : Sg) => o.Fit [oldFact W] ∧ ∀ j v, o.cells[j]? = some v → FC [oldFact W] (ad.add (i * 4 + j)) v) len fun i hi => by
      obtain ⟨es, _, ⟨o, rfl, ho⟩, h4⟩ := h3.2 ad rfl i hi
      exact ⟨o, ho, h4⟩
    subst g1
    refine ⟨some ad, ops, cap, rfl, h1, h2, ⟨⟨fun e => (by cases e), fun ad' e j y hj => ?_⟩, fun s hs => ?_⟩⟩
    · obtain rfl := Option.some.inj e
      obtain ⟨i, k, s, e1, e2, e3⟩ := sgRow_inv ops j y hj
      rw [e1]
      exact (g2 i s e2).2 k y e3
    · obtain ⟨i, hi⟩ := List.getElem?_of_mem hs
      exact (g2 i s hi).1
end
def laidN3 : List (String × DataW Unit) := [("math/bits.deBruijn32tab", Rows.laid_math_bits_deBruijn32tab), ("math/bits.deBruijn64tab", Rows.laid_math_bits_deBruijn64tab), ("internal/strconv.uint64pow10", Rows.laid_internal_strconv_uint64pow10)]
theorem door_metN3 (os : Os) (args : Array Value) : laidMetH Tryd.prog laidN3 ((World.doorLaid Tryd.prog 400 os).forCall (fun _ _ => 0) ⟨#[], args, []⟩).memory :=
  laidMetH_of_parts3 (fuel := 8) (laidMet_of_run' 8 (by kernel_rfl) (by kernel_rfl)) (by kernel_rfl) (by kernel_rfl)
theorem globN3 {W : World} (h : laidMetH Tryd.prog laidN3 W) : gTab.φ W := by
  rw [MakeChecks.laidMetH_plain _ _ _ (by kernel_rfl)] at h
  obtain ⟨c0, f0, p0, v0, d0⟩ := read_at h (n := "internal/strconv.uint64pow10") (d := Rows.laid_internal_strconv_uint64pow10) (by simp [laidN3]) gnTab gtTab
  have e0 := Lib.cells_of_tab (zs := Lib.pow10Tab) Tryd.underlying195 Tryd.underlying22 (by kernel_rfl) (by kernel_rfl) d0
  show W.var? _ _ = _
  rw [v0]
  congr 1
  rw [← e0]
theorem glob_oldN3 {W : World} (h : gTab.φ W) : ∀ f, f ∈ [gTab, oldFact W] → f.φ W ∧ ∀ k, f.G k → k < W.heap.size := by
  intro f hf
  rcases List.mem_cons.1 hf with rfl | hf
  · exact ⟨h, gTab_lt h⟩
  · obtain rfl := List.mem_singleton.1 hf
    exact ⟨fun k _ => rfl, fun k hk => hk⟩
end Go.Proofs.YtekgjjanikicnaaDoor.Sx

namespace Go.Proofs.YtekgjjanikicnaaDoor.Sx
open Go Go.ChangeShapes Go.WideShapes Go.ChangeAt Go.RowKit
set_option maxRecDepth 100000
set_option linter.unusedVariables false
set_option linter.unusedSimpArgs false
section
variable {H : Type} {enc : TypeId × Value → H}
theorem returns_and_shaped {a : Assume} {C : Checked} {os : Os} {f : FuncId} {fn : Func} {s : ChangeSpec} {conds : List PathCond} {apart fresh handsOn again : Bool} {X : World → Array Value → Prop}
    (hX : ∀ (w w' : World) (args : Array Value), w.heap = w'.heap → X w args → X w' args)
    (own : ownKnob C.prog.godebug = none) (started : os.Started) (noInit : C.prog.inits.idxOf? f = none) (hfn : C.prog.funcs[f]? = some fn)
    (witness : ∃ (w : World) (tape : Tape) (i : Input), w.os = os ∧ (w.forCall tape i).Shaped C.prog ∧ i.vars = [] ∧ Input.okWide C.prog (w.forCall tape i) .any w.heap.size f i ∧
      ((s.pre enc C.prog fn conds apart (w.forCall tape i).memory i.args ∧ X (w.forCall tape i).memory i.args) ∧ sizedMet enc C.prog fn (OpenSpec.ofChange s) apart (w.forCall tape i).memory i.args) ∧ a.holds C.prog (lone (Frame.enter C.prog f i.args .normal) [] (w.forCall tape i)))
    (contract : ∀ (W : World) (base : Nat) (args : Array Value) (ds gs : List (DataW H)) (before : List MemPlace),
      (∀ (j : Nat) t v, fn.params[j]? = some t → args[j]? = some v → Value.okWide C.prog W .any base t v) →
      DataW.Whole enc C.prog fn.params.toList s.vars apart W args.toList ds gs before →
      conds.all (PathCond.test C.prog ⟨fn.params.toList, ds, s.plain.varTypes C.prog, gs⟩) = true →
      (DataW.weightsEach C.prog (fn.params.toList ++ s.plain.varTypes C.prog) (ds ++ gs)).all (· ≤ reachBytes) = true → X W args → W.ShapedOpen C.prog →
      a.holds C.prog (lone (Frame.enter C.prog f args .normal) [] W) →
      Calls C.prog f args W fun e W' => ∃ v, e = .returned v ∧ s.post enc C.prog fn apart fresh handsOn again W args v W') :
    ReturnsInHanded a C os f .any (fun w args => (s.pre enc C.prog fn conds apart w args ∧ X w args) ∧ sizedMet enc C.prog fn (OpenSpec.ofChange s) apart w args) (s.post enc C.prog fn apart fresh handsOn again) := by
  refine returnsInHanded_of_calls own started noInit witness ?_
  intro w tape i _ hsh _ hok hpre hholds
  obtain ⟨_, _, _, fn', hfn', _, _, _, _, hval⟩ := hok
  have e : fn' = fn := Option.some.inj (hfn'.symm.trans hfn)
  subst e
  obtain ⟨⟨⟨ds, gs, before, hw, hc⟩, hx⟩, hz⟩ := hpre
  have hw' := DataW.Whole.of_heap (w' := w.forCall tape i) (by rfl) hw
  refine (contract (w.forCall tape i) w.heap.size i.args ds gs before hval hw' hc (hz.weights hw) (hX _ _ _ (by rfl) hx) hsh hholds).mono fun e W' ⟨v, he, hp⟩ => ?_
  subst he
  exact ChangeSpec.post_blind hp
end
theorem gMax_of {W : World} (h : W.ShapedOpen Tryd.prog) : gMax.φ W :=
  cell_of_shapedOpen_int (g := 8) (t := 3) (zero := #[.int .i64 0]) (k := .i64) h (Nat.le_of_ble_eq_true (n := 8 + 1) (by kernel_rfl)) (by kernel_rfl) rfl (by kernel_rfl) (by kernel_rfl) Tryd.underlying3
def laid7 : List (String × DataW Unit) := [("math/bits.deBruijn32tab", Rows.laid_math_bits_deBruijn32tab), ("math/bits.deBruijn64tab", Rows.laid_math_bits_deBruijn64tab), ("internal/strconv.uint64pow10", Rows.laid_internal_strconv_uint64pow10), ("unicode/utf8.acceptRanges", Rows.laid_unicode_utf8_acceptRanges), ("strconv.ErrRange", Rows.laid_strconv_ErrRange), ("strconv.ErrSyntax", Rows.laid_strconv_ErrSyntax), ("unicode/utf8.first", Rows.laid_unicode_utf8_first)]
theorem door_met7 (os : Os) (args : Array Value) : laidMetH Tryd.prog laid7 ((World.laidAll Tryd.prog os laid7).forCall (fun _ _ => 0) ⟨#[], args, []⟩).memory := by
  rw [MakeChecks.laidMetH_plain _ _ _ (by kernel_rfl)]
  exact laidMet_laidAll args (by kernel_rfl) (by kernel_rfl)
theorem glob7 {W : World} (h : laidMetH Tryd.prog laid7 W) : gTab.φ W ∧ gErr.φ W := by
  rw [MakeChecks.laidMetH_plain _ _ _ (by kernel_rfl)] at h
  obtain ⟨c0, f0, p0, v0, d0⟩ := read_at h (n := "internal/strconv.uint64pow10") (d := Rows.laid_internal_strconv_uint64pow10) (by simp [laid7]) gnTab gtTab
  obtain ⟨c1, f1, p1, v1, d1⟩ := read_at h (n := "strconv.ErrSyntax") (d := Rows.laid_strconv_ErrSyntax) (by simp [laid7]) gnErS gtErS
  obtain ⟨c2, f2, p2, v2, d2⟩ := read_at h (n := "strconv.ErrRange") (d := Rows.laid_strconv_ErrRange) (by simp [laid7]) gnErR gtErR
  have e0 := Lib.cells_of_tab (zs := Lib.pow10Tab) Tryd.underlying195 Tryd.underlying22 (by kernel_rfl) (by kernel_rfl) d0
  refine ⟨?_, ?_⟩
  · show W.var? _ _ = _
    rw [v0]
    congr 1
    rw [← e0]
  · have cell : ∀ {name : String} {g : Nat} {c : Array Value} {x : DataW Unit × List MemPlace} {f : Nat}, Tryd.prog.globalNamed name = some g → W.var? Tryd.prog name = some c → DataW.trod (fun _ => ()) Tryd.prog W 0 (fun _ => true) false f 120 c.toList = some x →
        ∃ ev, W.cell? ⟨g, 0, none⟩ = some ev ∧ (ev = .nilIface ∨ ∃ te pe, ev = .iface te pe) := by
      intro name g c x f hg hv hd
      obtain ⟨v, e, hv2⟩ := iface_cell Tryd.underlying120 hd
      exact ⟨v, var_cells (vs := [v]) hg hv (fun j y hj => by rw [e]; exact hj) 0 _ rfl, hv2⟩
    rintro g (rfl | rfl)
    · exact cell gnErS v1 d1
    · exact cell gnErR v2 d2
theorem glob_old7 {W : World} (h : (gTab.φ W ∧ gErr.φ W) ∧ gMax.φ W) : ∀ f, f ∈ [gTab, gErr, gMax, oldFact W] → f.φ W ∧ ∀ k, f.G k → k < W.heap.size := by
  intro f hf
  rcases List.mem_cons.1 hf with rfl | hf
  · exact ⟨h.1.1, gTab_lt h.1.1⟩
  rcases List.mem_cons.1 hf with rfl | hf
  · exact ⟨h.1.2, gErr_lt h.1.2⟩
  rcases List.mem_cons.1 hf with rfl | hf
  · refine ⟨h.2, fun k hk => ?_⟩
    obtain ⟨m, hm⟩ := h.2
    have : k = 8 := hk
    subst this
    exact World.block_lt_of_cell? W _ hm
  · obtain rfl := List.mem_singleton.1 hf
    exact ⟨fun k _ => rfl, fun k hk => hk⟩
end Go.Proofs.YtekgjjanikicnaaDoor.Sx
