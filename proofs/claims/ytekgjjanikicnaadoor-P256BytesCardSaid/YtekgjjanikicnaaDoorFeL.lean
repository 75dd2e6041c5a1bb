/- Closed facts of the program that every law's row asks for, each once. -/
import Derived.Test.YtekgjjanikicnaaDoorFeJ
import Derived.Test.YtekgjjanikicnaaDoorRows
import Derived.JoinedOf
namespace Go.Proofs.YtekgjjanikicnaaDoor.Sx
open Go Go.Proofs.YtekgjjanikicnaaDoor Go.RowKit
set_option linter.unusedVariables false
theorem pMayEnter : Tryd.prog.mayEnter = true := by kernel_rfl
theorem pLifts : Tryd.prog.liftsFinal = Rows.p256AddsRow.lifted := by kernel_rfl
theorem pLaidOut : laidOutB Tryd.prog = true := by kernel_rfl
theorem pMapsRowed : mapsRowed Tryd.prog = true := by kernel_rfl
theorem pPlainKeys : Tryd.prog.plainKeys = true := by kernel_rfl
theorem pStopsHeard : Tryd.prog.stopsHeard = true := by kernel_rfl
theorem pSlices : ((List.range Tryd.prog.types.size).all fun t => match Tryd.prog.underlying t with | some (.slice e) => decide (0 < Tryd.prog.cellsOf e) | _ => true) = true := by kernel_rfl
theorem pOwn : ownKnob Tryd.prog.godebug = none := by kernel_rfl
/-- What a row asks of its own function. -/
def joinedRest (P : Program) (f : FuncId) (fn : Func) (s : ChangeSpec) (c : OpenClaim) : Bool :=
  c.wf (OpenSpec.ofChange s) &&
  fn.params.all (P.readableRec ·) && namedTie P c.named s.vars &&
  (c.stops == []) && (P.stops == []) && (c.knobs == []) && (P.stopKnobs == []) &&
  (c.inPlace == P.inPlace f) && (c.unfollowed == P.unfollowed f) && (c.recurses == P.recurses f) && (c.named == P.varsNamed f) &&
  (c.maps == (fn.params.toList ++ s.plain.varTypes P).any (P.mapsRec ·)) && (c.ifaces == (fn.params.toList ++ s.plain.varTypes P).any (P.ifacesRec ·)) && (c.mapsOut == P.mapsAmong fn.resultTypes.toList) &&
  (c.loops == (fn.params.toList ++ s.plain.varTypes P).any (P.loopsFrom ·)) && (c.wideKeys == (fn.params.toList ++ s.plain.varTypes P ++ fn.resultTypes.toList).any (P.wideKeysFrom ·)) &&
  s.vars.all (P.varReadable ·) && fn.resultTypes.all (fun t => P.readableRec t && decide (t < P.types.size)) && (c.ifacesOut == fn.resultTypes.toList.any (P.ifacesRec ·)) && (c.loopsOut == fn.resultTypes.toList.any (P.loopsFrom ·)) && c.plainKeys && c.shortTexts.isNone && (P.make == some c.make) && (c.kinds == (if c.domain.isEmpty then [] else fn.params.toList.map fun t => match P.underlying t with | some (.int k) => some k | _ => none)) && (c.pinned == c.pinnedBy) &&
  (c.veiled == (fn.params.toList ++ s.plain.varTypes P ++ fn.resultTypes.toList).any (P.veiledRec ·)) && c.veiledFits P fn.params.toList (fn.params.toList ++ s.plain.varTypes P ++ fn.resultTypes.toList)
theorem joined_of {f : FuncId} {fn : Func} {s : ChangeSpec} {c : OpenClaim} (hl : c.lifted = Rows.p256AddsRow.lifted) (h : joinedRest Tryd.prog f fn s c = true) : joinedFacts Tryd.prog f fn s c = true := by
  have h1 := pMayEnter
  have h2 := pLifts
  have h3 := pLaidOut
  have h4 := pMapsRowed
  have h5 := pPlainKeys
  have h6 := pStopsHeard
  generalize Tryd.prog = P at *
  unfold joinedRest at h
  unfold joinedFacts
  simp only [Bool.and_eq_true] at h ⊢
  obtain ⟨⟨⟨⟨⟨⟨⟨⟨⟨⟨⟨⟨⟨⟨⟨⟨⟨⟨⟨⟨⟨⟨⟨⟨⟨⟨k1, k2⟩, k3⟩, k4⟩, k5⟩, k6⟩, k7⟩, k8⟩, k9⟩, k10⟩, k11⟩, k12⟩, k13⟩, k14⟩, k15⟩, k16⟩, k17⟩, k18⟩, k19⟩, k20⟩, k21⟩, k22⟩, k23⟩, k24⟩, k25⟩, k26⟩, k27⟩ := h
  exact ⟨⟨⟨⟨⟨⟨⟨⟨⟨⟨⟨⟨⟨⟨⟨⟨⟨⟨⟨⟨⟨⟨⟨⟨⟨⟨⟨⟨⟨⟨⟨k1, h3⟩, h4⟩, k2⟩, k3⟩, k4⟩, k5⟩, k6⟩, k7⟩, k8⟩, k9⟩, k10⟩, k11⟩, k12⟩, k13⟩, k14⟩, k15⟩, k16⟩, k17⟩, k18⟩, k19⟩, k20⟩, by rw [h5]; exact beq_iff_eq.2 k21⟩, k22⟩, h6⟩, h1⟩, by rw [h2, hl]; exact beq_self_eq_true _⟩, k23⟩, k24⟩, k25⟩, k26⟩, k27⟩
end Go.Proofs.YtekgjjanikicnaaDoor.Sx
namespace Go.Proofs.YtekgjjanikicnaaDoor.Sx
open Go Go.Proofs.YtekgjjanikicnaaDoor Go.RowKit
def laid3 : List (String × DataW Unit) := [("chronicle/field.moduli", Rows.laid_chronicle_field_moduli), ("chronicle/p256.b", Rows.laid_chronicle_p256_b), ("chronicle/p256.one", Rows.laid_chronicle_p256_one)]
theorem door_met3 (os : Os) (args : Array Value) : laidMetH Tryd.prog laid3 ((World.doorLaid Tryd.prog 109 os).forCall (fun _ _ => 0) ⟨#[], args, []⟩).memory :=
  laidMetH_of_parts3 (fuel := 8) (laidMet_of_run' 8 (by kernel_rfl) (by kernel_rfl)) (by kernel_rfl) (by kernel_rfl)
theorem glob3 {W : World} (h : laidMetH Tryd.prog laid3 W) : glob.φ W ∧ glob1.φ W := ⟨glob_of_laid h (by kernel_rfl) (by simp [laid3]) (by simp [laid3]), glob1_of_laid h (by kernel_rfl) (by simp [laid3])⟩
def laid2 : List (String × DataW Unit) := [("chronicle/field.moduli", Rows.laid_chronicle_field_moduli), ("chronicle/p256.b", Rows.laid_chronicle_p256_b)]
theorem door_met2 (os : Os) (args : Array Value) : laidMetH Tryd.prog laid2 ((World.doorLaid Tryd.prog 109 os).forCall (fun _ _ => 0) ⟨#[], args, []⟩).memory :=
  laidMetH_of_parts3 (fuel := 8) (laidMet_of_run' 8 (by kernel_rfl) (by kernel_rfl)) (by kernel_rfl) (by kernel_rfl)
theorem glob2 {W : World} (h : laidMetH Tryd.prog laid2 W) : glob.φ W := glob_of_laid h (by kernel_rfl) (by simp [laid2]) (by simp [laid2])
end Go.Proofs.YtekgjjanikicnaaDoor.Sx
