/- Closed facts of the program that every law's row asks for, each once; variables that a row lists, opened. -/
import Derived.Test.YtekgjjanikicnaaDoorSxL
import Derived.Test.YtekgjjanikicnaaDoorSxO
import Derived.Test.YtekgjjanikicnaaDoorRows
import Derived.LaidLaws
import Derived.LaidHandle
import Derived.LaidMore
import Derived.MakeChecks
import Derived.Lib.LaidTab
import Derived.Lib.LaidU8
import Derived.OpenShut
import Derived.JoinedOf
import Derived.Stop.Joined
namespace Go.Proofs.YtekgjjanikicnaaDoor.Sx
open Go Go.Proofs.YtekgjjanikicnaaDoor Go.RowKit
set_option linter.unusedVariables false
theorem pMayEnter : Tryd.prog.mayEnter = true := by kernel_rfl
theorem pLifts : Tryd.prog.liftsFinal = Rows.p256AddsRow.lifted := by kernel_rfl
theorem pLaidOut : laidOutB Tryd.prog = true := by kernel_rfl
theorem pMapsRowed : mapsRowed Tryd.prog = true := by kernel_rfl
theorem pPlainKeys : Tryd.prog.plainKeys = true := by kernel_rfl
theorem pStopsHeard : Tryd.prog.stopsHeard = true := by kernel_rfl
theorem pSlices : ((List.range Tryd.prog.types.size).all fun t => match Tryd.prog.underlying t with | some (.slice e) => decide (0 < Tryd.prog.cellsOf e) | _ => true) = true := by kernel_rfl
theorem pOwn : ownKnob Tryd.prog.godebug = none := by kernel_rfl
/-- What a row asks of its own function. -/
def joinedRest (P : Program) (f : FuncId) (fn : Func) (s : ChangeSpec) (c : OpenClaim) : Bool :=
  c.wf (OpenSpec.ofChange s) &&
  fn.params.all (P.readableRec ·) && namedTie P c.named s.vars &&
  (c.stops == []) && (P.stops == []) && (c.knobs == []) && (P.stopKnobs == []) &&
  (c.inPlace == P.inPlace f) && (c.unfollowed == P.unfollowed f) && (c.recurses == P.recurses f) && (c.named == P.varsNamed f) &&
  (c.maps == (fn.params.toList ++ s.plain.varTypes P).any (P.mapsRec ·)) && (c.ifaces == (fn.params.toList ++ s.plain.varTypes P).any (P.ifacesRec ·)) && (c.mapsOut == P.mapsAmong fn.resultTypes.toList) &&
  (c.loops == (fn.params.toList ++ s.plain.varTypes P).any (P.loopsFrom ·)) && (c.wideKeys == (fn.params.toList ++ s.plain.varTypes P ++ fn.resultTypes.toList).any (P.wideKeysFrom ·)) &&
  s.vars.all (P.varReadable ·) && fn.resultTypes.all (fun t => P.readableRec t && decide (t < P.types.size)) && (c.ifacesOut == fn.resultTypes.toList.any (P.ifacesRec ·)) && (c.loopsOut == fn.resultTypes.toList.any (P.loopsFrom ·)) && c.plainKeys && c.shortTexts.isNone && (P.make == some c.make) && (c.kinds == (if c.domain.isEmpty then [] else fn.params.toList.map fun t => match P.underlying t with | some (.int k) => some k | _ => none)) && (c.pinned == c.pinnedBy) &&
  (c.veiled == (fn.params.toList ++ s.plain.varTypes P ++ fn.resultTypes.toList).any (P.veiledRec ·)) && c.veiledFits P fn.params.toList (fn.params.toList ++ s.plain.varTypes P ++ fn.resultTypes.toList)
theorem joined_of {f : FuncId} {fn : Func} {s : ChangeSpec} {c : OpenClaim} (hl : c.lifted = Rows.p256AddsRow.lifted) (h : joinedRest Tryd.prog f fn s c = true) : joinedFacts Tryd.prog f fn s c = true := by
  have h1 := pMayEnter
  have h2 := pLifts
  have h3 := pLaidOut
  have h4 := pMapsRowed
  have h5 := pPlainKeys
  have h6 := pStopsHeard
  generalize Tryd.prog = P at *
  unfold joinedRest at h
  unfold joinedFacts
  simp only [Bool.and_eq_true] at h ⊢
  obtain ⟨⟨⟨⟨⟨⟨⟨⟨⟨⟨⟨⟨⟨⟨⟨⟨⟨⟨⟨⟨⟨⟨⟨⟨⟨⟨k1, k2⟩, k3⟩, k4⟩, k5⟩, k6⟩, k7⟩, k8⟩, k9⟩, k10⟩, k11⟩, k12⟩, k13⟩, k14⟩, k15⟩, k16⟩, k17⟩, k18⟩, k19⟩, k20⟩, k21⟩, k22⟩, k23⟩, k24⟩, k25⟩, k26⟩, k27⟩ := h
  exact ⟨⟨⟨⟨⟨⟨⟨⟨⟨⟨⟨⟨⟨⟨⟨⟨⟨⟨⟨⟨⟨⟨⟨⟨⟨⟨⟨⟨⟨⟨⟨k1, h3⟩, h4⟩, k2⟩, k3⟩, k4⟩, k5⟩, k6⟩, k7⟩, k8⟩, k9⟩, k10⟩, k11⟩, k12⟩, k13⟩, k14⟩, k15⟩, k16⟩, k17⟩, k18⟩, k19⟩, k20⟩, by rw [h5]; exact beq_iff_eq.2 k21⟩, k22⟩, h6⟩, h1⟩, by rw [h2, hl]; exact beq_self_eq_true _⟩, k23⟩, k24⟩, k25⟩, k26⟩, k27⟩
theorem var_cells {W : World} {name : String} {g : Nat} {cs : Array Value} {vs : List Value} (hg : Tryd.prog.globalNamed name = some g) (hv : W.var? Tryd.prog name = some cs) (he : ∀ (j : Nat) (y : Value), vs[j]? = some y → cs.toList[j]? = some y) : ∀ (j : Nat) (y : Value), vs[j]? = some y → W.cell? ⟨g, j, none⟩ = some y := fun j y hj => by
  have h1 := World.var?_cell hg hv j
  rw [h1]
  have := he j y hj
  rwa [Array.getElem?_toList] at this
theorem read_at {W : World} {l : List (String × DataW Unit)} (h : laidMet Tryd.prog l W) {n : String} {d : DataW Unit} (hm : (n, d) ∈ l) {g t : Nat} (hg : Tryd.prog.globalNamed n = some g) (ht : (Tryd.prog.globals[g]?).map (·.type) = some t) :
    ∃ cs fuel p, W.var? Tryd.prog n = some cs ∧ DataW.trod (fun _ => ()) Tryd.prog W 0 (fun _ => true) false fuel t cs.toList = some (d, p) := by
  obtain ⟨g', t', cs, fuel, p, hg', ht', hv, hd⟩ := Lib.laidMet.reads h hm
  obtain rfl := Option.some.inj (hg.symm.trans hg')
  obtain rfl := Option.some.inj (ht.symm.trans ht')
  exact ⟨cs, fuel, p, hv, hd⟩
end Go.Proofs.YtekgjjanikicnaaDoor.Sx
namespace Go.Proofs.YtekgjjanikicnaaDoor.Sx
open Go Go.ChangeShapes Go.WideShapes Go.ChangeAt Go.RowKit
set_option maxRecDepth 100000
set_option linter.unusedVariables false
theorem Tri.callsF {P : Program} {n : Nat} {args : List SV} {W : World} {fx : List Fact} {post : SV → List (Nat × SObj) → Nat → List Fact → Prop} (hen : ∀ xs w, (callFunc n xs).run P w = .ok (.enter n xs) w) (T : Tri P n args [] 0 fx post) (hfx : ∀ f, f ∈ fx → f.φ W ∧ ∀ k, f.G k → k < W.heap.size) {vs : List Value} (hvs : ∀ ρ, denL ρ args = vs)
    {v : Value} (hv : ∀ y h m f, post y h m f → ∀ ρ, den ρ y = v) : Calls P n vs.toArray W fun e W' => e = .returned v ∧ Keeps (fun _ => False) W W' := by
  have h0 : HpOk id (fun _ _ => False) [] 0 fx W := by
    refine ⟨fun _ _ r o hm => (by cases hm), fun r o hm => (by cases hm), fun r o r' o' hm => (by cases hm), fun r o hm => (by cases hm), fun f hf => ?_⟩
    exact ⟨(hfx f hf).1, fun k hk => ⟨fun ⟨r, o, hm, _⟩ => (by cases hm), (hfx f hf).2 k hk⟩⟩
  have h1 := (T.run id (fun _ _ => False) W h0 (fun ρ' _ => by rw [hvs, hvs])).enters (hen _ _)
  rw [hvs] at h1
  refine h1.mono fun e w' ⟨y, h', m', fx', ρ', F', hp, he, hy, hh1, hag, hm, hk, ho, hf⟩ => ⟨?_, hk.mono fun k ⟨r, o, hm, _⟩ => by cases hm⟩
  rw [he, hv _ _ _ _ hp]
end Go.Proofs.YtekgjjanikicnaaDoor.Sx
