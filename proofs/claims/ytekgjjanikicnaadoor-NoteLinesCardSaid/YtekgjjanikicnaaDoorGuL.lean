/- The tables and errors that the rows of the text laws list. -/
import Derived.Test.YtekgjjanikicnaaDoorFeK
import Derived.Test.YtekgjjanikicnaaDoorGu1
import Derived.LaidMore
import Derived.LaidHandle
import Derived.LaidLaws
namespace Go.Proofs.YtekgjjanikicnaaDoor.Sx
open Go Go.Proofs.YtekgjjanikicnaaDoor Go.RowKit
set_option linter.unusedVariables false
def laid5 : List (String × DataW Unit) := [("math/bits.deBruijn32tab", Rows.laid_math_bits_deBruijn32tab), ("math/bits.deBruijn64tab", Rows.laid_math_bits_deBruijn64tab), ("internal/strconv.uint64pow10", Rows.laid_internal_strconv_uint64pow10), ("strconv.ErrRange", Rows.laid_strconv_ErrRange), ("strconv.ErrSyntax", Rows.laid_strconv_ErrSyntax)]
theorem door_met5 (os : Os) (args : Array Value) : laidMetH Tryd.prog laid5 ((World.doorLaid Tryd.prog 400 os).forCall (fun _ _ => 0) ⟨#[], args, []⟩).memory :=
  laidMetH_of_parts3 (fuel := 8) (laidMet_of_run' 8 (by kernel_rfl) (by kernel_rfl)) (by kernel_rfl) (by kernel_rfl)
theorem gnTab : Tryd.prog.globalNamed "internal/strconv.uint64pow10" = some 5 := by kernel_rfl
theorem gtTab : (Tryd.prog.globals[5]?).map (·.type) = some 195 := by kernel_rfl
theorem gnErS : Tryd.prog.globalNamed "strconv.ErrSyntax" = some 6 := by kernel_rfl
theorem gtErS : (Tryd.prog.globals[6]?).map (·.type) = some 120 := by kernel_rfl
theorem gnErR : Tryd.prog.globalNamed "strconv.ErrRange" = some 7 := by kernel_rfl
theorem gtErR : (Tryd.prog.globals[7]?).map (·.type) = some 120 := by kernel_rfl
theorem iface_cell {H : Type} {enc : TypeId × Value → H} {P : Program} {W : World} {t : TypeId} {ms : Array (String × TypeId)} {fuel : Nat} {sp : Nat → Bool} {held : Bool} {base : Nat} {cs : List Value} {x : DataW H × List MemPlace} (ht : P.underlying t = some (.interface ms))
    (h : DataW.trod enc P W base sp held fuel t cs = some x) : ∃ v, cs = [v] ∧ (v = .nilIface ∨ ∃ a b, v = .iface a b) := by
  cases fuel with
  | zero => simp [DataW.trod] at h
  | succ fuel =>
    unfold DataW.trod at h
    rw [ht] at h
    split at h
    all_goals first
      | exact ⟨_, rfl, .inl rfl⟩
      | exact ⟨_, rfl, .inr ⟨_, _, rfl⟩⟩
      | (rename_i e; cases e; done)
      | (rename_i e _; cases e; done)
      | (rename_i e _ _; cases e; done)
      | cases h
theorem glob5 {W : World} (h : laidMetH Tryd.prog laid5 W) : gTab.φ W ∧ gErr.φ W := by
  rw [MakeChecks.laidMetH_plain _ _ _ (by kernel_rfl)] at h
  obtain ⟨c0, f0, p0, v0, d0⟩ := read_at h (n := "internal/strconv.uint64pow10") (d := Rows.laid_internal_strconv_uint64pow10) (by simp [laid5]) gnTab gtTab
  obtain ⟨c1, f1, p1, v1, d1⟩ := read_at h (n := "strconv.ErrSyntax") (d := Rows.laid_strconv_ErrSyntax) (by simp [laid5]) gnErS gtErS
  obtain ⟨c2, f2, p2, v2, d2⟩ := read_at h (n := "strconv.ErrRange") (d := Rows.laid_strconv_ErrRange) (by simp [laid5]) gnErR gtErR
  have e0 := Lib.cells_of_tab (zs := Lib.pow10Tab) Tryd.underlying195 Tryd.underlying22 (by kernel_rfl) (by kernel_rfl) d0
  refine ⟨?_, ?_⟩
  · show W.var? _ _ = _
    rw [v0]
    congr 1
    rw [← e0]
  · have cell : ∀ {name : String} {g : Nat} {c : Array Value} {x : DataW Unit × List MemPlace} {f : Nat}, Tryd.prog.globalNamed name = some g → W.var? Tryd.prog name = some c → DataW.trod (fun _ => ()) Tryd.prog W 0 (fun _ => true) false f 120 c.toList = some x →
        ∃ ev, W.cell? ⟨g, 0, none⟩ = some ev ∧ (ev = .nilIface ∨ ∃ te pe, ev = .iface te pe) := by
      intro name g c x f hg hv hd
      obtain ⟨v, e, hv2⟩ := iface_cell Tryd.underlying120 hd
      exact ⟨v, var_cells (vs := [v]) hg hv (fun j y hj => by rw [e]; exact hj) 0 _ rfl, hv2⟩
    rintro g (rfl | rfl)
    · exact cell gnErS v1 d1
    · exact cell gnErR v2 d2
theorem gTab_lt {W : World} (h : gTab.φ W) : ∀ k, gTab.G k → k < W.heap.size := by
  rintro k rfl
  have h1 : W.var? Tryd.prog "internal/strconv.uint64pow10" = some _ := h
  have := var_cells (vs := (Lib.pow10Tab.map fun z => Value.int .u64 z)) gnTab h1 (fun j y hj => by simpa using hj) 0 _ rfl
  exact World.block_lt_of_cell? W _ this
theorem gErr_lt {W : World} (h : gErr.φ W) : ∀ k, gErr.G k → k < W.heap.size := fun k hk => by
  obtain ⟨ev, h1, _⟩ := h k hk
  exact World.block_lt_of_cell? W _ h1
theorem glob_old5 {W : World} (h : gTab.φ W ∧ gErr.φ W) : ∀ f, f ∈ [gTab, gErr, oldFact W] → f.φ W ∧ ∀ k, f.G k → k < W.heap.size := by
  intro f hf
  rcases List.mem_cons.1 hf with rfl | hf
  · exact ⟨h.1, gTab_lt h.1⟩
  rcases List.mem_cons.1 hf with rfl | hf
  · exact ⟨h.2, gErr_lt h.2⟩
  · obtain rfl := List.mem_singleton.1 hf
    exact ⟨fun k _ => rfl, fun k hk => hk⟩
end Go.Proofs.YtekgjjanikicnaaDoor.Sx
