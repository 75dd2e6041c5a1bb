/- The law 'NoteLines' holds: whatever it is handed, it returns true, and the input reads as it did; what its row lists of package-level variables is tied to the program's text. -/
import Derived.Test.YtekgjjanikicnaaDoorNt5
import Derived.Test.YtekgjjanikicnaaDoorNtL
import Derived.Test.YtekgjjanikicnaaDoorRows
import Derived.Test.YtekgjjanikicnaaDoorCards
import Derived.Test.YtekgjjanikicnaaDoorTie
import Derived.JoinedOf
import Derived.SevenTiedAt
namespace Go.Proofs.YtekgjjanikicnaaDoor.NoteLinesLaw
open Go Go.ChangeShapes Go.WideShapes Go.ChangeAt Go.RowKit Go.Proofs.YtekgjjanikicnaaDoor Go.Proofs.YtekgjjanikicnaaDoor.Sx
set_option linter.unusedVariables false
theorem closed : joinedFacts Tryd.prog 10 Tryd.f10 Rows.noteLinesSpec Rows.noteLinesRow = true := joined_of rfl (by kernel_rfl)
theorem goes : false = Rows.noteLinesRow.goesBy Tryd.prog := by kernel_rfl
set_option maxRecDepth 100000 in
theorem lifted (os : Os) (started : os.Started) (H : Type) (enc : TypeId × Value → H) :
    ReturnsInHanded {} Tryd.checked os 10 .any (fun w args => (Rows.noteLinesSpec.pre enc Tryd.prog Tryd.f10 [] false w args ∧ laidMetH Tryd.prog laidN3 w) ∧ sizedMet enc Tryd.prog Tryd.f10 (OpenSpec.ofChange Rows.noteLinesSpec) false w args)
      (Rows.noteLinesSpec.post enc Tryd.prog Tryd.f10 false true false false) := by
  refine returnsInHanded_of_change_and (C := Tryd.checked) (X := fun w _ => laidMetH Tryd.prog laidN3 w) (fun _ _ _ hh h => h.of_heap hh) pOwn started (by kernel_rfl) Tryd.func10
    (ChangeSpec.witness_shaped (enc := enc) (C := Tryd.checked) (os := os) (X := fun w _ => laidMetH Tryd.prog laidN3 w) false (World.doorLaid Tryd.prog 400 os) #[.agg ⟨[.string ByteArray.empty, .int .i64 0] ++ List.replicate 32 (.int .u8 0)⟩, .slice none 0 0] 8 rfl (World.shaped_of_RefB (by kernel_rfl) (by kernel_rfl)) (by kernel_rfl) (by kernel_rfl) (by kernel_rfl) (door_metN3 os _)) ?_
  intro W base args ds gs before hval0 hW _ _ hL _
  have hval : ∀ (j : Nat) t v, Tryd.f10.params[j]? = some t → args[j]? = some v → Value.okWide Tryd.prog W .any base t v := hval0
  have hW' := hW
  obtain ⟨p, q, hA0, hV, rfl, hfz, hnd⟩ := hW
  have hA : DataW.TrodAll enc Tryd.prog W 0 (fun _ => true) true Tryd.f10.params.toList args.toList ds p := hA0
  rw [Tryd.params10] at hA hval
  obtain ⟨v0, vs0, d0, ds0, p0, q0, hargs, rfl, rfl, h0, r0⟩ := trodAll_cons hA
  obtain ⟨v1, vs1, d1, ds1, p1, q1, rfl, rfl, rfl, h1, r1⟩ := trodAll_cons r0
  obtain ⟨rfl, rfl, rfl⟩ := trodAll_nil r1
  obtain rfl : args = #[v0, v1] := by cases args; simp_all
  obtain ⟨rfl, rfl⟩ := trodVars_none hV
  obtain ⟨x0, rfl, k0⟩ := open_head (hval 0 47 v0 rfl rfl) h0
  obtain ⟨A1, a1, c1, rfl, l1, m1, b1⟩ := open_sigs (hval 1 48 v1 rfl rfl) h1
  have hG := globN3 hL
  refine ((tNoteLines [gTab, oldFact W] (List.mem_cons_self ..) x0 k0 A1 a1 c1 (b1.mono fun f hf => List.mem_cons_of_mem _ hf) (by unfold maxLen at m1; omega)).one.conv.callsF (fun xs w => by simp [callFunc, Tryd.func10, Tryd.f10]) (glob_oldN3 hG) (fun _ => rfl) (v := .bool true) (fun y h m f ⟨_, _, e, _⟩ ρ => by subst e; rfl)).mono fun e W' ⟨he, hk⟩ => ?_
  subst he
  exact ⟨_, rfl, post_law pLaidOut pMapsRowed pSlices (by kernel_rfl) hW' hk rfl (by kernel_rfl) Tryd.underlying4 rfl⟩
theorem over : Rows.NoteLinesSaid :=
  OpenClaim.holds_of_wide 10 Tryd.f10 rfl rfl rfl rfl rfl rfl rfl ⟨rfl, rfl, rfl, rfl, rfl⟩ rfl rfl rfl rfl rfl (by kernel_rfl) Tryd.func10 closed
    (of_decide_eq_true (by kernel_rfl)) (by unfold Func.isWrapper; first | (rw [if_pos (by decide +kernel)]; kernel_rfl) | (rw [if_neg (by decide +kernel)]; exact ⟨rfl, rfl⟩))
    (fun os started H enc _ => lifted os started H enc)
theorem proved : Rows.NoteLinesCardSaid :=
  Claim7.holds_tied_plain_at .later [] [.data, .data, .data] true (true, "7cb9d16cbbf1cd422912e80f585aba5864e7c347e483a7ab5d574764c1eb69c0") true
    over (fun _ h => by cases h) (by kernel_rfl) (fun _ h => by cases h) noteLines_row_tie rfl ⟨rfl, rfl⟩ (by kernel_rfl) rfl
    (fun f fn hf hfn => by
      obtain rfl : f = 10 := Option.some.inj ((show Tryd.prog.funcNamed "chronicle/chroniclelaw21.NoteLines" = some 10 by kernel_rfl).symm.trans hf) |>.symm
      obtain rfl : fn = Tryd.f10 := (Option.some.inj (Tryd.func10.symm.trans hfn)).symm
      exact ⟨by kernel_rfl, fun j t ht => by
        rw [Tryd.params10] at ht
        have hm : t ∈ [47, 48] := by simpa using Array.mem_of_getElem? ht
        have hall : ([47, 48].all fun u => !Tryd.prog.wantsStandIn u) = true := by kernel_rfl
        exact (show Tryd.prog.wantsStandIn t = false by simpa using List.all_eq_true.1 hall t hm)⟩)
    goes
end Go.Proofs.YtekgjjanikicnaaDoor.NoteLinesLaw
