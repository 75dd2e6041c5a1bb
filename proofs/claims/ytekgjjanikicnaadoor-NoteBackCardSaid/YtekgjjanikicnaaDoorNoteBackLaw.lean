/- The law 'NoteBack' holds: whatever it is handed, it returns true, and the input reads as it did; what its row lists of package-level variables is tied to the program's text. -/
import Derived.Test.YtekgjjanikicnaaDoorNoteBackLawB4
import Derived.Test.YtekgjjanikicnaaDoorRows
import Derived.Test.YtekgjjanikicnaaDoorCards
import Derived.Test.YtekgjjanikicnaaDoorTie
import Derived.JoinedOf
import Derived.SevenTiedAt
namespace Go.Proofs.YtekgjjanikicnaaDoor.NoteBackLaw
open Go Go.ChangeShapes Go.WideShapes Go.ChangeAt Go.RowKit Go.Proofs.YtekgjjanikicnaaDoor Go.Proofs.YtekgjjanikicnaaDoor.Sx
set_option linter.unusedVariables false
theorem closed : joinedFacts Tryd.prog 17 Tryd.f17 Rows.noteBackSpec Rows.noteBackRow = true := joined_of rfl (by kernel_rfl)
theorem goes : false = Rows.noteBackRow.goesBy Tryd.prog := by kernel_rfl
set_option maxRecDepth 100000 in
theorem lifted (os : Os) (started : os.Started) (H : Type) (enc : TypeId × Value → H) :
    ReturnsInHanded {} Tryd.checked os 17 .any (fun w args => (Rows.noteBackSpec.pre enc Tryd.prog Tryd.f17 [] false w args ∧ laidMetH Tryd.prog laid7 w) ∧ sizedMet enc Tryd.prog Tryd.f17 (OpenSpec.ofChange Rows.noteBackSpec) false w args)
      (Rows.noteBackSpec.post enc Tryd.prog Tryd.f17 false true false false) := by
  refine returns_and_shaped (C := Tryd.checked) (X := fun w _ => laidMetH Tryd.prog laid7 w) (fun _ _ _ hh h => h.of_heap hh) pOwn started (by kernel_rfl) Tryd.func17
    (ChangeSpec.witness_shaped (enc := enc) (C := Tryd.checked) (os := os) (X := fun w _ => laidMetH Tryd.prog laid7 w) false (World.laidAll Tryd.prog os laid7) #[.agg ⟨[.string ByteArray.empty, .int .i64 0] ++ List.replicate 32 (.int .u8 0)⟩, .slice none 0 0, .string ByteArray.empty] 8 (World.laidAll_os _ _ _) (World.shaped_of_ZipB (by kernel_rfl) (by kernel_rfl)) (by kernel_rfl) (by kernel_rfl) (by kernel_rfl) (door_met7 os _)) ?_
  intro W base args ds gs before hval0 hW _ _ hL hSh _
  have hval : ∀ (j : Nat) t v, Tryd.f17.params[j]? = some t → args[j]? = some v → Value.okWide Tryd.prog W .any base t v := hval0
  have hW' := hW
  obtain ⟨p, q, hA0, hV, rfl, hfz, hnd⟩ := hW
  have hA : DataW.TrodAll enc Tryd.prog W 0 (fun _ => true) true Tryd.f17.params.toList args.toList ds p := hA0
  rw [Tryd.params17] at hA hval
  obtain ⟨v0, vs0, d0, ds0, p0, q0, hargs, rfl, rfl, h0, r0⟩ := trodAll_cons hA
  obtain ⟨v1, vs1, d1, ds1, p1, q1, rfl, rfl, rfl, h1, r1⟩ := trodAll_cons r0
  obtain ⟨v2, vs2, d2, ds2, p2, q2, rfl, rfl, rfl, h2, r2⟩ := trodAll_cons r1
  obtain ⟨rfl, rfl, rfl⟩ := trodAll_nil r2
  obtain rfl : args = #[v0, v1, v2] := by cases args; simp_all
  obtain ⟨rfl, rfl⟩ := trodVars_none hV
  obtain ⟨x0, rfl, k0, ko⟩ := open_head2 (hval 0 47 v0 rfl rfl) h0
  obtain ⟨A1, a1, c1, rfl, l1, m1, b1⟩ := open_sigs (hval 1 48 v1 rfl rfl) h1
  obtain ⟨s2, rfl, rfl, rfl, m2⟩ := Go.ChangeMaps.open_string Tryd.underlying9 (hval 2 9 v2 rfl rfl) h2
  have hG := (⟨glob7 hL, gMax_of hSh⟩ : (gTab.φ W ∧ gErr.φ W) ∧ gMax.φ W)
  refine ((tNoteBack [gTab, gErr, gMax, oldFact W] (List.mem_cons_self ..) (List.mem_cons_of_mem _ (List.mem_cons_self ..)) (List.mem_cons_of_mem _ (List.mem_cons_of_mem _ (List.mem_cons_self ..))) x0 k0 ko A1 a1 c1 (b1.more fun f hf => List.mem_cons_of_mem _ (List.mem_cons_of_mem _ (List.mem_cons_of_mem _ hf))) (by unfold maxLen at m1; omega) s2.data.toList (by rw [list_size]; unfold maxLen at m2; omega)).one.conv.callsF (fun xs w => by simp [callFunc, Tryd.func17, Tryd.f17]) (glob_old7 hG) (fun _ => by simp [den, strS]) (v := .bool true) (fun y h m f ⟨_, _, e, _⟩ ρ => by subst e; rfl)).mono fun e W' ⟨he, hk⟩ => ?_
  subst he
  exact ⟨_, rfl, post_law pLaidOut pMapsRowed pSlices (by kernel_rfl) hW' hk rfl (by kernel_rfl) Tryd.underlying4 rfl⟩
theorem over : Rows.NoteBackSaid :=
  OpenClaim.holds_of_wide 17 Tryd.f17 rfl rfl rfl rfl rfl rfl rfl ⟨rfl, rfl, rfl, rfl, rfl⟩ rfl rfl rfl rfl rfl (by kernel_rfl) Tryd.func17 closed
    (of_decide_eq_true (by kernel_rfl)) (by unfold Func.isWrapper; first | (rw [if_pos (by decide +kernel)]; kernel_rfl) | (rw [if_neg (by decide +kernel)]; exact ⟨rfl, rfl⟩))
    (fun os started H enc _ => lifted os started H enc)
theorem proved : Rows.NoteBackCardSaid :=
  Claim7.holds_tied_plain_at .later [] [.data, .data, .data, .data, .sentinel, .sentinel, .pinned] true (true, "7cb9d16cbbf1cd422912e80f585aba5864e7c347e483a7ab5d574764c1eb69c0") true
    over (fun _ h => by cases h) (by kernel_rfl) (fun _ h => by cases h) noteBack_row_tie rfl ⟨rfl, rfl⟩ (by kernel_rfl) rfl
    (fun f fn hf hfn => by
      obtain rfl : f = 17 := Option.some.inj ((show Tryd.prog.funcNamed "chronicle/chroniclelaw21.NoteBack" = some 17 by kernel_rfl).symm.trans hf) |>.symm
      obtain rfl : fn = Tryd.f17 := (Option.some.inj (Tryd.func17.symm.trans hfn)).symm
      exact ⟨by kernel_rfl, fun j t ht => by
        rw [Tryd.params17] at ht
        have hm : t ∈ [47, 48, 9] := by simpa using Array.mem_of_getElem? ht
        have hall : ([47, 48, 9].all fun u => !Tryd.prog.wantsStandIn u) = true := by kernel_rfl
        exact (show Tryd.prog.wantsStandIn t = false by simpa using List.all_eq_true.1 hall t hm)⟩)
    goes
end Go.Proofs.YtekgjjanikicnaaDoor.NoteBackLaw
