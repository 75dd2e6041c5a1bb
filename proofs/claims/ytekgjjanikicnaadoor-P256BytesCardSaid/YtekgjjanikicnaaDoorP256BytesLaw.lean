/- The law 'P256Bytes' holds: whatever it is handed, it returns true, and the input reads as it did; what its row lists of package-level variables is tied to the program's text. -/
import Derived.Test.YtekgjjanikicnaaDoorFeW
import Derived.Test.YtekgjjanikicnaaDoorFeL
import Derived.Test.YtekgjjanikicnaaDoorRows
import Derived.Test.YtekgjjanikicnaaDoorCards
import Derived.Test.YtekgjjanikicnaaDoorTie
import Derived.JoinedOf
import Derived.SevenTiedAt
namespace Go.Proofs.YtekgjjanikicnaaDoor.P256BytesLaw
open Go Go.ChangeShapes Go.WideShapes Go.ChangeAt Go.RowKit Go.Proofs.YtekgjjanikicnaaDoor Go.Proofs.YtekgjjanikicnaaDoor.Sx
set_option linter.unusedVariables false
theorem closed : joinedFacts Tryd.prog 11 Tryd.f11 Rows.p256BytesSpec Rows.p256BytesRow = true := joined_of rfl (by kernel_rfl)
theorem goes : false = Rows.p256BytesRow.goesBy Tryd.prog := by kernel_rfl
set_option maxRecDepth 100000 in
theorem lifted (os : Os) (started : os.Started) (H : Type) (enc : TypeId × Value → H) :
    ReturnsInHanded {} Tryd.checked os 11 .any (fun w args => (Rows.p256BytesSpec.pre enc Tryd.prog Tryd.f11 [] false w args ∧ laidMetH Tryd.prog laid2 w) ∧ sizedMet enc Tryd.prog Tryd.f11 (OpenSpec.ofChange Rows.p256BytesSpec) false w args)
      (Rows.p256BytesSpec.post enc Tryd.prog Tryd.f11 false true false false) := by
  refine returnsInHanded_of_change_and (C := Tryd.checked) (X := fun w _ => laidMetH Tryd.prog laid2 w) (fun _ _ _ hh h => h.of_heap hh) pOwn started (by kernel_rfl) Tryd.func11
    (ChangeSpec.witness_shaped (enc := enc) (C := Tryd.checked) (os := os) (X := fun w _ => laidMetH Tryd.prog laid2 w) false (World.doorLaid Tryd.prog 109 os) #[.agg ⟨[.int .u64 0, .int .u64 0, .int .u64 0, .int .u64 0, .int .u64 0, .int .u64 0, .int .u64 0, .int .u64 0, .bool false]⟩, .slice none 0 0] 8 rfl (World.shaped_of_RefB (by kernel_rfl) (by kernel_rfl)) (by kernel_rfl) (by kernel_rfl) (by kernel_rfl) (door_met2 os _)) ?_
  intro W base args ds gs before hval0 hW _ _ hL _
  have hval : ∀ (j : Nat) t v, Tryd.f11.params[j]? = some t → args[j]? = some v → Value.okWide Tryd.prog W .any base t v := hval0
  have hW' := hW
  obtain ⟨p, q, hA0, hV, rfl, hfz, hnd⟩ := hW
  have hA : DataW.TrodAll enc Tryd.prog W 0 (fun _ => true) true Tryd.f11.params.toList args.toList ds p := hA0
  rw [Tryd.params11] at hA hval
  obtain ⟨v0, vs0, d0, ds0, p0, q0, hargs, rfl, rfl, h0, r0⟩ := trodAll_cons hA
  obtain ⟨v1, vs1, d1, ds1, p1, q1, rfl, rfl, rfl, h1, r1⟩ := trodAll_cons r0
  obtain ⟨rfl, rfl, rfl⟩ := trodAll_nil r1
  obtain rfl : args = #[v0, v1] := by cases args; simp_all
  obtain ⟨rfl, rfl⟩ := trodVars_none hV
  obtain ⟨x0, rfl, k0⟩ := open_point (hval 0 26 v0 rfl rfl) h0
  obtain ⟨A1, a1, c1, rfl, l1, m1, b1⟩ := open_bytes Tryd.underlying61 Tryd.underlying5 (by kernel_rfl) (hval 1 61 v1 rfl rfl) h1
  have hG := glob2 hL
  refine ((tLBytes [glob, oldFact W] (List.mem_cons_self ..) x0 k0 A1 c1 a1 (b1.mono fun f hf => List.mem_cons_of_mem _ hf) l1).one.conv.callsF (fun xs w => by simp [callFunc, Tryd.func11, Tryd.f11]) (glob_old hG) (fun _ => rfl) (v := .bool true) (fun y h m f ⟨_, _, e, _⟩ ρ => by subst e; rfl)).mono fun e W' ⟨he, hk⟩ => ?_
  subst he
  exact ⟨_, rfl, post_law pLaidOut pMapsRowed pSlices (by kernel_rfl) hW' hk rfl (by kernel_rfl) Tryd.underlying4 rfl⟩
theorem over : Rows.P256BytesSaid :=
  OpenClaim.holds_of_wide 11 Tryd.f11 rfl rfl rfl rfl rfl rfl rfl ⟨rfl, rfl, rfl, rfl, rfl⟩ rfl rfl rfl rfl rfl (by kernel_rfl) Tryd.func11 closed
    (of_decide_eq_true (by kernel_rfl)) (by unfold Func.isWrapper; first | (rw [if_pos (by decide +kernel)]; kernel_rfl) | (rw [if_neg (by decide +kernel)]; exact ⟨rfl, rfl⟩))
    (fun os started H enc _ => lifted os started H enc)
theorem proved : Rows.P256BytesCardSaid :=
  Claim7.holds_tied_plain_at .later [] [.data, .data] true (true, "7cb9d16cbbf1cd422912e80f585aba5864e7c347e483a7ab5d574764c1eb69c0") true
    over (fun _ h => by cases h) (by kernel_rfl) (fun _ h => by cases h) p256Bytes_row_tie rfl ⟨rfl, rfl⟩ (by kernel_rfl) rfl
    (fun f fn hf hfn => by
      obtain rfl : f = 11 := Option.some.inj ((show Tryd.prog.funcNamed "chronicle/chroniclelaw08.P256Bytes" = some 11 by kernel_rfl).symm.trans hf) |>.symm
      obtain rfl : fn = Tryd.f11 := (Option.some.inj (Tryd.func11.symm.trans hfn)).symm
      exact ⟨by kernel_rfl, fun j t ht => by
        rw [Tryd.params11] at ht
        have hm : t ∈ [26, 61] := by simpa using Array.mem_of_getElem? ht
        have hall : ([26, 61].all fun u => !Tryd.prog.wantsStandIn u) = true := by kernel_rfl
        exact (show Tryd.prog.wantsStandIn t = false by simpa using List.all_eq_true.1 hall t hm)⟩)
    goes
end Go.Proofs.YtekgjjanikicnaaDoor.P256BytesLaw
