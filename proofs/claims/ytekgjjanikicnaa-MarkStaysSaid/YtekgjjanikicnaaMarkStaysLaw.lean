/- The law 'MarkStays' holds: whatever it is handed, it returns true, and the input reads as it did. -/
import Derived.Test.YtekgjjanikicnaaMkStays
import Derived.Test.YtekgjjanikicnaaDkQ
import Derived.Test.YtekgjjanikicnaaRows
import Derived.JoinedOf
namespace Go.Proofs.Ytekgjjanikicnaa.MarkStaysLaw
open Go Go.ChangeShapes Go.WideShapes Go.ChangeAt Go.RowKit Go.Proofs.Ytekgjjanikicnaa Go.Proofs.Ytekgjjanikicnaa.Sx
set_option linter.unusedVariables false
theorem own : ownKnob Try.prog.godebug = none := by kernel_rfl
set_option maxRecDepth 100000 in
theorem lifted (os : Os) (started : os.Started) (H : Type) (enc : TypeId × Value → H) :
    ReturnsInHanded {} Try.checked os 16 .any (Rows.markStaysSpec.pre6 enc Try.prog Try.f16 Rows.markStaysRow.domain false) (Rows.markStaysSpec.post enc Try.prog Try.f16 false true false false) := by
  refine returnsInHanded_of_change (C := Try.checked) own started (by kernel_rfl) Try.func16
    (ChangeSpec.witness6 (enc := enc) (C := Try.checked) false ⟨#[], #[.slice none 0 0, .slice none 0 0, .slice none 0 0], []⟩ 8 (by kernel_rfl) (by kernel_rfl) (by kernel_rfl) (by kernel_rfl)) ?_
  intro W base args ds gs before hval hW hcnd _
  have hW' := hW
  obtain ⟨p, q, hA, hV, rfl, hfz, hnd⟩ := hW
  rw [Try.params16] at hA hval
  obtain ⟨v0, vs0, d0, ds0, p0, q0, hargs, rfl, rfl, h0, r0⟩ := trodAll_cons hA
  obtain ⟨v1, vs1, d1, ds1, p1, q1, rfl, rfl, rfl, h1, r1⟩ := trodAll_cons r0
  obtain ⟨v2, vs2, d2, ds2, p2, q2, rfl, rfl, rfl, h2, r2⟩ := trodAll_cons r1
  obtain ⟨rfl, rfl, rfl⟩ := trodAll_nil r2
  obtain rfl : args = #[v0, v1, v2] := by cases args; simp_all
  obtain ⟨rfl, rfl⟩ := trodVars_none hV
  obtain ⟨A0, a0, c0, rfl, l0, m0, b0⟩ := open_bytes Try.underlying22 Try.underlying5 (by kernel_rfl) (hval 0 22 v0 rfl rfl) h0
  obtain ⟨A1, a1, c1, rfl, l1, m1, b1⟩ := open_bytes Try.underlying22 Try.underlying5 (by kernel_rfl) (hval 1 22 v1 rfl rfl) h1
  obtain ⟨A2, a2, c2, rfl, l2, m2, b2⟩ := open_fates (hval 2 71 v2 rfl rfl) h2
  refine ((tMarkStays [oldFact W] A0 A1 A2 c0 c1 c2 a0 a1 a2 b0 b1 b2 ⟨l0, m0⟩ ⟨l1, m1⟩ ⟨l2, m2⟩).one.conv.calls (fun _ => rfl) (v := .bool true) (fun y h m f ⟨_, _, e, _⟩ ρ => by subst e; rfl)).mono fun e W' ⟨he, hk⟩ => ?_
  subst he
  exact ⟨_, rfl, post_law (by kernel_rfl) (by kernel_rfl) (by kernel_rfl) (by kernel_rfl) hW' hk rfl (by kernel_rfl) Try.underlying4 rfl⟩
theorem over : Rows.markStaysRow.holds Try.pinned (OpenSpec.ofChange Rows.markStaysSpec) :=
  OpenClaim.holds_of_wide 16 Try.f16 rfl rfl rfl rfl rfl rfl rfl ⟨rfl, rfl, rfl, rfl, rfl⟩ rfl rfl rfl rfl rfl (by kernel_rfl) Try.func16 (by kernel_rfl)
    (of_decide_eq_true (by kernel_rfl)) (by unfold Func.isWrapper; first | (rw [if_pos (by decide +kernel)]; kernel_rfl) | (rw [if_neg (by decide +kernel)]; exact ⟨rfl, rfl⟩))
    (fun os started H enc _ => lifted os started H enc)
theorem proved : Rows.MarkStaysSaid := over
end Go.Proofs.Ytekgjjanikicnaa.MarkStaysLaw
