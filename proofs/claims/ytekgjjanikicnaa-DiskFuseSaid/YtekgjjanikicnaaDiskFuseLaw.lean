/- The law 'DiskFuse' holds: whatever it is handed, it returns true, and the input reads as it did. -/
import Derived.Test.YtekgjjanikicnaaDkFuse
import Derived.Test.YtekgjjanikicnaaSxL
import Derived.Test.YtekgjjanikicnaaRows
import Derived.JoinedOf
namespace Go.Proofs.Ytekgjjanikicnaa.DiskFuseLaw
open Go Go.ChangeShapes Go.WideShapes Go.ChangeAt Go.RowKit Go.Proofs.Ytekgjjanikicnaa Go.Proofs.Ytekgjjanikicnaa.Sx
set_option linter.unusedVariables false
theorem own : ownKnob Try.prog.godebug = none := by kernel_rfl
set_option maxRecDepth 100000 in
theorem lifted (os : Os) (started : os.Started) (H : Type) (enc : TypeId × Value → H) :
    ReturnsInHanded {} Try.checked os 11 .any (Rows.diskFuseSpec.pre6 enc Try.prog Try.f11 Rows.diskFuseRow.domain false) (Rows.diskFuseSpec.post enc Try.prog Try.f11 false true false false) := by
  refine returnsInHanded_of_change (C := Try.checked) own started (by kernel_rfl) Try.func11
    (ChangeSpec.witness6 (enc := enc) (C := Try.checked) false ⟨#[], #[.int .u8 0, .int .u8 0], []⟩ 8 (by kernel_rfl) (by kernel_rfl) (by kernel_rfl) (by kernel_rfl)) ?_
  intro W base args ds gs before hval hW hcnd _
  have hW' := hW
  obtain ⟨p, q, hA, hV, rfl, hfz, hnd⟩ := hW
  rw [Try.params11] at hA hval
  obtain ⟨v0, vs0, d0, ds0, p0, q0, hargs, rfl, rfl, h0, r0⟩ := trodAll_cons hA
  obtain ⟨v1, vs1, d1, ds1, p1, q1, rfl, rfl, rfl, h1, r1⟩ := trodAll_cons r0
  obtain ⟨rfl, rfl, rfl⟩ := trodAll_nil r1
  obtain rfl : args = #[v0, v1] := by cases args; simp_all
  obtain ⟨rfl, rfl⟩ := trodVars_none hV
  obtain ⟨n0, rfl, rfl, rfl, w0⟩ := open_int Try.underlying5 (hval 0 5 v0 rfl rfl) h0
  have w0 := bounds_u8 w0
  obtain ⟨n1, rfl, rfl, rfl, w1⟩ := open_int Try.underlying5 (hval 1 5 v1 rfl rfl) h1
  have w1 := bounds_u8 w1
  refine ((tDiskFuse [oldFact W] n0 n1 (by omega) (by omega)).one.conv.calls (fun _ => rfl) (v := .bool true) (fun y h m f ⟨_, _, e, _⟩ ρ => by subst e; rfl)).mono fun e W' ⟨he, hk⟩ => ?_
  subst he
  exact ⟨_, rfl, post_law (by kernel_rfl) (by kernel_rfl) (by kernel_rfl) (by kernel_rfl) hW' hk rfl (by kernel_rfl) Try.underlying4 rfl⟩
theorem over : Rows.diskFuseRow.holds Try.pinned (OpenSpec.ofChange Rows.diskFuseSpec) :=
  OpenClaim.holds_of_wide 11 Try.f11 rfl rfl rfl rfl rfl rfl rfl ⟨rfl, rfl, rfl, rfl, rfl⟩ rfl rfl rfl rfl rfl (by kernel_rfl) Try.func11 (by kernel_rfl)
    (of_decide_eq_true (by kernel_rfl)) (by unfold Func.isWrapper; first | (rw [if_pos (by decide +kernel)]; kernel_rfl) | (rw [if_neg (by decide +kernel)]; exact ⟨rfl, rfl⟩))
    (fun os started H enc _ => lifted os started H enc)
theorem proved : Rows.DiskFuseSaid := over
end Go.Proofs.Ytekgjjanikicnaa.DiskFuseLaw
