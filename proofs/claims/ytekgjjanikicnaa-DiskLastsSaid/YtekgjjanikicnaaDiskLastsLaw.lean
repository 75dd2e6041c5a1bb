/- The law 'DiskLasts' holds: whatever it is handed, it returns true, and the input reads as it did. -/
import Derived.Test.YtekgjjanikicnaaDkLasts
import Derived.Test.YtekgjjanikicnaaDkP
import Derived.Test.YtekgjjanikicnaaRows
import Derived.JoinedOf
namespace Go.Proofs.Ytekgjjanikicnaa.DiskLastsLaw
open Go Go.ChangeShapes Go.WideShapes Go.ChangeAt Go.RowKit Go.Proofs.Ytekgjjanikicnaa Go.Proofs.Ytekgjjanikicnaa.Sx
set_option linter.unusedVariables false
theorem own : ownKnob Try.prog.godebug = none := by kernel_rfl
set_option maxRecDepth 100000 in
theorem lifted (os : Os) (started : os.Started) (H : Type) (enc : TypeId × Value → H) :
    ReturnsInHanded {} Try.checked os 9 .any (Rows.diskLastsSpec.pre6 enc Try.prog Try.f9 Rows.diskLastsRow.domain false) (Rows.diskLastsSpec.post enc Try.prog Try.f9 false true false false) := by
  refine returnsInHanded_of_change (C := Try.checked) own started (by kernel_rfl) Try.func9
    (ChangeSpec.witness6 (enc := enc) (C := Try.checked) false ⟨#[], #[.agg ⟨[.int .u8 0, .int .i64 0, .slice none 0 0]⟩, .agg ⟨[.slice none 0 0, .int .i64 0, .int .i64 0]⟩], []⟩ 8 (by kernel_rfl) (by kernel_rfl) (by kernel_rfl) (by kernel_rfl)) ?_
  intro W base args ds gs before hval hW hcnd _
  have hW' := hW
  obtain ⟨p, q, hA, hV, rfl, hfz, hnd⟩ := hW
  rw [Try.params9] at hA hval
  obtain ⟨v0, vs0, d0, ds0, p0, q0, hargs, rfl, rfl, h0, r0⟩ := trodAll_cons hA
  obtain ⟨v1, vs1, d1, ds1, p1, q1, rfl, rfl, rfl, h1, r1⟩ := trodAll_cons r0
  obtain ⟨rfl, rfl, rfl⟩ := trodAll_nil r1
  obtain rfl : args = #[v0, v1] := by cases args; simp_all
  obtain ⟨rfl, rfl⟩ := trodVars_none hV
  obtain ⟨n0, t0, A0, a0, c0, rfl, w0, z0, l0, m0, b0⟩ := open_story (Or.inr rfl) (hval 0 46 v0 rfl rfl) h0
  obtain ⟨o1, rfl, b1⟩ := open_fatev (hval 1 47 v1 rfl rfl) h1
  refine ((tDiskLasts [oldFact W] n0 t0 A0 c0 a0 o1 (by omega) z0 b0 ⟨l0, m0⟩ b1).one.conv.calls (fun _ => rfl) (v := .bool true) (fun y h m f ⟨_, _, e, _⟩ ρ => by subst e; rfl)).mono fun e W' ⟨he, hk⟩ => ?_
  subst he
  exact ⟨_, rfl, post_law (by kernel_rfl) (by kernel_rfl) (by kernel_rfl) (by kernel_rfl) hW' hk rfl (by kernel_rfl) Try.underlying4 rfl⟩
theorem over : Rows.diskLastsRow.holds Try.pinned (OpenSpec.ofChange Rows.diskLastsSpec) :=
  OpenClaim.holds_of_wide 9 Try.f9 rfl rfl rfl rfl rfl rfl rfl ⟨rfl, rfl, rfl, rfl, rfl⟩ rfl rfl rfl rfl rfl (by kernel_rfl) Try.func9 (by kernel_rfl)
    (of_decide_eq_true (by kernel_rfl)) (by unfold Func.isWrapper; first | (rw [if_pos (by decide +kernel)]; kernel_rfl) | (rw [if_neg (by decide +kernel)]; exact ⟨rfl, rfl⟩))
    (fun os started H enc _ => lifted os started H enc)
theorem proved : Rows.DiskLastsSaid := over
end Go.Proofs.Ytekgjjanikicnaa.DiskLastsLaw
