/- The law 'DiskNil' holds: whatever it is handed, it returns true, and the input reads as it did. -/
import Derived.Test.YtekgjjanikicnaaDkNil
import Derived.Test.YtekgjjanikicnaaDkO
import Derived.Test.YtekgjjanikicnaaRows
import Derived.JoinedOf
namespace Go.Proofs.Ytekgjjanikicnaa.DiskNilLaw
open Go Go.ChangeShapes Go.WideShapes Go.ChangeAt Go.RowKit Go.Proofs.Ytekgjjanikicnaa Go.Proofs.Ytekgjjanikicnaa.Sx
set_option linter.unusedVariables false
theorem own : ownKnob Try.prog.godebug = none := by kernel_rfl
set_option maxRecDepth 100000 in
theorem lifted (os : Os) (started : os.Started) (H : Type) (enc : TypeId × Value → H) :
    ReturnsInHanded {} Try.checked os 12 .any (Rows.diskNilSpec.pre6 enc Try.prog Try.f12 Rows.diskNilRow.domain false) (Rows.diskNilSpec.post enc Try.prog Try.f12 false true false false) := by
  refine returnsInHanded_of_change (C := Try.checked) own started (by kernel_rfl) Try.func12
    (ChangeSpec.witness6 (enc := enc) (C := Try.checked) false ⟨#[], #[.int .i64 0, .int .i64 0, .agg ⟨[.slice none 0 0, .int .i64 0, .int .i64 0]⟩], []⟩ 8 (by kernel_rfl) (by kernel_rfl) (by kernel_rfl) (by kernel_rfl)) ?_
  intro W base args ds gs before hval hW hcnd _
  have hW' := hW
  obtain ⟨p, q, hA, hV, rfl, hfz, hnd⟩ := hW
  rw [Try.params12] at hA hval
  obtain ⟨v0, vs0, d0, ds0, p0, q0, hargs, rfl, rfl, h0, r0⟩ := trodAll_cons hA
  obtain ⟨v1, vs1, d1, ds1, p1, q1, rfl, rfl, rfl, h1, r1⟩ := trodAll_cons r0
  obtain ⟨v2, vs2, d2, ds2, p2, q2, rfl, rfl, rfl, h2, r2⟩ := trodAll_cons r1
  obtain ⟨rfl, rfl, rfl⟩ := trodAll_nil r2
  obtain rfl : args = #[v0, v1, v2] := by cases args; simp_all
  obtain ⟨rfl, rfl⟩ := trodVars_none hV
  obtain ⟨n0, rfl, rfl, rfl, w0⟩ := open_int Try.underlying3 (hval 0 3 v0 rfl rfl) h0
  have w0 := bounds_i64 w0
  obtain ⟨n1, rfl, rfl, rfl, w1⟩ := open_int Try.underlying3 (hval 1 3 v1 rfl rfl) h1
  have w1 := bounds_i64 w1
  obtain ⟨A2, a2, c2, t2, u2, rfl, l2, m2, b2, w2, z2⟩ := open_fate (hval 2 47 v2 rfl rfl) h2
  refine ((tDiskNil [oldFact W] n0 n1 t2 u2 A2 a2.length c2 (by omega)).one.conv.calls (fun _ => rfl) (v := .bool true) (fun y h m f ⟨_, _, e, _⟩ ρ => by subst e; rfl)).mono fun e W' ⟨he, hk⟩ => ?_
  subst he
  exact ⟨_, rfl, post_law (by kernel_rfl) (by kernel_rfl) (by kernel_rfl) (by kernel_rfl) hW' hk rfl (by kernel_rfl) Try.underlying4 rfl⟩
theorem over : Rows.diskNilRow.holds Try.pinned (OpenSpec.ofChange Rows.diskNilSpec) :=
  OpenClaim.holds_of_wide 12 Try.f12 rfl rfl rfl rfl rfl rfl rfl ⟨rfl, rfl, rfl, rfl, rfl⟩ rfl rfl rfl rfl rfl (by kernel_rfl) Try.func12 (by kernel_rfl)
    (of_decide_eq_true (by kernel_rfl)) (by unfold Func.isWrapper; first | (rw [if_pos (by decide +kernel)]; kernel_rfl) | (rw [if_neg (by decide +kernel)]; exact ⟨rfl, rfl⟩))
    (fun os started H enc _ => lifted os started H enc)
theorem proved : Rows.DiskNilSaid := over
end Go.Proofs.Ytekgjjanikicnaa.DiskNilLaw
