/- What the text laws' callees do, part 6: the library's searching in strings. -/
import Derived.Test.YtekgjjanikicnaaDoorTx6
import Derived.Lib.Slices
import Derived.Lib.Walk
namespace Go.Proofs.YtekgjjanikicnaaDoor.Sx
open Go
set_option maxRecDepth 100000
set_option linter.unusedSimpArgs false
set_option linter.unusedVariables false

/-- A call that computes a plain value, and leaves the world as it was. -/
theorem Tri.ofCalls {P : Program} {n : Nat} {args : List SV} {vs : List Value} {v : Value} {fx : List Fact} (hen : ∀ xs w, (callFunc n xs).run P w = .ok (.enter n xs) w) (hargs : ∀ ρ, denL ρ args = vs)
    (h : ∀ w, Calls P n vs.toArray w fun e w' => e = .returned v ∧ w' = w) : Tri P n args [] 0 fx (Ret 0 (.v v) [] 0 []) :=
  Tri.gone hen fun ρ F w hh => by
    rw [hargs ρ]
    exact (h w).mono fun e w' ⟨he, hw⟩ => ⟨he, by subst hw; exact Keeps.refl _ _⟩
set_option maxHeartbeats 1000000 in
theorem cTrim (s p : ByteArray) (w : World) (hs : s.size ≤ 9223372036854775807) :
    Calls Tryd.prog 129 #[.string s, .string p] w fun e w' => e = .returned (.string ⟨(Lib.trimSuffix s.data.toList p.data.toList).toArray⟩) ∧ w' = w := by
  have hlo : p.size ≤ s.size → ((s.size : Int) - (p.size : Int) + 9223372036854775808) % 18446744073709551616 - 9223372036854775808 = ((s.size - p.size : Nat) : Int) := fun _ => by omega
  go_enter Tryd.func129, Tryd.ntmps129
  go_wp2
  · have h1 : p.size ≤ s.size := by assumption
    have h2 : ((s.extract (s.size - p.size) s.size).toList == p.toList) = true := by assumption
    go_ret
    refine ⟨?_, rfl⟩
    rw [Lib.trimSuffix_hit s p h1 h2]
    rfl
  · have h2 : ((s.extract (s.size - p.size) s.size).toList == p.toList) = false := by assumption
    go_ret
    refine ⟨?_, rfl⟩
    rw [Lib.trimSuffix_miss s p (by rw [h2]; simp)]
    rfl
  · have h1 : ¬ p.size ≤ s.size := by assumption
    go_ret
    refine ⟨?_, rfl⟩
    rw [Lib.trimSuffix_miss s p (by simp [h1])]
    rfl
set_option maxHeartbeats 1000000 in
theorem cIndexIn (s : ByteArray) (c : Int) (w : World) :
    Calls Tryd.prog 161 #[.string s, .int .u8 c] w fun e w' => e = .returned (.int .i64 (Lib.indexByte s.data.toList c.toNat.toUInt8)) ∧ w' = w := by
  go_enter Tryd.func161, Tryd.ntmps161
  go_wp2
  rw [run_callFunc_extern Tryd.func183 (by kernel_rfl) (by kernel_rfl) (by kernel_rfl) (e := Extern.BytealgIndexByte.indexByte) (by kernel_rfl), Lib.run_indexByteString]
  simp only [Result.andThen]
  rw [Oper.upon_value]
  go_wp2
  go_ret
  exact ⟨rfl, rfl⟩
set_option maxHeartbeats 1000000 in
theorem cIndex (s : ByteArray) (c : Int) (w : World) :
    Calls Tryd.prog 130 #[.string s, .int .u8 c] w fun e w' => e = .returned (.int .i64 (Lib.indexByte s.data.toList c.toNat.toUInt8)) ∧ w' = w := by
  go_enter Tryd.func130, Tryd.ntmps130
  go_wp2_with (go_at_call 161; refine (cIndexIn _ _ _).mono ?_; rintro e w' ⟨rfl, rfl⟩)
  go_ret
  exact ⟨rfl, rfl⟩
theorem tTrim (fx : List Fact) (s : ByteArray) (hs : s.size ≤ 9223372036854775807) :
    Tri Tryd.prog 129 [.v (.string s), .v (.string ⟨#[61]⟩)] [] 0 fx (Ret 0 (.v (.string ⟨(strip1 s.data.toList).toArray⟩)) [] 0 []) :=
  Tri.ofCalls (fun xs w => by simp [callFunc, Tryd.func129, Tryd.f129]) (fun ρ => rfl) (fun w => cTrim s ⟨#[61]⟩ w hs)
theorem signs_list : signsB.data.toList = sgnL := by decide +kernel
theorem tIndex (fx : List Fact) (c : UInt8) :
    Tri Tryd.prog 130 [.v (.string signsB), .v (bv c)] [] 0 fx (Ret 0 (.v (.int .i64 (if val6 c = 64 then -1 else (val6 c : Int)))) [] 0 []) :=
  Tri.ofCalls (fun xs w => by simp [callFunc, Tryd.func130, Tryd.f130]) (fun ρ => rfl) (fun w => by
    have h := cIndex signsB (c.toNat : Int) w
    have e : ((c.toNat : Int)).toNat.toUInt8 = c := by simp
    rw [e, signs_list] at h
    rw [← index_sgn]
    exact h)
end Go.Proofs.YtekgjjanikicnaaDoor.Sx
