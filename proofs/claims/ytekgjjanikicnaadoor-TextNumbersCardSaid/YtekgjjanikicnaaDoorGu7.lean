/- The laws TextDigits and TextNumbers, of numbers as they are handed over. -/
import Derived.Test.YtekgjjanikicnaaDoorGu6
namespace Go.Proofs.YtekgjjanikicnaaDoor.Sx
open Go Go.RowKit
theorem nat_of_u64 {n : Int} (h : (Lit.int .u64 n).wf = true) : ∃ k : Nat, n = (k : Int) ∧ k < 18446744073709551616 := by
  simp [Lit.wf, IntKind.min, IntKind.max, IntKind.signed, IntKind.bits] at h
  exact ⟨n.toNat, by omega, by omega⟩
theorem tLDigits (fx : List Fact) (hg : gTab ∈ fx) (he : gErr ∈ fx) (n : Int) (h : (Lit.int .u64 n).wf = true) : Tri Tryd.prog 14 [.v (.int .u64 n)] [] 0 fx (Ret 0 (.b true) [] 0 []) := by
  obtain ⟨k, rfl, hk⟩ := nat_of_u64 h
  exact tTextDigits fx hg he k hk
theorem tLNumbers (fx : List Fact) (hg : gTab ∈ fx) (he : gErr ∈ fx) (n : Int) (h : (Lit.int .u64 n).wf = true) (s : ByteArray) (hs : s.size < 9223372036854775808) : Tri Tryd.prog 15 [.v (.int .u64 n), .v (.string s)] [] 0 fx (Ret 0 (.b true) [] 0 []) := by
  obtain ⟨k, rfl, hk⟩ := nat_of_u64 h
  exact tTextNumbers fx hg he k hk s hs
end Go.Proofs.YtekgjjanikicnaaDoor.Sx
