/- A symbolic executor for the model's code, part 18: what a law is handed, opened; the frame of a law's row. -/
import Derived.Test.YtekgjjanikicnaaSxN
import Derived.Test.YtekgjjanikicnaaTT
import Derived.WideShapes
import Derived.ChangeSlices
import Derived.ChangeMaps5
namespace Go.Proofs.Ytekgjjanikicnaa.Sx
open Go Go.ChangeShapes Go.WideShapes Go.ChangeAt Go.RowKit
set_option linter.unusedVariables false
set_option linter.unusedSimpArgs false

theorem bytes_of_ints : ∀ (zs : List Int), (∀ n ∈ zs, (Lit.int .u8 n).wf = true) → ∃ bs : List UInt8, bs.length = zs.length ∧ ∀ j : Nat, (bs[j]?).map bv = (zs[j]?).map (Value.int .u8)
  | [], _ => ⟨[], rfl, fun j => rfl⟩
  | n :: r, h => by
    obtain ⟨bs, h1, h2⟩ := bytes_of_ints r fun m hm => h m (List.mem_cons_of_mem _ hm)
    have hb := bounds_u8 (h n (List.mem_cons_self ..))
    refine ⟨UInt8.ofNat n.toNat :: bs, by simp [h1], fun j => ?_⟩
    cases j with
    | zero =>
      simp only [List.getElem?_cons_zero, Option.map_some, bv]
      congr 2
      simp
      omega
    | succ j => simpa using h2 j
section
variable {H : Type} {enc : TypeId × Value → H} {P : Program} {W : World}
theorem trod_bytes {t e : TypeId} {base fuel : Nat} {sp : Nat → Bool} {held : Bool} {cs : List Value} {x : DataW H × List MemPlace} (ht : P.underlying t = some (.slice e)) (he : P.underlying e = some (.int .u8)) (hc : P.cellsOf e = 1)
    (h : DataW.trod enc P W base sp held fuel t cs = some x) : ∃ (A : Option Addr) (bs : List UInt8) (cap : Nat), cs = [.slice A bs.length cap] ∧ bs.length ≤ cap ∧ cap ≤ maxLen ∧ BytesAt [oldFact W] A bs := by
  rcases open_ints ht he hc h with ⟨h1, _⟩ | ⟨a, len, cap, zs, h1, _, h3, h4, h5, _, h7, h8⟩
  · exact ⟨none, [], 0, h1, Nat.le_refl _, Nat.zero_le _, ⟨fun _ => rfl, fun ad e => by cases e⟩⟩
  · obtain ⟨bs, h9, h10⟩ := bytes_of_ints zs h8
    have hlen : len ≤ zs.length := by rw [h5]; split <;> omega
    refine ⟨some a, bs.take len, cap, by rw [List.length_take, h9, Nat.min_eq_left hlen]; exact h1, by rw [List.length_take, h9]; omega, h4, ⟨fun e => (by cases e), fun ad e j y hj => ?_⟩⟩
    obtain rfl := Option.some.inj e
    rw [List.getElem?_take] at hj
    split at hj
    · have hj' : j < zs.length := by omega
      refine oldFact_FC (List.mem_singleton.2 rfl) ?_
      rw [h7 j hj']
      have h11 := h10 j
      rw [hj, List.getElem?_eq_getElem hj'] at h11
      simp only [Option.map_some, Option.some.injEq] at h11
      rw [List.getD_eq_getElem?_getD, List.getElem?_eq_getElem hj', Option.getD_some, ← h11]
    · cases hj
theorem open_bytes {t e : TypeId} {r : Reach} {b0 : Nat} {v : Value} {d : DataW H} {ps : List MemPlace} {base : Nat} {sp : Nat → Bool} {held : Bool} (ht : P.underlying t = some (.slice e)) (he : P.underlying e = some (.int .u8)) (hc : P.cellsOf e = 1)
    (hval : Value.okWide P W r b0 t v) (hd : DataW.Trod enc P W base sp held t v d ps) : ∃ (A : Option Addr) (bs : List UInt8) (cap : Nat), v = .slice A bs.length cap ∧ bs.length ≤ cap ∧ cap ≤ maxLen ∧ BytesAt [oldFact W] A bs := by
  obtain ⟨a, len, cap, rfl⟩ := okWide_slice ht hval
  obtain ⟨fuel, hf⟩ := hd
  obtain ⟨A, bs, cap', h1, h2⟩ := trod_bytes ht he hc hf
  refine ⟨A, bs, cap', ?_, h2⟩
  simpa [Value.cells] using h1
end
end Go.Proofs.Ytekgjjanikicnaa.Sx
