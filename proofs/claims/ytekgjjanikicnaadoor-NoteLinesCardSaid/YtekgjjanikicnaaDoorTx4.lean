/- What the text laws' callees do, part 4: two rows of bytes compared. -/
import Derived.Test.YtekgjjanikicnaaDoorTx1
import Derived.Test.YtekgjjanikicnaaDoorSxN
namespace Go.Proofs.YtekgjjanikicnaaDoor.Sx
open Go
set_option maxRecDepth 100000
set_option linter.unusedSimpArgs false
set_option linter.unusedVariables false

theorem BytesAt.get {fx : List Fact} {A : Option Addr} {bs : List UInt8} (h : BytesAt fx A bs) {i : Nat} (hi : i < bs.length) : ∃ ad, A = some ad ∧ FC fx (ad.add (i * 1)) (bv bs[i]) := by
  cases A with
  | none => rw [h.1 rfl] at hi; simp at hi
  | some ad => exact ⟨ad, rfl, by rw [Nat.mul_one]; exact h.2 ad rfl i _ (List.getElem?_eq_getElem hi)⟩
theorem tSame (fx : List Fact) (A B : Option Addr) (ca cb : Nat) (a b : List UInt8) (hA : BytesAt fx A a) (hB : BytesAt fx B b) (hl : a.length < 9223372036854775808) :
    Tri Tryd.prog 42 [.v (.slice A a.length ca), .v (.slice B b.length cb)] [] 0 fx (Ret 0 (.v (.bool (decide (a = b)))) [] 0 []) := by
  refine Tri.of_code tok Tryd.func42 rfl rfl rfl (by decide) rfl (Nat.le_of_ble_eq_true rfl) ?_
  conv => whnf
  repeat' ((first | refine And.intro (by repeat' first | exact trivial | refine And.intro rfl ?_) (And.intro (by first | exact fun _ h => h | exact fun _ => List.mem_cons_of_mem _ | exact fun _ => List.mem_append_right _) ?_) | (refine And.intro (fun h => ?_) (fun h => ?_) <;> (try simp only [n1, n2, n3, n4, n5, n6] at h) <;> first | (exfalso; omega) | (cases h; done) | skip) | refine And.intro (by omega) ?_ | refine Exists.intro _ (And.intro (by first | exact And.intro rfl rfl | exact Pl.den (by repeat constructor) | with_reducible rfl | exact cast_succ _ | assumption | exact (Int.toNat_of_nonneg (by omega)).symm | rfl) ?_) | refine hD _ _ ?_ | refine hL _ _ ?_ | (intro h; (try simp only [n1, n2, n3, n4, n5, n6] at h); first | (exfalso; omega) | (cases h; done) | skip)) <;> (conv => whnf))
  · refine Ret.none rfl (fun ρ => ?_) (fun _ h => nomatch h)
    have hne : a ≠ b := fun e => by subst e; exact h rfl
    simp [den, hne]
  have hlen : a.length = b.length := by omega
  refine loop_by tok (α := Nat) (fun i => ⟨[(0, .v (.slice A a.length ca)), (1, .v (.slice B b.length cb)), (4, .b false), (5, .v (.int .i64 i))], [], 0, fx⟩) (fun i => i ≤ a.length ∧ a.take i = b.take i) (fun i => a.length - i) 0 [] (by simp) ⟨rfl, ?_, trivial, fun f hf => hf⟩ ?_
  · exact ⟨fun _ _ _ => rfl, fun _ _ _ => rfl, fun _ _ _ => rfl, fun _ _ _ => rfl, trivial⟩
  rintro i ⟨hi, he⟩
  conv => whnf
  repeat' ((first | refine And.intro (by repeat' first | exact trivial | refine And.intro rfl ?_) (And.intro (by first | exact fun _ h => h | exact fun _ => List.mem_cons_of_mem _ | exact fun _ => List.mem_append_right _) ?_) | (refine And.intro (fun h => ?_) (fun h => ?_) <;> (try simp only [n1, n2, n3, n4, n5, n6] at h) <;> first | (exfalso; omega) | (cases h; done) | skip) | refine And.intro (by omega) ?_ | refine Exists.intro _ (And.intro (by first | exact And.intro rfl rfl | exact Pl.den (by repeat constructor) | with_reducible rfl | exact cast_succ _ | assumption | exact (Int.toNat_of_nonneg (by omega)).symm | rfl) ?_) | refine hD _ _ ?_ | refine hL _ _ ?_ | (intro h; (try simp only [n1, n2, n3, n4, n5, n6] at h); first | (exfalso; omega) | (cases h; done) | skip)) <;> (conv => whnf))
  · refine draw_rule tok (by kernel_rfl) [.any 0, .any 1, .any 2, .any 4, .any 5, .any 6, .load 3, .load 7, .any 8] [] [] (by kernel_rfl) rfl rfl trivial ?_
    have hi1 : i < a.length := by omega
    have hi2 : i < b.length := by omega
    obtain ⟨ad, rfl, h1⟩ := hA.get hi1
    obtain ⟨bd, rfl, h2⟩ := hB.get hi2
    conv => whnf
    repeat' ((first | refine And.intro (by repeat' first | exact trivial | refine And.intro rfl ?_) (And.intro (by first | exact fun _ h => h | exact fun _ => List.mem_cons_of_mem _ | exact fun _ => List.mem_append_right _) ?_) | (refine And.intro (fun h => ?_) (fun h => ?_) <;> (try simp only [n1, n2, n3, n4, n5, n6] at h) <;> first | (exfalso; omega) | (cases h; done) | skip) | refine And.intro (by omega) ?_ | refine Exists.intro _ (And.intro (by first | exact And.intro rfl rfl | exact Pl.den (by repeat constructor) | with_reducible rfl | exact cast_succ _ | assumption | exact (Int.toNat_of_nonneg (by omega)).symm | rfl) ?_) | refine hD _ _ ?_ | refine hL _ _ ?_ | (intro h; (try simp only [n1, n2, n3, n4, n5, n6] at h); first | (exfalso; omega) | (cases h; done) | skip)) <;> (conv => whnf))
    · refine Ret.none rfl (fun ρ => ?_) (fun _ h => nomatch h)
      have hne : a ≠ b := fun e => by
        subst e
        exact h rfl
      simp [den, hne]
    · refine ⟨i + 1, [], ⟨⟨by omega, ?_⟩, by omega⟩, rfl, ⟨(fun _ _ _ => rfl), (fun _ _ _ => rfl), (fun _ _ _ => rfl), (fun _ _ _ => rfl), trivial⟩, trivial, fun f hf => hf⟩
      have hab : a[i] = b[i] := UInt8.toNat_inj.1 (by omega)
      rw [take_succ_of (List.getElem?_eq_getElem hi1), take_succ_of (List.getElem?_eq_getElem hi2), he, hab]
  · refine Ret.none rfl (fun ρ => ?_) (fun _ h => nomatch h)
    obtain rfl : i = a.length := by omega
    have hab : a = b := by
      rw [List.take_length, hlen, List.take_length] at he
      exact he
    simp [den, hab]
end Go.Proofs.YtekgjjanikicnaaDoor.Sx
