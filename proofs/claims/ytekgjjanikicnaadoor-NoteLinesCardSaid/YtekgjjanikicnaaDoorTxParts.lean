/- The law TextParts: what its code does. -/
import Derived.Test.YtekgjjanikicnaaDoorTx3
namespace Go.Proofs.YtekgjjanikicnaaDoor.Sx
open Go
set_option maxRecDepth 100000
set_option linter.unusedSimpArgs false
set_option linter.unusedVariables false

theorem tAwake (fx : List Fact) : Tri Tryd.prog 48 [] [] 0 fx (Ret 0 (.b true) [] 0 []) := by
  refine Tri.of_code tok Tryd.func48 rfl rfl rfl (by decide) rfl (Nat.le_of_ble_eq_true rfl) ?_
  conv => whnf
  repeat' ((first | refine And.intro (by repeat' first | exact trivial | refine And.intro rfl ?_) (And.intro (by first | exact fun _ h => h | exact fun _ => List.mem_cons_of_mem _ | exact fun _ => List.mem_append_right _) ?_) | (refine And.intro (fun h => ?_) (fun h => ?_) <;> (try simp only [n1, n2, n3, n4, n5, n6] at h) <;> first | (exfalso; omega) | (cases h; done) | skip) | refine And.intro (by omega) ?_ | refine Exists.intro _ (And.intro (by first | exact And.intro rfl rfl | exact Pl.den (by repeat constructor) | with_reducible rfl | exact cast_succ _ | assumption | exact (Int.toNat_of_nonneg (by omega)).symm | rfl) ?_) | refine hD _ _ ?_ | refine hL _ _ ?_ | (intro h; (try simp only [n1, n2, n3, n4, n5, n6] at h); first | (exfalso; omega) | (cases h; done) | skip)) <;> (conv => whnf))
  refine Tri.lend 0 (xs := [bv 97, bv 98]) (T := 5) (fun b => [.v (.slice (some ⟨b, 0, none⟩) 2 2)]) (List.mem_cons_self ..) (rowOf.cells fun _ => rfl) (fun _ => rfl) fun b => ?_
  refine Tri.use (tEncode (rowFact b [bv 97, bv 98] 5 :: fx) _ 2 [97, 98] (by simp) (by simp) (BytesAt.row (List.mem_cons_self ..) rfl)).one [] rfl (fun _ _ _ => rfl) trivial (fun f hf => hf) fun u hu => ?_
  conv => whnf
  refine And.intro rfl ?_
  conv => whnf
  repeat' ((first | refine And.intro (by repeat' first | exact trivial | refine And.intro rfl ?_) (And.intro (by first | exact fun _ h => h | exact fun _ => List.mem_cons_of_mem _ | exact fun _ => List.mem_append_right _) ?_) | (refine And.intro (fun h => ?_) (fun h => ?_) <;> (try simp only [n1, n2, n3, n4, n5, n6] at h) <;> first | (exfalso; omega) | (cases h; done) | skip) | refine And.intro (by omega) ?_ | refine Exists.intro _ (And.intro (by first | exact And.intro rfl rfl | exact Pl.den (by repeat constructor) | with_reducible rfl | exact cast_succ _ | assumption | exact (Int.toNat_of_nonneg (by omega)).symm | rfl) ?_) | refine hD _ _ ?_ | refine hL _ _ ?_ | (intro h; (try simp only [n1, n2, n3, n4, n5, n6] at h); first | (exfalso; omega) | (cases h; done) | skip)) <;> (conv => whnf))
  exact Ret.noneS rfl (fun _ _ => rfl) (fun _ h => nomatch h)
theorem enc_append : ∀ (a b : List UInt8), a.length % 3 = 0 → enc (a ++ b) = enc a ++ enc b
  | [], b, _ => by simp [enc]
  | [_], _, h => by simp at h
  | [_, _], _, h => by simp at h
  | x :: y :: z :: r, b, h => by
    simp only [List.length_cons] at h
    simp only [List.cons_append, enc]
    rw [enc_append r b (by omega)]
end Go.Proofs.YtekgjjanikicnaaDoor.Sx
