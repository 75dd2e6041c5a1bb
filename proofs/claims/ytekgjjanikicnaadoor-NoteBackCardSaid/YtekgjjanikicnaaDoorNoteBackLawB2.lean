/- Lemmas of this proof, part 2: 9 texts joined. -/
import Derived.Test.YtekgjjanikicnaaDoorNoteBackLawB1
namespace Go.Proofs.YtekgjjanikicnaaDoor.Sx
open Go
set_option maxRecDepth 100000
set_option linter.unusedSimpArgs false
set_option linter.unusedVariables false

theorem sgn_cut_all : (List.range 64).all (fun n => (signsB.data.toList.take (n + 1)).drop n == [sgn6 n]) = true := by decide +kernel
theorem sgn_cut {n : Nat} (h : n < 64) : signsB.extract n (n + 1) = ⟨#[sgn6 n]⟩ := by
  have := List.all_eq_true.1 sgn_cut_all n (List.mem_range.2 h)
  simp only [beq_iff_eq] at this
  apply ByteArray.ext
  apply Array.ext'
  rw [ext_list, this]
theorem sgn_val_all : (List.range 256).all (fun n => decide (val6 (UInt8.ofNat n) = 64) || sgn6 (val6 (UInt8.ofNat n)) == UInt8.ofNat n) = true := by decide +kernel
theorem sgn_val {c : UInt8} (h : val6 c < 64) : sgn6 (val6 c) = c := by
  have := List.all_eq_true.1 sgn_val_all c.toNat (List.mem_range.2 (bv_lt c))
  simp only [UInt8.ofNat_toNat, Bool.or_eq_true, decide_eq_true_eq, beq_iff_eq] at this
  rcases this with h1 | h1
  · omega
  · exact h1
theorem tSgn (fx : List Fact) (n : Int) (h0 : 0 ≤ n) (h1 : n < 64) : Tri Tryd.prog 111 [.v (.int .i64 n)] [] 0 fx (Ret 0 (.v (.string ⟨#[sgn6 n.toNat]⟩)) [] 0 []) := by
  obtain ⟨k, rfl⟩ := Int.eq_ofNat_of_zero_le h0
  refine Tri.of_code tok Tryd.func111 rfl rfl rfl (by decide) rfl (Nat.le_of_ble_eq_true rfl) ?_
  conv => whnf
  repeat' ((first | refine And.intro (by repeat' first | exact trivial | refine And.intro rfl ?_) (And.intro (by first | exact fun _ h => h | exact fun _ => List.mem_cons_of_mem _ | exact fun _ => List.mem_append_right _) ?_) | (refine And.intro (fun h => ?_) (fun h => ?_) <;> (try simp only [n1, n2, n3, n4, n5, n6] at h) <;> first | (exfalso; omega) | (cases h; done) | skip) | refine And.intro (by omega) ?_ | refine Exists.intro _ (And.intro (by first | exact And.intro rfl rfl | exact Pl.den (by repeat constructor) | with_reducible rfl | exact cast_succ _ | assumption | exact (Int.toNat_of_nonneg (by omega)).symm | rfl) ?_) | refine hD _ _ ?_ | refine hL _ _ ?_ | (intro h; (try simp only [n1, n2, n3, n4, n5, n6] at h); first | (exfalso; omega) | (cases h; done) | skip)) <;> (conv => whnf))
  refine And.intro (show k + 1 ≤ 64 by omega) ?_
  conv => whnf
  repeat' ((first | refine And.intro (by repeat' first | exact trivial | refine And.intro rfl ?_) (And.intro (by first | exact fun _ h => h | exact fun _ => List.mem_cons_of_mem _ | exact fun _ => List.mem_append_right _) ?_) | (refine And.intro (fun h => ?_) (fun h => ?_) <;> (try simp only [n1, n2, n3, n4, n5, n6] at h) <;> first | (exfalso; omega) | (cases h; done) | skip) | refine And.intro (by omega) ?_ | refine Exists.intro _ (And.intro (by first | exact And.intro rfl rfl | exact Pl.den (by repeat constructor) | with_reducible rfl | exact cast_succ _ | assumption | exact (Int.toNat_of_nonneg (by omega)).symm | rfl) ?_) | refine hD _ _ ?_ | refine hL _ _ ?_ | (intro h; (try simp only [n1, n2, n3, n4, n5, n6] at h); first | (exfalso; omega) | (cases h; done) | skip)) <;> (conv => whnf))
  refine Ret.noneS rfl (fun _ _ => ?_) (fun _ h => nomatch h)
  show Value.string _ = Value.string _
  rw [Int.toNat_natCast]
  exact congrArg Value.string (sgn_cut (by omega)).symm
theorem tValue (fx : List Fact) (c : UInt8) : Tri Tryd.prog 131 [.v (bv c)] [] 0 fx (Ret 0 (.v (.int .i64 (if val6 c = 64 then -1 else (val6 c : Int)))) [] 0 []) := by
  refine Tri.of_code tok Tryd.func131 rfl rfl rfl (by decide) rfl (Nat.le_of_ble_eq_true rfl) ?_
  conv => whnf
  refine loop_by tok (α := Nat) (fun i => ⟨[(0, .v (bv c)), (3, .v (.int .i64 i))], [], 0, fx⟩) (fun i => i ≤ 64 ∧ ∀ j, j < i → sgn6 j ≠ c) (fun i => 64 - i) 0 [] ⟨by omega, fun j hj => by omega⟩ ⟨rfl, ?_, trivial, fun f hf => hf⟩ ?_
  · exact ⟨fun _ _ _ => rfl, fun _ _ _ => rfl, trivial⟩
  rintro i ⟨hi, ha⟩
  conv => whnf
  repeat' ((first | refine And.intro (by repeat' first | exact trivial | refine And.intro rfl ?_) (And.intro (by first | exact fun _ h => h | exact fun _ => List.mem_cons_of_mem _ | exact fun _ => List.mem_append_right _) ?_) | (refine And.intro (fun h => ?_) (fun h => ?_) <;> (try simp only [n1, n2, n3, n4, n5, n6] at h) <;> first | (exfalso; omega) | (cases h; done) | skip) | refine And.intro (by omega) ?_ | refine Exists.intro _ (And.intro (by first | exact And.intro rfl rfl | exact Pl.den (by repeat constructor) | with_reducible rfl | exact cast_succ _ | assumption | exact (Int.toNat_of_nonneg (by omega)).symm | rfl) ?_) | refine hD _ _ ?_ | refine hL _ _ ?_ | (intro h; (try simp only [n1, n2, n3, n4, n5, n6] at h); first | (exfalso; omega) | (cases h; done) | skip)) <;> (conv => whnf))
  · refine draw_tree tok (by kernel_rfl) (.step (.any 0) (.step (.any 2) (.two 1 (.step (.one 3) (.step (.one 4) (.step (.any 5) .done))) 3 (.two 1 (.step (.one 4) (.step (.any 5) .done)) 4 (.step (.one 1) (.step (.any 5) .done)))))) [] [] (by kernel_rfl) rfl rfl trivial ?_
    conv => whnf
    repeat' ((first | refine And.intro (by repeat' first | exact trivial | refine And.intro rfl ?_) (And.intro (by first | exact fun _ h => h | exact fun _ => List.mem_cons_of_mem _ | exact fun _ => List.mem_append_right _) ?_) | (refine And.intro (fun h => ?_) (fun h => ?_) <;> (try simp only [n1, n2, n3, n4, n5, n6] at h) <;> first | (exfalso; omega) | (cases h; done) | skip) | refine And.intro (by omega) ?_ | refine Exists.intro _ (And.intro (by first | exact And.intro rfl rfl | exact Pl.den (by repeat constructor) | with_reducible rfl | exact cast_succ _ | assumption | exact (Int.toNat_of_nonneg (by omega)).symm | rfl) ?_) | refine hD _ _ ?_ | refine hL _ _ ?_ | (intro h; (try simp only [n1, n2, n3, n4, n5, n6] at h); first | (exfalso; omega) | (cases h; done) | skip)) <;> (conv => whnf))
    refine And.intro ?_ ?_
    · conv => whnf
      repeat' ((first | refine And.intro (by repeat' first | exact trivial | refine And.intro rfl ?_) (And.intro (by first | exact fun _ h => h | exact fun _ => List.mem_cons_of_mem _ | exact fun _ => List.mem_append_right _) ?_) | (refine And.intro (fun h => ?_) (fun h => ?_) <;> (try simp only [n1, n2, n3, n4, n5, n6] at h) <;> first | (exfalso; omega) | (cases h; done) | skip) | refine And.intro (by omega) ?_ | refine Exists.intro _ (And.intro (by first | exact And.intro rfl rfl | exact Pl.den (by repeat constructor) | with_reducible rfl | exact cast_succ _ | assumption | exact (Int.toNat_of_nonneg (by omega)).symm | rfl) ?_) | refine hD _ _ ?_ | refine hL _ _ ?_ | (intro h; (try simp only [n1, n2, n3, n4, n5, n6] at h); first | (exfalso; omega) | (cases h; done) | skip)) <;> (conv => whnf))
      refine Tri.use (tSgn fx i (by omega) (by omega)).one [] rfl (args_ren rfl rfl) trivial (fun f hf => by first | exact hf | cases hf | simp_all) (fun u hu => ?_)
      conv => whnf
      repeat' ((first | refine And.intro (by repeat' first | exact trivial | refine And.intro rfl ?_) (And.intro (by first | exact fun _ h => h | exact fun _ => List.mem_cons_of_mem _ | exact fun _ => List.mem_append_right _) ?_) | (refine And.intro (fun h => ?_) (fun h => ?_) <;> (try simp only [n1, n2, n3, n4, n5, n6] at h) <;> first | (exfalso; omega) | (cases h; done) | skip) | refine And.intro (by omega) ?_ | refine Exists.intro _ (And.intro (by first | exact And.intro rfl rfl | exact Pl.den (by repeat constructor) | with_reducible rfl | exact cast_succ _ | assumption | exact (Int.toNat_of_nonneg (by omega)).symm | rfl) ?_) | refine hD _ _ ?_ | refine hL _ _ ?_ | (intro h; (try simp only [n1, n2, n3, n4, n5, n6] at h); first | (exfalso; omega) | (cases h; done) | skip)) <;> (conv => whnf))
      refine ⟨[c], rfl, ?_⟩
      conv => whnf
      repeat' ((first | refine And.intro (by repeat' first | exact trivial | refine And.intro rfl ?_) (And.intro (by first | exact fun _ h => h | exact fun _ => List.mem_cons_of_mem _ | exact fun _ => List.mem_append_right _) ?_) | (refine And.intro (fun h => ?_) (fun h => ?_) <;> (try simp only [n1, n2, n3, n4, n5, n6] at h) <;> first | (exfalso; omega) | (cases h; done) | skip) | refine And.intro (by omega) ?_ | refine Exists.intro _ (And.intro (by first | exact And.intro rfl rfl | exact Pl.den (by repeat constructor) | with_reducible rfl | exact cast_succ _ | assumption | exact (Int.toNat_of_nonneg (by omega)).symm | rfl) ?_) | refine hD _ _ ?_ | refine hL _ _ ?_ | (intro h; (try simp only [n1, n2, n3, n4, n5, n6] at h); first | (exfalso; omega) | (cases h; done) | skip)) <;> (conv => whnf))
      all_goals first
        | (refine Ret.noneS rfl (fun _ _ => ?_) (fun _ h => nomatch h)
           have hc : sgn6 i = c := by simpa [Int.toNat_natCast] using h
           have hv : val6 c = i := by rw [← hc]; exact val_sgn (by omega)
           simp only [den, hv]
           rw [if_neg (by omega)])
        | (refine ⟨i + 1, [], ⟨⟨by omega, fun j hj => ?_⟩, by omega⟩, rfl, ⟨fun _ _ _ => rfl, fun _ _ _ => rfl, trivial⟩, trivial, fun f hf => hf⟩
           have hc : sgn6 i ≠ c := by simpa [Int.toNat_natCast] using h
           rcases Nat.lt_succ_iff_lt_or_eq.1 hj with h2 | h2
           · exact ha j h2
           · rw [h2]; exact hc)
    · conv => whnf
      repeat' ((first | refine And.intro (by repeat' first | exact trivial | refine And.intro rfl ?_) (And.intro (by first | exact fun _ h => h | exact fun _ => List.mem_cons_of_mem _ | exact fun _ => List.mem_append_right _) ?_) | (refine And.intro (fun h => ?_) (fun h => ?_) <;> (try simp only [n1, n2, n3, n4, n5, n6] at h) <;> first | (exfalso; omega) | (cases h; done) | skip) | refine And.intro (by omega) ?_ | refine Exists.intro _ (And.intro (by first | exact And.intro rfl rfl | exact Pl.den (by repeat constructor) | with_reducible rfl | exact cast_succ _ | assumption | exact (Int.toNat_of_nonneg (by omega)).symm | rfl) ?_) | refine hD _ _ ?_ | refine hL _ _ ?_ | (intro h; (try simp only [n1, n2, n3, n4, n5, n6] at h); first | (exfalso; omega) | (cases h; done) | skip)) <;> (conv => whnf))
      refine And.intro ?_ ?_
      · conv => whnf
        repeat' ((first | refine And.intro (by repeat' first | exact trivial | refine And.intro rfl ?_) (And.intro (by first | exact fun _ h => h | exact fun _ => List.mem_cons_of_mem _ | exact fun _ => List.mem_append_right _) ?_) | (refine And.intro (fun h => ?_) (fun h => ?_) <;> (try simp only [n1, n2, n3, n4, n5, n6] at h) <;> first | (exfalso; omega) | (cases h; done) | skip) | refine And.intro (by omega) ?_ | refine Exists.intro _ (And.intro (by first | exact And.intro rfl rfl | exact Pl.den (by repeat constructor) | with_reducible rfl | exact cast_succ _ | assumption | exact (Int.toNat_of_nonneg (by omega)).symm | rfl) ?_) | refine hD _ _ ?_ | refine hL _ _ ?_ | (intro h; (try simp only [n1, n2, n3, n4, n5, n6] at h); first | (exfalso; omega) | (cases h; done) | skip)) <;> (conv => whnf))
        refine Tri.use (tSgn fx i (by omega) (by omega)).one [] rfl (args_ren rfl rfl) trivial (fun f hf => by first | exact hf | cases hf | simp_all) (fun u hu => ?_)
        conv => whnf
        repeat' ((first | refine And.intro (by repeat' first | exact trivial | refine And.intro rfl ?_) (And.intro (by first | exact fun _ h => h | exact fun _ => List.mem_cons_of_mem _ | exact fun _ => List.mem_append_right _) ?_) | (refine And.intro (fun h => ?_) (fun h => ?_) <;> (try simp only [n1, n2, n3, n4, n5, n6] at h) <;> first | (exfalso; omega) | (cases h; done) | skip) | refine And.intro (by omega) ?_ | refine Exists.intro _ (And.intro (by first | exact And.intro rfl rfl | exact Pl.den (by repeat constructor) | with_reducible rfl | exact cast_succ _ | assumption | exact (Int.toNat_of_nonneg (by omega)).symm | rfl) ?_) | refine hD _ _ ?_ | refine hL _ _ ?_ | (intro h; (try simp only [n1, n2, n3, n4, n5, n6] at h); first | (exfalso; omega) | (cases h; done) | skip)) <;> (conv => whnf))
        refine ⟨[c], rfl, ?_⟩
        conv => whnf
        repeat' ((first | refine And.intro (by repeat' first | exact trivial | refine And.intro rfl ?_) (And.intro (by first | exact fun _ h => h | exact fun _ => List.mem_cons_of_mem _ | exact fun _ => List.mem_append_right _) ?_) | (refine And.intro (fun h => ?_) (fun h => ?_) <;> (try simp only [n1, n2, n3, n4, n5, n6] at h) <;> first | (exfalso; omega) | (cases h; done) | skip) | refine And.intro (by omega) ?_ | refine Exists.intro _ (And.intro (by first | exact And.intro rfl rfl | exact Pl.den (by repeat constructor) | with_reducible rfl | exact cast_succ _ | assumption | exact (Int.toNat_of_nonneg (by omega)).symm | rfl) ?_) | refine hD _ _ ?_ | refine hL _ _ ?_ | (intro h; (try simp only [n1, n2, n3, n4, n5, n6] at h); first | (exfalso; omega) | (cases h; done) | skip)) <;> (conv => whnf))
        all_goals first
          | (refine Ret.noneS rfl (fun _ _ => ?_) (fun _ h => nomatch h)
             have hc : sgn6 i = c := by simpa [Int.toNat_natCast] using h
             have hv : val6 c = i := by rw [← hc]; exact val_sgn (by omega)
             simp only [den, hv]
             rw [if_neg (by omega)])
          | (refine ⟨i + 1, [], ⟨⟨by omega, fun j hj => ?_⟩, by omega⟩, rfl, ⟨fun _ _ _ => rfl, fun _ _ _ => rfl, trivial⟩, trivial, fun f hf => hf⟩
             have hc : sgn6 i ≠ c := by simpa [Int.toNat_natCast] using h
             rcases Nat.lt_succ_iff_lt_or_eq.1 hj with h2 | h2
             · exact ha j h2
             · rw [h2]; exact hc)
      · conv => whnf
        repeat' ((first | refine And.intro (by repeat' first | exact trivial | refine And.intro rfl ?_) (And.intro (by first | exact fun _ h => h | exact fun _ => List.mem_cons_of_mem _ | exact fun _ => List.mem_append_right _) ?_) | (refine And.intro (fun h => ?_) (fun h => ?_) <;> (try simp only [n1, n2, n3, n4, n5, n6] at h) <;> first | (exfalso; omega) | (cases h; done) | skip) | refine And.intro (by omega) ?_ | refine Exists.intro _ (And.intro (by first | exact And.intro rfl rfl | exact Pl.den (by repeat constructor) | with_reducible rfl | exact cast_succ _ | assumption | exact (Int.toNat_of_nonneg (by omega)).symm | rfl) ?_) | refine hD _ _ ?_ | refine hL _ _ ?_ | (intro h; (try simp only [n1, n2, n3, n4, n5, n6] at h); first | (exfalso; omega) | (cases h; done) | skip)) <;> (conv => whnf))
        refine ⟨[c], rfl, ?_⟩
        conv => whnf
        repeat' ((first | refine And.intro (by repeat' first | exact trivial | refine And.intro rfl ?_) (And.intro (by first | exact fun _ h => h | exact fun _ => List.mem_cons_of_mem _ | exact fun _ => List.mem_append_right _) ?_) | (refine And.intro (fun h => ?_) (fun h => ?_) <;> (try simp only [n1, n2, n3, n4, n5, n6] at h) <;> first | (exfalso; omega) | (cases h; done) | skip) | refine And.intro (by omega) ?_ | refine Exists.intro _ (And.intro (by first | exact And.intro rfl rfl | exact Pl.den (by repeat constructor) | with_reducible rfl | exact cast_succ _ | assumption | exact (Int.toNat_of_nonneg (by omega)).symm | rfl) ?_) | refine hD _ _ ?_ | refine hL _ _ ?_ | (intro h; (try simp only [n1, n2, n3, n4, n5, n6] at h); first | (exfalso; omega) | (cases h; done) | skip)) <;> (conv => whnf))
        refine Tri.use (tSgn fx i (by omega) (by omega)).one [] rfl (args_ren rfl rfl) trivial (fun f hf => by first | exact hf | cases hf | simp_all) (fun u hu => ?_)
        conv => whnf
        repeat' ((first | refine And.intro (by repeat' first | exact trivial | refine And.intro rfl ?_) (And.intro (by first | exact fun _ h => h | exact fun _ => List.mem_cons_of_mem _ | exact fun _ => List.mem_append_right _) ?_) | (refine And.intro (fun h => ?_) (fun h => ?_) <;> (try simp only [n1, n2, n3, n4, n5, n6] at h) <;> first | (exfalso; omega) | (cases h; done) | skip) | refine And.intro (by omega) ?_ | refine Exists.intro _ (And.intro (by first | exact And.intro rfl rfl | exact Pl.den (by repeat constructor) | with_reducible rfl | exact cast_succ _ | assumption | exact (Int.toNat_of_nonneg (by omega)).symm | rfl) ?_) | refine hD _ _ ?_ | refine hL _ _ ?_ | (intro h; (try simp only [n1, n2, n3, n4, n5, n6] at h); first | (exfalso; omega) | (cases h; done) | skip)) <;> (conv => whnf))
        all_goals first
          | (refine Ret.noneS rfl (fun _ _ => ?_) (fun _ h => nomatch h)
             have hc : sgn6 i = c := by simpa [Int.toNat_natCast] using h
             have hv : val6 c = i := by rw [← hc]; exact val_sgn (by omega)
             simp only [den, hv]
             rw [if_neg (by omega)])
          | (refine ⟨i + 1, [], ⟨⟨by omega, fun j hj => ?_⟩, by omega⟩, rfl, ⟨fun _ _ _ => rfl, fun _ _ _ => rfl, trivial⟩, trivial, fun f hf => hf⟩
             have hc : sgn6 i ≠ c := by simpa [Int.toNat_natCast] using h
             rcases Nat.lt_succ_iff_lt_or_eq.1 hj with h2 | h2
             · exact ha j h2
             · rw [h2]; exact hc)
  · refine Ret.noneS rfl (fun _ _ => ?_) (fun _ h => nomatch h)
    have h6 : val6 c = 64 := by
      have h1 := val6_le c
      have h2 : ¬ val6 c < 64 := fun h => ha _ (by omega) (sgn_val h)
      omega
    simp [den, h6]
theorem bb (l m : List UInt8) : (⟨l.toArray⟩ ++ ⟨m.toArray⟩ : ByteArray) = ⟨(l ++ m).toArray⟩ := by
  apply ByteArray.ext
  apply Array.ext'
  rw [app_list]
theorem arr_size (l : List UInt8) : (⟨l.toArray⟩ : ByteArray).size = l.length := by simp [ByteArray.size]
theorem take1 {bs : List UInt8} {i : Nat} {x : UInt8} (hx : bs[i]? = some x) : bs.take (i + 1) = bs.take i ++ [x] := take_succ_of hx
theorem take2 {bs : List UInt8} {i : Nat} {x y : UInt8} (hx : bs[i]? = some x) (hy : bs[i + 1]? = some y) : bs.take (i + 2) = bs.take i ++ [x, y] := by
  rw [take1 hy, take1 hx, List.append_assoc]; rfl
theorem take3 {bs : List UInt8} {i : Nat} {x y z : UInt8} (hx : bs[i]? = some x) (hy : bs[i + 1]? = some y) (hz : bs[i + 2]? = some z) : bs.take (i + 3) = bs.take i ++ [x, y, z] := by
  rw [take1 hz, take2 hx hy, List.append_assoc]; rfl
theorem tRefEncode (fx : List Fact) (A : Option Addr) (cap : Nat) (bs : List UInt8) (hb : bs.length ≤ 1000000000) (hB : BytesAt fx A bs) :
    Tri Tryd.prog 81 [.v (.slice A bs.length cap)] [] 0 fx (Ret 0 (.v (.string ⟨(enc bs).toArray⟩)) [] 0 []) := by
  refine Tri.of_code tok Tryd.func81 rfl rfl rfl (by decide) rfl (Nat.le_of_ble_eq_true rfl) ?_
  conv => whnf
  refine loop_by tok (α := Nat) (fun i => ⟨[(0, .v (.slice A bs.length cap)), (3, .v (.string ⟨(enc (bs.take i)).toArray⟩)), (4, .v (.int .i64 i))], [], 0, fx⟩) (fun i => i ≤ bs.length ∧ i % 3 = 0) (fun i => bs.length - i) 0 [] ⟨by omega, rfl⟩ ⟨rfl, ?_, trivial, fun f hf => hf⟩ ?_
  · exact ⟨fun _ _ _ => rfl, fun _ _ _ => rfl, fun _ _ _ => rfl, trivial⟩
  rintro i ⟨hi, h3⟩
  have hlen := enc_length (bs.take i)
  rw [List.length_take, Nat.min_eq_left hi] at hlen
  conv => whnf
  repeat' ((first | refine And.intro (by repeat' first | exact trivial | refine And.intro rfl ?_) (And.intro (by first | exact fun _ h => h | exact fun _ => List.mem_cons_of_mem _ | exact fun _ => List.mem_append_right _) ?_) | (refine And.intro (fun h => ?_) (fun h => ?_) <;> (try simp only [n1, n2, n3, n4, n5, n6] at h) <;> first | (exfalso; omega) | (cases h; done) | skip) | refine And.intro (by omega) ?_ | refine Exists.intro _ (And.intro (by first | exact And.intro rfl rfl | exact Pl.den (by repeat constructor) | with_reducible rfl | exact cast_succ _ | assumption | exact (Int.toNat_of_nonneg (by omega)).symm | rfl) ?_) | refine hD _ _ ?_ | refine hL _ _ ?_ | (intro h; (try simp only [n1, n2, n3, n4, n5, n6] at h); first | (exfalso; omega) | (cases h; done) | skip)) <;> (conv => whnf))
  · refine draw_rule tok (by kernel_rfl) [.any 0, .any 1, .any 2, .any 5, .any 6, .any 7, .any 8, .any 11, .any 12, .any 13, .any 14, .load 3, .any 4, .any 17, .load 9, .any 10, .any 18, .one 15, .any 16, .any 19] [] [] (by kernel_rfl) rfl rfl trivial ?_
    obtain ⟨ad, rfl, g0⟩ := hB.get (i := i) (by omega)
    have k0 := List.getElem?_eq_getElem (l := bs) (i := i) (by omega)
    generalize bs[i] = x0 at g0 k0
    have l0 := bv_lt x0
    obtain ⟨ad1, e1, g1⟩ := hB.get (i := i + 1) (by omega)
    have k1 := List.getElem?_eq_getElem (l := bs) (i := i + 1) (by omega)
    generalize bs[i + 1] = x1 at g1 k1
    have l1 := bv_lt x1
    obtain ⟨ad2, e2, g2⟩ := hB.get (i := i + 2) (by omega)
    have k2 := List.getElem?_eq_getElem (l := bs) (i := i + 2) (by omega)
    generalize bs[i + 2] = x2 at g2 k2
    have l2 := bv_lt x2
    obtain rfl := Option.some.inj e1
    obtain rfl := Option.some.inj e2
    conv => whnf
    repeat' ((first | (refine Exists.intro (i + 2) (And.intro (show (i : Int) + 2 = ((i + 2 : Nat) : Int) by omega) ?_)) | refine And.intro (by repeat' first | exact trivial | refine And.intro rfl ?_) (And.intro (by first | exact fun _ h => h | exact fun _ => List.mem_cons_of_mem _ | exact fun _ => List.mem_append_right _) ?_) | (refine And.intro (fun h => ?_) (fun h => ?_) <;> (try simp only [n1, n2, n3, n4, n5, n6] at h) <;> first | (exfalso; omega) | (cases h; done) | skip) | refine And.intro (by omega) ?_ | refine Exists.intro _ (And.intro (by first | exact And.intro rfl rfl | exact Pl.den (by repeat constructor) | with_reducible rfl | exact cast_succ _ | assumption | exact (Int.toNat_of_nonneg (by omega)).symm | rfl) ?_) | refine hD _ _ ?_ | refine hL _ _ ?_ | (intro h; (try simp only [n1, n2, n3, n4, n5, n6] at h); first | (exfalso; omega) | (cases h; done) | skip)) <;> (conv => whnf))
    refine Tri.use (tSgn fx ((x0.toNat : Int) / 4) (by omega) (by omega)).one [] rfl (args_ren rfl rfl) trivial (fun f hf => by first | exact hf | cases hf | simp_all) (fun u hu => ?_)
    conv => whnf
    repeat' ((first | (refine And.intro (by simp only [app_size, one_size, arr_size, List.length_cons, List.length_nil]; omega) ?_) | refine And.intro (by repeat' first | exact trivial | refine And.intro rfl ?_) (And.intro (by first | exact fun _ h => h | exact fun _ => List.mem_cons_of_mem _ | exact fun _ => List.mem_append_right _) ?_) | (refine And.intro (fun h => ?_) (fun h => ?_) <;> (try simp only [n1, n2, n3, n4, n5, n6] at h) <;> first | (exfalso; omega) | (cases h; done) | skip) | refine And.intro (by omega) ?_ | refine Exists.intro _ (And.intro (by first | exact And.intro rfl rfl | exact Pl.den (by repeat constructor) | with_reducible rfl | exact cast_succ _ | assumption | exact (Int.toNat_of_nonneg (by omega)).symm | rfl) ?_) | refine hD _ _ ?_ | refine hL _ _ ?_ | (intro h; (try simp only [n1, n2, n3, n4, n5, n6] at h); first | (exfalso; omega) | (cases h; done) | skip)) <;> (conv => whnf))
    refine Tri.use (tSgn fx ((x0.toNat : Int) % 4 * 16 + (x1.toNat : Int) / 16) (by omega) (by omega)).one [] rfl (args_ren rfl rfl) trivial (fun f hf => by first | exact hf | cases hf | simp_all) (fun u hu => ?_)
    conv => whnf
    repeat' ((first | (refine And.intro (by simp only [app_size, one_size, arr_size, List.length_cons, List.length_nil]; omega) ?_) | refine And.intro (by repeat' first | exact trivial | refine And.intro rfl ?_) (And.intro (by first | exact fun _ h => h | exact fun _ => List.mem_cons_of_mem _ | exact fun _ => List.mem_append_right _) ?_) | (refine And.intro (fun h => ?_) (fun h => ?_) <;> (try simp only [n1, n2, n3, n4, n5, n6] at h) <;> first | (exfalso; omega) | (cases h; done) | skip) | refine And.intro (by omega) ?_ | refine Exists.intro _ (And.intro (by first | exact And.intro rfl rfl | exact Pl.den (by repeat constructor) | with_reducible rfl | exact cast_succ _ | assumption | exact (Int.toNat_of_nonneg (by omega)).symm | rfl) ?_) | refine hD _ _ ?_ | refine hL _ _ ?_ | (intro h; (try simp only [n1, n2, n3, n4, n5, n6] at h); first | (exfalso; omega) | (cases h; done) | skip)) <;> (conv => whnf))
    refine Tri.use (tSgn fx ((x1.toNat : Int) % 16 * 4 + (x2.toNat : Int) / 64) (by omega) (by omega)).one [] rfl (args_ren rfl rfl) trivial (fun f hf => by first | exact hf | cases hf | simp_all) (fun u hu => ?_)
    conv => whnf
    repeat' ((first | (refine And.intro (by simp only [app_size, one_size, arr_size, List.length_cons, List.length_nil]; omega) ?_) | refine And.intro (by repeat' first | exact trivial | refine And.intro rfl ?_) (And.intro (by first | exact fun _ h => h | exact fun _ => List.mem_cons_of_mem _ | exact fun _ => List.mem_append_right _) ?_) | (refine And.intro (fun h => ?_) (fun h => ?_) <;> (try simp only [n1, n2, n3, n4, n5, n6] at h) <;> first | (exfalso; omega) | (cases h; done) | skip) | refine And.intro (by omega) ?_ | refine Exists.intro _ (And.intro (by first | exact And.intro rfl rfl | exact Pl.den (by repeat constructor) | with_reducible rfl | exact cast_succ _ | assumption | exact (Int.toNat_of_nonneg (by omega)).symm | rfl) ?_) | refine hD _ _ ?_ | refine hL _ _ ?_ | (intro h; (try simp only [n1, n2, n3, n4, n5, n6] at h); first | (exfalso; omega) | (cases h; done) | skip)) <;> (conv => whnf))
    refine Tri.use (tSgn fx ((x2.toNat : Int) % 64) (by omega) (by omega)).one [] rfl (args_ren rfl rfl) trivial (fun f hf => by first | exact hf | cases hf | simp_all) (fun u hu => ?_)
    conv => whnf
    repeat' ((first | (refine And.intro (by simp only [app_size, one_size, arr_size, List.length_cons, List.length_nil]; omega) ?_) | refine And.intro (by repeat' first | exact trivial | refine And.intro rfl ?_) (And.intro (by first | exact fun _ h => h | exact fun _ => List.mem_cons_of_mem _ | exact fun _ => List.mem_append_right _) ?_) | (refine And.intro (fun h => ?_) (fun h => ?_) <;> (try simp only [n1, n2, n3, n4, n5, n6] at h) <;> first | (exfalso; omega) | (cases h; done) | skip) | refine And.intro (by omega) ?_ | refine Exists.intro _ (And.intro (by first | exact And.intro rfl rfl | exact Pl.den (by repeat constructor) | with_reducible rfl | exact cast_succ _ | assumption | exact (Int.toNat_of_nonneg (by omega)).symm | rfl) ?_) | refine hD _ _ ?_ | refine hL _ _ ?_ | (intro h; (try simp only [n1, n2, n3, n4, n5, n6] at h); first | (exfalso; omega) | (cases h; done) | skip)) <;> (conv => whnf))
    have hti : (bs.take i).length % 3 = 0 := by rw [List.length_take]; omega
    have e1 : ((x0.toNat : Int) / 4).toNat = x0.toNat / 4 := by omega
    have e2 : ((x0.toNat : Int) % 4 * 16 + (x1.toNat : Int) / 16).toNat = x0.toNat % 4 * 16 + x1.toNat / 16 := by omega
    have e3 : ((x1.toNat : Int) % 16 * 4 + (x2.toNat : Int) / 64).toNat = x1.toNat % 16 * 4 + x2.toNat / 64 := by omega
    have e4 : ((x2.toNat : Int) % 64).toNat = x2.toNat % 64 := by omega
    refine ⟨i + 3, [], ⟨⟨by omega, by omega⟩, by omega⟩, rfl, ⟨fun _ _ _ => rfl, SEq.eq ?_, fun _ _ _ => rfl, trivial⟩, trivial, fun f hf => hf⟩
    rw [bb, bb, bb, bb, take3 k0 k1 k2, enc_append _ _ hti, e1, e2, e3, e4]
    rfl
  · obtain ⟨ad, rfl, g0⟩ := hB.get (i := i) (by omega)
    have k0 := List.getElem?_eq_getElem (l := bs) (i := i) (by omega)
    generalize bs[i] = x0 at g0 k0
    have l0 := bv_lt x0
    conv => whnf
    repeat' ((first | refine And.intro (by repeat' first | exact trivial | refine And.intro rfl ?_) (And.intro (by first | exact fun _ h => h | exact fun _ => List.mem_cons_of_mem _ | exact fun _ => List.mem_append_right _) ?_) | (refine And.intro (fun h => ?_) (fun h => ?_) <;> (try simp only [n1, n2, n3, n4, n5, n6] at h) <;> first | (exfalso; omega) | (cases h; done) | skip) | refine And.intro (by omega) ?_ | refine Exists.intro _ (And.intro (by first | exact And.intro rfl rfl | exact Pl.den (by repeat constructor) | with_reducible rfl | exact cast_succ _ | assumption | exact (Int.toNat_of_nonneg (by omega)).symm | rfl) ?_) | refine hD _ _ ?_ | refine hL _ _ ?_ | (intro h; (try simp only [n1, n2, n3, n4, n5, n6] at h); first | (exfalso; omega) | (cases h; done) | skip)) <;> (conv => whnf))
    refine Tri.use (tSgn fx ((x0.toNat : Int) / 4) (by omega) (by omega)).one [] rfl (args_ren rfl rfl) trivial (fun f hf => by first | exact hf | cases hf | simp_all) (fun u hu => ?_)
    conv => whnf
    repeat' ((first | (refine And.intro (by simp only [app_size, one_size, arr_size, List.length_cons, List.length_nil]; omega) ?_) | refine And.intro (by repeat' first | exact trivial | refine And.intro rfl ?_) (And.intro (by first | exact fun _ h => h | exact fun _ => List.mem_cons_of_mem _ | exact fun _ => List.mem_append_right _) ?_) | (refine And.intro (fun h => ?_) (fun h => ?_) <;> (try simp only [n1, n2, n3, n4, n5, n6] at h) <;> first | (exfalso; omega) | (cases h; done) | skip) | refine And.intro (by omega) ?_ | refine Exists.intro _ (And.intro (by first | exact And.intro rfl rfl | exact Pl.den (by repeat constructor) | with_reducible rfl | exact cast_succ _ | assumption | exact (Int.toNat_of_nonneg (by omega)).symm | rfl) ?_) | refine hD _ _ ?_ | refine hL _ _ ?_ | (intro h; (try simp only [n1, n2, n3, n4, n5, n6] at h); first | (exfalso; omega) | (cases h; done) | skip)) <;> (conv => whnf))
    refine Tri.use (tSgn fx ((x0.toNat : Int) % 4 * 16) (by omega) (by omega)).one [] rfl (args_ren rfl rfl) trivial (fun f hf => by first | exact hf | cases hf | simp_all) (fun u hu => ?_)
    conv => whnf
    repeat' ((first | (refine And.intro (by simp only [app_size, one_size, arr_size, List.length_cons, List.length_nil]; omega) ?_) | refine And.intro (by repeat' first | exact trivial | refine And.intro rfl ?_) (And.intro (by first | exact fun _ h => h | exact fun _ => List.mem_cons_of_mem _ | exact fun _ => List.mem_append_right _) ?_) | (refine And.intro (fun h => ?_) (fun h => ?_) <;> (try simp only [n1, n2, n3, n4, n5, n6] at h) <;> first | (exfalso; omega) | (cases h; done) | skip) | refine And.intro (by omega) ?_ | refine Exists.intro _ (And.intro (by first | exact And.intro rfl rfl | exact Pl.den (by repeat constructor) | with_reducible rfl | exact cast_succ _ | assumption | exact (Int.toNat_of_nonneg (by omega)).symm | rfl) ?_) | refine hD _ _ ?_ | refine hL _ _ ?_ | (intro h; (try simp only [n1, n2, n3, n4, n5, n6] at h); first | (exfalso; omega) | (cases h; done) | skip)) <;> (conv => whnf))
    have hti : (bs.take i).length % 3 = 0 := by rw [List.length_take]; omega
    have e1 : ((x0.toNat : Int) / 4).toNat = x0.toNat / 4 := by omega
    have e2 : ((x0.toNat : Int) % 4 * 16).toNat = x0.toNat % 4 * 16 := by omega
    refine Ret.noneS rfl (fun _ _ => ?_) (fun _ h => nomatch h)
    have ht : bs = bs.take i ++ [x0] := by rw [← take1 k0, List.take_of_length_le (by omega)]
    show Value.string _ = Value.string _
    rw [bb, bb, bb, e1, e2]
    conv => lhs; rw [ht, enc_append _ _ hti]
    rfl
  · refine draw_rule tok (by kernel_rfl) [.any 0, .any 1, .any 2, .any 5, .any 6, .any 7, .any 8, .load 3, .any 4, .any 11, .one 9, .any 10, .any 12] [] [] (by kernel_rfl) rfl rfl trivial ?_
    obtain ⟨ad, rfl, g0⟩ := hB.get (i := i) (by omega)
    have k0 := List.getElem?_eq_getElem (l := bs) (i := i) (by omega)
    generalize bs[i] = x0 at g0 k0
    have l0 := bv_lt x0
    obtain ⟨ad1, e1, g1⟩ := hB.get (i := i + 1) (by omega)
    have k1 := List.getElem?_eq_getElem (l := bs) (i := i + 1) (by omega)
    generalize bs[i + 1] = x1 at g1 k1
    have l1 := bv_lt x1
    obtain rfl := Option.some.inj e1
    conv => whnf
    repeat' ((first | refine And.intro (by repeat' first | exact trivial | refine And.intro rfl ?_) (And.intro (by first | exact fun _ h => h | exact fun _ => List.mem_cons_of_mem _ | exact fun _ => List.mem_append_right _) ?_) | (refine And.intro (fun h => ?_) (fun h => ?_) <;> (try simp only [n1, n2, n3, n4, n5, n6] at h) <;> first | (exfalso; omega) | (cases h; done) | skip) | refine And.intro (by omega) ?_ | refine Exists.intro _ (And.intro (by first | exact And.intro rfl rfl | exact Pl.den (by repeat constructor) | with_reducible rfl | exact cast_succ _ | assumption | exact (Int.toNat_of_nonneg (by omega)).symm | rfl) ?_) | refine hD _ _ ?_ | refine hL _ _ ?_ | (intro h; (try simp only [n1, n2, n3, n4, n5, n6] at h); first | (exfalso; omega) | (cases h; done) | skip)) <;> (conv => whnf))
    refine Tri.use (tSgn fx ((x0.toNat : Int) / 4) (by omega) (by omega)).one [] rfl (args_ren rfl rfl) trivial (fun f hf => by first | exact hf | cases hf | simp_all) (fun u hu => ?_)
    conv => whnf
    repeat' ((first | (refine And.intro (by simp only [app_size, one_size, arr_size, List.length_cons, List.length_nil]; omega) ?_) | refine And.intro (by repeat' first | exact trivial | refine And.intro rfl ?_) (And.intro (by first | exact fun _ h => h | exact fun _ => List.mem_cons_of_mem _ | exact fun _ => List.mem_append_right _) ?_) | (refine And.intro (fun h => ?_) (fun h => ?_) <;> (try simp only [n1, n2, n3, n4, n5, n6] at h) <;> first | (exfalso; omega) | (cases h; done) | skip) | refine And.intro (by omega) ?_ | refine Exists.intro _ (And.intro (by first | exact And.intro rfl rfl | exact Pl.den (by repeat constructor) | with_reducible rfl | exact cast_succ _ | assumption | exact (Int.toNat_of_nonneg (by omega)).symm | rfl) ?_) | refine hD _ _ ?_ | refine hL _ _ ?_ | (intro h; (try simp only [n1, n2, n3, n4, n5, n6] at h); first | (exfalso; omega) | (cases h; done) | skip)) <;> (conv => whnf))
    refine Tri.use (tSgn fx ((x0.toNat : Int) % 4 * 16 + (x1.toNat : Int) / 16) (by omega) (by omega)).one [] rfl (args_ren rfl rfl) trivial (fun f hf => by first | exact hf | cases hf | simp_all) (fun u hu => ?_)
    conv => whnf
    repeat' ((first | (refine And.intro (by simp only [app_size, one_size, arr_size, List.length_cons, List.length_nil]; omega) ?_) | refine And.intro (by repeat' first | exact trivial | refine And.intro rfl ?_) (And.intro (by first | exact fun _ h => h | exact fun _ => List.mem_cons_of_mem _ | exact fun _ => List.mem_append_right _) ?_) | (refine And.intro (fun h => ?_) (fun h => ?_) <;> (try simp only [n1, n2, n3, n4, n5, n6] at h) <;> first | (exfalso; omega) | (cases h; done) | skip) | refine And.intro (by omega) ?_ | refine Exists.intro _ (And.intro (by first | exact And.intro rfl rfl | exact Pl.den (by repeat constructor) | with_reducible rfl | exact cast_succ _ | assumption | exact (Int.toNat_of_nonneg (by omega)).symm | rfl) ?_) | refine hD _ _ ?_ | refine hL _ _ ?_ | (intro h; (try simp only [n1, n2, n3, n4, n5, n6] at h); first | (exfalso; omega) | (cases h; done) | skip)) <;> (conv => whnf))
    refine Tri.use (tSgn fx ((x1.toNat : Int) % 16 * 4) (by omega) (by omega)).one [] rfl (args_ren rfl rfl) trivial (fun f hf => by first | exact hf | cases hf | simp_all) (fun u hu => ?_)
    conv => whnf
    repeat' ((first | (refine And.intro (by simp only [app_size, one_size, arr_size, List.length_cons, List.length_nil]; omega) ?_) | refine And.intro (by repeat' first | exact trivial | refine And.intro rfl ?_) (And.intro (by first | exact fun _ h => h | exact fun _ => List.mem_cons_of_mem _ | exact fun _ => List.mem_append_right _) ?_) | (refine And.intro (fun h => ?_) (fun h => ?_) <;> (try simp only [n1, n2, n3, n4, n5, n6] at h) <;> first | (exfalso; omega) | (cases h; done) | skip) | refine And.intro (by omega) ?_ | refine Exists.intro _ (And.intro (by first | exact And.intro rfl rfl | exact Pl.den (by repeat constructor) | with_reducible rfl | exact cast_succ _ | assumption | exact (Int.toNat_of_nonneg (by omega)).symm | rfl) ?_) | refine hD _ _ ?_ | refine hL _ _ ?_ | (intro h; (try simp only [n1, n2, n3, n4, n5, n6] at h); first | (exfalso; omega) | (cases h; done) | skip)) <;> (conv => whnf))
    have hti : (bs.take i).length % 3 = 0 := by rw [List.length_take]; omega
    have e1 : ((x0.toNat : Int) / 4).toNat = x0.toNat / 4 := by omega
    have e2 : ((x0.toNat : Int) % 4 * 16 + (x1.toNat : Int) / 16).toNat = x0.toNat % 4 * 16 + x1.toNat / 16 := by omega
    have e3 : ((x1.toNat : Int) % 16 * 4).toNat = x1.toNat % 16 * 4 := by omega
    refine Ret.noneS rfl (fun _ _ => ?_) (fun _ h => nomatch h)
    have ht : bs = bs.take i ++ [x0, x1] := by rw [← take2 k0 k1, List.take_of_length_le (by omega)]
    show Value.string _ = Value.string _
    rw [bb, bb, bb, bb, e1, e2, e3]
    conv => lhs; rw [ht, enc_append _ _ hti]
    rfl
  · obtain rfl : i = bs.length := by omega
    refine Ret.noneS rfl (fun _ _ => ?_) (fun _ h => nomatch h)
    simp [den]
end Go.Proofs.YtekgjjanikicnaaDoor.Sx

namespace Go.Proofs.YtekgjjanikicnaaDoor.Sx
open Go Go.RowKit
set_option maxRecDepth 100000
set_option linter.unusedSimpArgs false
set_option linter.unusedVariables false
/-- A head. -/
structure Hd where
  org : ByteArray
  size : Int
  root : List UInt8
structure Hd.Fit (h : Hd) : Prop where
  root : h.root.length = 32
  size : -9223372036854775808 ≤ h.size ∧ h.size < 9223372036854775808
  org : h.org.size < 9223372036854775808
def Hd.cells (h : Hd) : List Value := [.string h.org, .int .i64 h.size] ++ h.root.map bv
def Hd.v (h : Hd) : Value := .agg ⟨h.cells⟩
def Hd.ok (h : Hd) : Bool := nameOk h.org.data.toList && decide (0 ≤ h.size ∧ h.size < 2147483648)
def Hd.text (h : Hd) : List UInt8 := h.org.data.toList ++ [10] ++ Lib.decDigits h.size.toNat ++ [10] ++ enc h.root ++ [10]
def strS (l : List UInt8) : Value := .string ⟨l.toArray⟩
def Hd.res (h : Hd) : SV := if h.ok then .tup [.v (strS h.text), .b true] else .tup [.v (.string ⟨#[]⟩), .b false]
theorem Hd.one {h : Hd} : ∀ u ∈ h.cells, u.oneCell' = true := by
  intro u hu
  rcases List.mem_append.1 hu with hu | hu
  · simp only [List.mem_cons, List.mem_nil_iff, or_false] at hu
    rcases hu with rfl | rfl <;> rfl
  · obtain ⟨c, _, rfl⟩ := List.mem_map.1 hu
    rfl
theorem nameOk_len {l : List UInt8} (h : nameOk l = true) : 1 ≤ l.length ∧ l.length ≤ 40 := by
  simp only [nameOk, Bool.and_eq_true, decide_eq_true_eq] at h
  exact h.2
theorem Hd.res_ok {d : Hd} (h : d.ok = true) : d.res = .tup [.v (strS d.text), .b true] := by unfold Hd.res; rw [h]; rfl
theorem Hd.res_no {d : Hd} (h : d.ok = false) : d.res = .tup [.v (.string ⟨#[]⟩), .b false] := by unfold Hd.res; rw [h]; rfl
theorem wrap_nat (n : Nat) (h : n < 18446744073709551616) : IntKind.u64.wrap (n : Int) = (n : Int) := by rw [wrap_u64_nat, Nat.mod_eq_of_lt h]
theorem tText (fx : List Fact) (hg : gTab ∈ fx) (d : Hd) (hf : d.Fit) : Tri Tryd.prog 34 [.v d.v] [] 0 fx (Ret 0 d.res [] 0 []) := by
  refine Tri.of_code tok Tryd.func34 rfl rfl rfl (by decide) rfl (Nat.le_of_ble_eq_true rfl) ?_
  conv => whnf
  repeat' ((first | refine And.intro (by repeat' first | exact trivial | refine And.intro rfl ?_) (And.intro (by first | exact fun _ h => h | exact fun _ => List.mem_cons_of_mem _ | exact fun _ => List.mem_append_right _) ?_) | (refine And.intro (fun h => ?_) (fun h => ?_) <;> (try simp only [n1, n2, n3, n4, n5, n6] at h) <;> first | (exfalso; omega) | (cases h; done) | skip) | refine And.intro (by omega) ?_ | refine Exists.intro _ (And.intro (by first | exact And.intro rfl rfl | exact Pl.den (by repeat constructor) | with_reducible rfl | exact cast_succ _ | assumption | exact (Int.toNat_of_nonneg (by omega)).symm | rfl) ?_) | refine hD _ _ ?_ | refine hL _ _ ?_ | (intro h; (try simp only [n1, n2, n3, n4, n5, n6] at h); first | (exfalso; omega) | (cases h; done) | skip)) <;> (conv => whnf))
  refine And.intro Hd.one ?_
  conv => whnf
  repeat' ((first | refine And.intro (by repeat' first | exact trivial | refine And.intro rfl ?_) (And.intro (by first | exact fun _ h => h | exact fun _ => List.mem_cons_of_mem _ | exact fun _ => List.mem_append_right _) ?_) | (refine And.intro (fun h => ?_) (fun h => ?_) <;> (try simp only [n1, n2, n3, n4, n5, n6] at h) <;> first | (exfalso; omega) | (cases h; done) | skip) | refine And.intro (by omega) ?_ | refine Exists.intro _ (And.intro (by first | exact And.intro rfl rfl | exact Pl.den (by repeat constructor) | with_reducible rfl | exact cast_succ _ | assumption | exact (Int.toNat_of_nonneg (by omega)).symm | rfl) ?_) | refine hD _ _ ?_ | refine hL _ _ ?_ | (intro h; (try simp only [n1, n2, n3, n4, n5, n6] at h); first | (exfalso; omega) | (cases h; done) | skip)) <;> (conv => whnf))
  refine Tri.use (tName d.org (by have := hf.org; omega)) [] rfl (fun _ _ _ => rfl) trivial (fun f hf => by first | exact hf | cases hf) (fun u hu => ?_)
  conv => whnf
  repeat' ((first | refine And.intro (by repeat' first | exact trivial | refine And.intro rfl ?_) (And.intro (by first | exact fun _ h => h | exact fun _ => List.mem_cons_of_mem _ | exact fun _ => List.mem_append_right _) ?_) | (refine And.intro (fun h => ?_) (fun h => ?_) <;> (try simp only [n1, n2, n3, n4, n5, n6] at h) <;> first | (exfalso; omega) | (cases h; done) | skip) | refine And.intro (by omega) ?_ | refine Exists.intro _ (And.intro (by first | exact And.intro rfl rfl | exact Pl.den (by repeat constructor) | with_reducible rfl | exact cast_succ _ | assumption | exact (Int.toNat_of_nonneg (by omega)).symm | rfl) ?_) | refine hD _ _ ?_ | refine hL _ _ ?_ | (intro h; (try simp only [n1, n2, n3, n4, n5, n6] at h); first | (exfalso; omega) | (cases h; done) | skip)) <;> (conv => whnf))
  · rw [Hd.res_no (by unfold Hd.ok; rw [h]; rfl)]
    exact Ret.noneS rfl (fun _ _ => rfl) (fun g hg => by cases hg)
  · rw [Hd.res_no (by unfold Hd.ok; rw [decide_eq_false (by omega)]; simp)]
    exact Ret.noneS rfl (fun _ _ => rfl) (fun g hg => by cases hg)
  · rw [Hd.res_no (by unfold Hd.ok; rw [decide_eq_false (by omega)]; simp)]
    exact Ret.noneS rfl (fun _ _ => rfl) (fun g hg => by cases hg)
  rename_i hn h0
  obtain ⟨org, size, root⟩ := d
  obtain ⟨n, rfl⟩ : ∃ n : Nat, size = (n : Int) := ⟨size.toNat, by simp only at *; omega⟩
  have hn1 := nameOk_len hn
  have horg := list_size org
  simp only at hn h0 h hn1 horg
  rw [horg] at hn1
  have h64 : n < 18446744073709551616 := by omega
  rw [Hd.res_ok (by unfold Hd.ok; rw [decide_eq_true (by simp only; omega), hn]; rfl)]
  refine draw_opaque fun KD hD => ?_
  refine draw_all tok (by kernel_rfl) [.any 0, .any 3, .any 9, .any 10, .load 1, .any 2, .one 4, .any 5, .one 6, .any 7, .any 8, .one 11, .any 12, .any 13, .any 14, .any 15] [] (by kernel_rfl) rfl rfl (by repeat' (first | exact trivial | refine And.intro rfl ?_)) ?_
  have ew := wrap_nat n h64
  have hdl := nDigits_le n h64
  have hds := decDigits_size n h64
  have hrl : root.length = 32 := hf.root
  have h10 : (⟨#[10]⟩ : ByteArray).size = 1 := rfl
  conv => whnf
  repeat' ((first | (refine And.intro (by simp only [app_size, h10]; omega) ?_) | refine And.intro (by repeat' first | exact trivial | refine And.intro rfl ?_) (And.intro (by first | exact fun _ h => h | exact fun _ => List.mem_cons_of_mem _ | exact fun _ => List.mem_append_right _) ?_) | (refine And.intro (fun h => ?_) (fun h => ?_) <;> (try simp only [n1, n2, n3, n4, n5, n6] at h) <;> first | (exfalso; omega) | (cases h; done) | skip) | refine And.intro (by omega) ?_ | refine Exists.intro _ (And.intro (by first | exact And.intro rfl rfl | exact Pl.den (by repeat constructor) | with_reducible rfl | exact cast_succ _ | assumption | exact (Int.toNat_of_nonneg (by omega)).symm | rfl) ?_) | refine hD _ _ ?_ | refine hL _ _ ?_ | (intro h; (try simp only [n1, n2, n3, n4, n5, n6] at h); first | (exfalso; omega) | (cases h; done) | skip)) <;> (conv => whnf))
  refine Tri.use ((tDigits fx hg n h64).one) [] rfl (fun _ _ _ => by simp only [denL_cons, denL_nil, den, ew]; try rfl) trivial (fun f hf => by first | exact hf | cases hf) (fun v hv => ?_)
  conv => whnf
  repeat' ((first | (refine And.intro (by simp only [app_size, h10, hds]; omega) ?_) | refine And.intro (by repeat' first | exact trivial | refine And.intro rfl ?_) (And.intro (by first | exact fun _ h => h | exact fun _ => List.mem_cons_of_mem _ | exact fun _ => List.mem_append_right _) ?_) | (refine And.intro (fun h => ?_) (fun h => ?_) <;> (try simp only [n1, n2, n3, n4, n5, n6] at h) <;> first | (exfalso; omega) | (cases h; done) | skip) | refine And.intro (by omega) ?_ | refine Exists.intro _ (And.intro (by first | exact And.intro rfl rfl | exact Pl.den (by repeat constructor) | with_reducible rfl | exact cast_succ _ | assumption | exact (Int.toNat_of_nonneg (by omega)).symm | rfl) ?_) | refine hD _ _ ?_ | refine hL _ _ ?_ | (intro h; (try simp only [n1, n2, n3, n4, n5, n6] at h); first | (exfalso; omega) | (cases h; done) | skip)) <;> (conv => whnf))
  refine Tri.lend 0 (xs := Hd.cells ⟨org, (n : Int), root⟩) (T := 52) (fun b => [.v (.slice (some ⟨b, 2, none⟩) 32 32)]) (List.mem_cons_self ..) rowOf.row (fun _ => rfl) fun b => ?_
  refine Tri.use (tEncode (rowFact b (Hd.cells ⟨org, (n : Int), root⟩) 52 :: fx) (some ⟨b, 2, none⟩) 32 root (by omega) (by omega) (BytesAt.row (List.mem_cons_self ..) (by show (root.map bv).take root.length = _; rw [List.take_of_length_le (by simp)]))).one [] rfl (fun _ _ _ => by rw [hrl]; rfl) trivial (fun f hf => hf) fun u hu => ?_
  conv => whnf
  refine And.intro rfl ?_
  have hel := enc_length root
  have hes := arr_size (enc root)
  conv => whnf
  repeat' ((first | (refine And.intro (by simp only [app_size, h10, hds, hes]; omega) ?_) | refine And.intro (by repeat' first | exact trivial | refine And.intro rfl ?_) (And.intro (by first | exact fun _ h => h | exact fun _ => List.mem_cons_of_mem _ | exact fun _ => List.mem_append_right _) ?_) | (refine And.intro (fun h => ?_) (fun h => ?_) <;> (try simp only [n1, n2, n3, n4, n5, n6] at h) <;> first | (exfalso; omega) | (cases h; done) | skip) | refine And.intro (by omega) ?_ | refine Exists.intro _ (And.intro (by first | exact And.intro rfl rfl | exact Pl.den (by repeat constructor) | with_reducible rfl | exact cast_succ _ | assumption | exact (Int.toNat_of_nonneg (by omega)).symm | rfl) ?_) | refine hD _ _ ?_ | refine hL _ _ ?_ | (intro h; (try simp only [n1, n2, n3, n4, n5, n6] at h); first | (exfalso; omega) | (cases h; done) | skip)) <;> (conv => whnf))
  refine Ret.noneS rfl (fun _ _ => ?_) (fun g hg => by cases hg)
  simp only [den, denL_cons, denL_nil, strS, Hd.text]
  have e10 : (⟨#[10]⟩ : ByteArray) = ⟨([10] : List UInt8).toArray⟩ := rfl
  have eo : org = ⟨org.data.toList.toArray⟩ := by simp
  rw [e10]
  conv => rhs; rw [eo]
  simp only [ba_app, Int.toNat_natCast]
end Go.Proofs.YtekgjjanikicnaaDoor.Sx

namespace Go.Proofs.YtekgjjanikicnaaDoor.Sx
open Go Go.RowKit
set_option maxRecDepth 100000
set_option linter.unusedSimpArgs false
set_option linter.unusedVariables false
theorem tRefText (fx : List Fact) (d : Hd) (hf : d.Fit) : Tri Tryd.prog 35 [.v d.v] [] 0 fx (Ret 0 d.res [] 0 []) := by
  refine Tri.of_code tok Tryd.func35 rfl rfl rfl (by decide) rfl (Nat.le_of_ble_eq_true rfl) ?_
  conv => whnf
  repeat' ((first | refine And.intro (by repeat' first | exact trivial | refine And.intro rfl ?_) (And.intro (by first | exact fun _ h => h | exact fun _ => List.mem_cons_of_mem _ | exact fun _ => List.mem_append_right _) ?_) | (refine And.intro (fun h => ?_) (fun h => ?_) <;> (try simp only [n1, n2, n3, n4, n5, n6] at h) <;> first | (exfalso; omega) | (cases h; done) | skip) | refine And.intro (by omega) ?_ | refine Exists.intro _ (And.intro (by first | exact And.intro rfl rfl | exact Pl.den (by repeat constructor) | with_reducible rfl | exact cast_succ _ | assumption | exact (Int.toNat_of_nonneg (by omega)).symm | rfl) ?_) | refine hD _ _ ?_ | refine hL _ _ ?_ | (intro h; (try simp only [n1, n2, n3, n4, n5, n6] at h); first | (exfalso; omega) | (cases h; done) | skip)) <;> (conv => whnf))
  refine And.intro Hd.one ?_
  conv => whnf
  repeat' ((first | refine And.intro (by repeat' first | exact trivial | refine And.intro rfl ?_) (And.intro (by first | exact fun _ h => h | exact fun _ => List.mem_cons_of_mem _ | exact fun _ => List.mem_append_right _) ?_) | (refine And.intro (fun h => ?_) (fun h => ?_) <;> (try simp only [n1, n2, n3, n4, n5, n6] at h) <;> first | (exfalso; omega) | (cases h; done) | skip) | refine And.intro (by omega) ?_ | refine Exists.intro _ (And.intro (by first | exact And.intro rfl rfl | exact Pl.den (by repeat constructor) | with_reducible rfl | exact cast_succ _ | assumption | exact (Int.toNat_of_nonneg (by omega)).symm | rfl) ?_) | refine hD _ _ ?_ | refine hL _ _ ?_ | (intro h; (try simp only [n1, n2, n3, n4, n5, n6] at h); first | (exfalso; omega) | (cases h; done) | skip)) <;> (conv => whnf))
  refine Tri.use ((tRefName fx d.org (by have := hf.org; omega)).one) [] rfl (fun _ _ _ => rfl) trivial (fun f hf => by first | exact hf | cases hf) (fun u hu => ?_)
  conv => whnf
  repeat' ((first | refine And.intro (by repeat' first | exact trivial | refine And.intro rfl ?_) (And.intro (by first | exact fun _ h => h | exact fun _ => List.mem_cons_of_mem _ | exact fun _ => List.mem_append_right _) ?_) | (refine And.intro (fun h => ?_) (fun h => ?_) <;> (try simp only [n1, n2, n3, n4, n5, n6] at h) <;> first | (exfalso; omega) | (cases h; done) | skip) | refine And.intro (by omega) ?_ | refine Exists.intro _ (And.intro (by first | exact And.intro rfl rfl | exact Pl.den (by repeat constructor) | with_reducible rfl | exact cast_succ _ | assumption | exact (Int.toNat_of_nonneg (by omega)).symm | rfl) ?_) | refine hD _ _ ?_ | refine hL _ _ ?_ | (intro h; (try simp only [n1, n2, n3, n4, n5, n6] at h); first | (exfalso; omega) | (cases h; done) | skip)) <;> (conv => whnf))
  · rw [Hd.res_no (by unfold Hd.ok; rw [h]; rfl)]
    exact Ret.noneS rfl (fun _ _ => rfl) (fun g hg => by cases hg)
  · rw [Hd.res_no (by unfold Hd.ok; rw [decide_eq_false (by omega)]; simp)]
    exact Ret.noneS rfl (fun _ _ => rfl) (fun g hg => by cases hg)
  · rw [Hd.res_no (by unfold Hd.ok; rw [decide_eq_false (by omega)]; simp)]
    exact Ret.noneS rfl (fun _ _ => rfl) (fun g hg => by cases hg)
  rename_i hn h0
  obtain ⟨org, size, root⟩ := d
  obtain ⟨n, rfl⟩ : ∃ n : Nat, size = (n : Int) := ⟨size.toNat, by simp only at *; omega⟩
  have hn1 := nameOk_len hn
  have horg := list_size org
  simp only at hn h0 h hn1 horg
  rw [horg] at hn1
  have h64 : n < 18446744073709551616 := by omega
  rw [Hd.res_ok (by unfold Hd.ok; rw [decide_eq_true (by simp only; omega), hn]; rfl)]
  refine draw_opaque fun KD hD => ?_
  refine draw_all tok (by kernel_rfl) [.any 0, .any 3, .any 9, .any 10, .load 1, .any 2, .one 4, .any 5, .one 6, .any 7, .any 8, .one 11, .any 12, .any 13, .any 14, .any 15] [] (by kernel_rfl) rfl rfl (by repeat' (first | exact trivial | refine And.intro rfl ?_)) ?_
  have ew := wrap_nat n h64
  have hdl := nDigits_le n h64
  have hds := decDigits_size n h64
  have hrl : root.length = 32 := hf.root
  have h10 : (⟨#[10]⟩ : ByteArray).size = 1 := rfl
  conv => whnf
  repeat' ((first | (refine And.intro (by simp only [app_size, h10]; omega) ?_) | refine And.intro (by repeat' first | exact trivial | refine And.intro rfl ?_) (And.intro (by first | exact fun _ h => h | exact fun _ => List.mem_cons_of_mem _ | exact fun _ => List.mem_append_right _) ?_) | (refine And.intro (fun h => ?_) (fun h => ?_) <;> (try simp only [n1, n2, n3, n4, n5, n6] at h) <;> first | (exfalso; omega) | (cases h; done) | skip) | refine And.intro (by omega) ?_ | refine Exists.intro _ (And.intro (by first | exact And.intro rfl rfl | exact Pl.den (by repeat constructor) | with_reducible rfl | exact cast_succ _ | assumption | exact (Int.toNat_of_nonneg (by omega)).symm | rfl) ?_) | refine hD _ _ ?_ | refine hL _ _ ?_ | (intro h; (try simp only [n1, n2, n3, n4, n5, n6] at h); first | (exfalso; omega) | (cases h; done) | skip)) <;> (conv => whnf))
  refine Tri.use ((tRefDigits fx n n (Nat.le_refl _) h64).one) [] rfl (fun _ _ _ => by simp only [denL_cons, denL_nil, den, ew]; try rfl) trivial (fun f hf => by first | exact hf | cases hf) (fun v hv => ?_)
  conv => whnf
  repeat' ((first | (refine And.intro (by simp only [app_size, h10, hds]; omega) ?_) | refine And.intro (by repeat' first | exact trivial | refine And.intro rfl ?_) (And.intro (by first | exact fun _ h => h | exact fun _ => List.mem_cons_of_mem _ | exact fun _ => List.mem_append_right _) ?_) | (refine And.intro (fun h => ?_) (fun h => ?_) <;> (try simp only [n1, n2, n3, n4, n5, n6] at h) <;> first | (exfalso; omega) | (cases h; done) | skip) | refine And.intro (by omega) ?_ | refine Exists.intro _ (And.intro (by first | exact And.intro rfl rfl | exact Pl.den (by repeat constructor) | with_reducible rfl | exact cast_succ _ | assumption | exact (Int.toNat_of_nonneg (by omega)).symm | rfl) ?_) | refine hD _ _ ?_ | refine hL _ _ ?_ | (intro h; (try simp only [n1, n2, n3, n4, n5, n6] at h); first | (exfalso; omega) | (cases h; done) | skip)) <;> (conv => whnf))
  refine Tri.lend 0 (xs := Hd.cells ⟨org, (n : Int), root⟩) (T := 47) (fun b => [.v (.slice (some ⟨b, 2, none⟩) 32 32)]) (List.mem_cons_self ..) rowOf.row (fun _ => rfl) fun b => ?_
  refine Tri.use (tRefEncode (rowFact b (Hd.cells ⟨org, (n : Int), root⟩) 47 :: fx) (some ⟨b, 2, none⟩) 32 root (by omega) (BytesAt.row (List.mem_cons_self ..) (by show (root.map bv).take root.length = _; rw [List.take_of_length_le (by simp)]))).one [] rfl (fun _ _ _ => by rw [hrl]; rfl) trivial (fun f hf => hf) fun u hu => ?_
  conv => whnf
  refine And.intro rfl ?_
  have hel := enc_length root
  have hes := arr_size (enc root)
  conv => whnf
  repeat' ((first | (refine And.intro (by simp only [app_size, h10, hds, hes]; omega) ?_) | refine And.intro (by repeat' first | exact trivial | refine And.intro rfl ?_) (And.intro (by first | exact fun _ h => h | exact fun _ => List.mem_cons_of_mem _ | exact fun _ => List.mem_append_right _) ?_) | (refine And.intro (fun h => ?_) (fun h => ?_) <;> (try simp only [n1, n2, n3, n4, n5, n6] at h) <;> first | (exfalso; omega) | (cases h; done) | skip) | refine And.intro (by omega) ?_ | refine Exists.intro _ (And.intro (by first | exact And.intro rfl rfl | exact Pl.den (by repeat constructor) | with_reducible rfl | exact cast_succ _ | assumption | exact (Int.toNat_of_nonneg (by omega)).symm | rfl) ?_) | refine hD _ _ ?_ | refine hL _ _ ?_ | (intro h; (try simp only [n1, n2, n3, n4, n5, n6] at h); first | (exfalso; omega) | (cases h; done) | skip)) <;> (conv => whnf))
  refine Ret.noneS rfl (fun _ _ => ?_) (fun g hg => by cases hg)
  simp only [den, denL_cons, denL_nil, strS, Hd.text]
  have e10 : (⟨#[10]⟩ : ByteArray) = ⟨([10] : List UInt8).toArray⟩ := rfl
  have eo : org = ⟨org.data.toList.toArray⟩ := by simp
  rw [e10]
  conv => rhs; rw [eo]
  simp only [ba_app, Int.toNat_natCast]
/-- A signature. -/
structure Sg where
  name : ByteArray
  kind : UInt8
  num : Nat
  A : Option Addr
  cap : Nat
  bs : List UInt8
structure Sg.Fit (fx : List Fact) (s : Sg) : Prop where
  name : s.name.size < 9223372036854775808
  num : s.num < 4294967296
  bs : BytesAt fx s.A s.bs
  cap : s.bs.length ≤ s.cap
  len : s.bs.length < 9223372036854775808
def Sg.cells (s : Sg) : List Value := [.string s.name, bv s.kind, .int .u32 s.num, .slice s.A s.bs.length s.cap]
def Sg.v (s : Sg) : Value := .agg ⟨s.cells⟩
def Sg.ok (s : Sg) : Bool := nameOk s.name.data.toList && decide (s.kind.toNat = 101 ∨ s.kind.toNat = 112) && decide (1 ≤ s.bs.length ∧ s.bs.length ≤ 80)
def Sg.line (s : Sg) : List UInt8 := [115, 105, 103, 32] ++ s.name.data.toList ++ [32] ++ [s.kind] ++ [32] ++ Lib.decDigits s.num ++ [32] ++ enc s.bs ++ [10]
theorem Sg.one {s : Sg} : ∀ u ∈ s.cells, u.oneCell' = true := by
  intro u hu
  simp only [Sg.cells, List.mem_cons, List.mem_nil_iff, or_false] at hu
  rcases hu with rfl | rfl | rfl | rfl <;> rfl
theorem Sg.ok_iff {s : Sg} : s.ok = true ↔ nameOk s.name.data.toList = true ∧ (s.kind.toNat = 101 ∨ s.kind.toNat = 112) ∧ 1 ≤ s.bs.length ∧ s.bs.length ≤ 80 := by
  simp only [Sg.ok, Bool.and_eq_true, decide_eq_true_eq, and_assoc]
theorem Sg.no_iff {s : Sg} : s.ok = false ↔ ¬ (nameOk s.name.data.toList = true ∧ (s.kind.toNat = 101 ∨ s.kind.toNat = 112) ∧ 1 ≤ s.bs.length ∧ s.bs.length ≤ 80) := by
  rw [← Sg.ok_iff, Bool.not_eq_true]
theorem tFormed (fx : List Fact) (s : Sg) (hf : s.Fit fx) : Tri Tryd.prog 82 [.v s.v] [] 0 fx (Ret 0 (.v (.bool s.ok)) [] 0 []) := by
  refine Tri.of_code tok Tryd.func82 rfl rfl rfl (by decide) rfl (Nat.le_of_ble_eq_true rfl) ?_
  conv => whnf
  repeat' ((first | refine And.intro (by repeat' first | exact trivial | refine And.intro rfl ?_) (And.intro (by first | exact fun _ h => h | exact fun _ => List.mem_cons_of_mem _ | exact fun _ => List.mem_append_right _) ?_) | (refine And.intro (fun h => ?_) (fun h => ?_) <;> (try simp only [n1, n2, n3, n4, n5, n6] at h) <;> first | (exfalso; omega) | (cases h; done) | skip) | refine And.intro (by omega) ?_ | refine Exists.intro _ (And.intro (by first | exact And.intro rfl rfl | exact Pl.den (by repeat constructor) | with_reducible rfl | exact cast_succ _ | assumption | exact (Int.toNat_of_nonneg (by omega)).symm | rfl) ?_) | refine hD _ _ ?_ | refine hL _ _ ?_ | (intro h; (try simp only [n1, n2, n3, n4, n5, n6] at h); first | (exfalso; omega) | (cases h; done) | skip)) <;> (conv => whnf))
  refine And.intro Sg.one ?_
  conv => whnf
  repeat' ((first | refine And.intro (by repeat' first | exact trivial | refine And.intro rfl ?_) (And.intro (by first | exact fun _ h => h | exact fun _ => List.mem_cons_of_mem _ | exact fun _ => List.mem_append_right _) ?_) | (refine And.intro (fun h => ?_) (fun h => ?_) <;> (try simp only [n1, n2, n3, n4, n5, n6] at h) <;> first | (exfalso; omega) | (cases h; done) | skip) | refine And.intro (by omega) ?_ | refine Exists.intro _ (And.intro (by first | exact And.intro rfl rfl | exact Pl.den (by repeat constructor) | with_reducible rfl | exact cast_succ _ | assumption | exact (Int.toNat_of_nonneg (by omega)).symm | rfl) ?_) | refine hD _ _ ?_ | refine hL _ _ ?_ | (intro h; (try simp only [n1, n2, n3, n4, n5, n6] at h); first | (exfalso; omega) | (cases h; done) | skip)) <;> (conv => whnf))
  refine Tri.use (tName s.name (by have := hf.name; omega)) [] rfl (fun _ _ _ => rfl) trivial (fun f hf => by first | exact hf | cases hf) (fun u hu => ?_)
  conv => whnf
  repeat' ((first | refine And.intro (by repeat' first | exact trivial | refine And.intro rfl ?_) (And.intro (by first | exact fun _ h => h | exact fun _ => List.mem_cons_of_mem _ | exact fun _ => List.mem_append_right _) ?_) | (refine And.intro (fun h => ?_) (fun h => ?_) <;> (try simp only [n1, n2, n3, n4, n5, n6] at h) <;> first | (exfalso; omega) | (cases h; done) | skip) | refine And.intro (by omega) ?_ | refine Exists.intro _ (And.intro (by first | exact And.intro rfl rfl | exact Pl.den (by repeat constructor) | with_reducible rfl | exact cast_succ _ | assumption | exact (Int.toNat_of_nonneg (by omega)).symm | rfl) ?_) | refine hD _ _ ?_ | refine hL _ _ ?_ | (intro h; (try simp only [n1, n2, n3, n4, n5, n6] at h); first | (exfalso; omega) | (cases h; done) | skip)) <;> (conv => whnf))
  all_goals refine Ret.noneS rfl (fun _ _ => ?_) (fun g hg => by cases hg)
  all_goals simp only [den]
  all_goals congr 1
  all_goals first
    | (refine Sg.no_iff.2 ?_; rintro ⟨a, b, c, d⟩; first | omega | (rw [a] at h; cases h))
    | (rw [Bool.eq_iff_iff, Sg.ok_iff, decide_eq_true_eq]; refine ⟨fun ⟨a, b, c, d⟩ => by omega, fun e => ⟨by assumption, by omega, by omega, by omega⟩⟩)
theorem tLine (fx : List Fact) (hg : gTab ∈ fx) (s : Sg) (hf : s.Fit fx) (hk : s.ok = true) : Tri Tryd.prog 83 [.v s.v] [] 0 fx (Ret 0 (.v (strS s.line)) [] 0 []) := by
  refine Tri.of_code tok Tryd.func83 rfl rfl rfl (by decide) rfl (Nat.le_of_ble_eq_true rfl) ?_
  conv => whnf
  repeat' ((first | refine And.intro (by repeat' first | exact trivial | refine And.intro rfl ?_) (And.intro (by first | exact fun _ h => h | exact fun _ => List.mem_cons_of_mem _ | exact fun _ => List.mem_append_right _) ?_) | (refine And.intro (fun h => ?_) (fun h => ?_) <;> (try simp only [n1, n2, n3, n4, n5, n6] at h) <;> first | (exfalso; omega) | (cases h; done) | skip) | refine And.intro (by omega) ?_ | refine Exists.intro _ (And.intro (by first | exact And.intro rfl rfl | exact Pl.den (by repeat constructor) | with_reducible rfl | exact cast_succ _ | assumption | exact (Int.toNat_of_nonneg (by omega)).symm | rfl) ?_) | refine hD _ _ ?_ | refine hL _ _ ?_ | (intro h; (try simp only [n1, n2, n3, n4, n5, n6] at h); first | (exfalso; omega) | (cases h; done) | skip)) <;> (conv => whnf))
  refine And.intro Sg.one ?_
  conv => whnf
  repeat' ((first | refine And.intro (by repeat' first | exact trivial | refine And.intro rfl ?_) (And.intro (by first | exact fun _ h => h | exact fun _ => List.mem_cons_of_mem _ | exact fun _ => List.mem_append_right _) ?_) | (refine And.intro (fun h => ?_) (fun h => ?_) <;> (try simp only [n1, n2, n3, n4, n5, n6] at h) <;> first | (exfalso; omega) | (cases h; done) | skip) | refine And.intro (by omega) ?_ | refine Exists.intro _ (And.intro (by first | exact And.intro rfl rfl | exact Pl.den (by repeat constructor) | with_reducible rfl | exact cast_succ _ | assumption | exact (Int.toNat_of_nonneg (by omega)).symm | rfl) ?_) | refine hD _ _ ?_ | refine hL _ _ ?_ | (intro h; (try simp only [n1, n2, n3, n4, n5, n6] at h); first | (exfalso; omega) | (cases h; done) | skip)) <;> (conv => whnf))
  obtain ⟨kn, kk, kl, kh⟩ := Sg.ok_iff.1 hk
  obtain ⟨name, kind, num, A, cap, bs⟩ := s
  have hn1 := nameOk_len kn
  have horg := list_size name
  simp only at kn kk kl kh hn1 horg
  rw [horg] at hn1
  have hnum : num < 4294967296 := hf.num
  have hcap : bs.length ≤ cap := hf.cap
  have hB : BytesAt fx A bs := hf.bs
  have h64 : num < 18446744073709551616 := by omega
  have ew := wrap_nat num h64
  have hdl := nDigits_le num h64
  have hds := decDigits_size num h64
  have h4 : (⟨#[115, 105, 103, 32]⟩ : ByteArray).size = 4 := rfl
  have h1 : (⟨#[32]⟩ : ByteArray).size = 1 := rfl
  have h10 : (⟨#[10]⟩ : ByteArray).size = 1 := rfl
  have hel := enc_length bs
  have hes := arr_size (enc bs)
  have hwk : IntKind.i32.wrap (kind.toNat : Int) = (kind.toNat : Int) := by simp [IntKind.wrap, IntKind.signed, IntKind.bits]; omega
  refine draw_opaque fun KD hD => ?_
  refine draw_all tok (by kernel_rfl) [.any 0, .any 4, .any 10, .any 16, .load 1, .any 2, .any 3, .load 5, .any 6, .any 7, .any 8, .any 9, .load 11, .any 12, .load 17, .one 13, .any 14, .any 15, .one 18, .any 19, .any 20, .any 21] [] (by kernel_rfl) rfl rfl (by repeat' (first | exact trivial | refine And.intro rfl ?_)) ?_
  conv => whnf
  repeat' ((first | (refine And.intro (by simp only [app_size, one_size, h4, h1]; omega) ?_) | refine And.intro (by repeat' first | exact trivial | refine And.intro rfl ?_) (And.intro (by first | exact fun _ h => h | exact fun _ => List.mem_cons_of_mem _ | exact fun _ => List.mem_append_right _) ?_) | (refine And.intro (fun h => ?_) (fun h => ?_) <;> (try simp only [n1, n2, n3, n4, n5, n6] at h) <;> first | (exfalso; omega) | (cases h; done) | skip) | refine And.intro (by omega) ?_ | refine Exists.intro _ (And.intro (by first | exact And.intro rfl rfl | exact Pl.den (by repeat constructor) | with_reducible rfl | exact cast_succ _ | assumption | exact (Int.toNat_of_nonneg (by omega)).symm | rfl) ?_) | refine hD _ _ ?_ | refine hL _ _ ?_ | (intro h; (try simp only [n1, n2, n3, n4, n5, n6] at h); first | (exfalso; omega) | (cases h; done) | skip)) <;> (conv => whnf))
  refine Tri.use ((tDigits fx hg num h64).one) [] rfl (fun _ _ _ => by simp only [denL_cons, denL_nil, den, ew]; try rfl) trivial (fun f hf => by first | exact hf | cases hf) (fun v hv => ?_)
  conv => whnf
  repeat' ((first | (refine And.intro (by simp only [app_size, one_size, h4, h1, hds]; omega) ?_) | refine And.intro (by repeat' first | exact trivial | refine And.intro rfl ?_) (And.intro (by first | exact fun _ h => h | exact fun _ => List.mem_cons_of_mem _ | exact fun _ => List.mem_append_right _) ?_) | (refine And.intro (fun h => ?_) (fun h => ?_) <;> (try simp only [n1, n2, n3, n4, n5, n6] at h) <;> first | (exfalso; omega) | (cases h; done) | skip) | refine And.intro (by omega) ?_ | refine Exists.intro _ (And.intro (by first | exact And.intro rfl rfl | exact Pl.den (by repeat constructor) | with_reducible rfl | exact cast_succ _ | assumption | exact (Int.toNat_of_nonneg (by omega)).symm | rfl) ?_) | refine hD _ _ ?_ | refine hL _ _ ?_ | (intro h; (try simp only [n1, n2, n3, n4, n5, n6] at h); first | (exfalso; omega) | (cases h; done) | skip)) <;> (conv => whnf))
  refine Tri.use ((tEncode fx A cap bs (by omega) hcap hB).one) [] rfl (fun _ _ _ => rfl) trivial (fun f hf => by first | exact hf | cases hf) (fun u hu => ?_)
  conv => whnf
  repeat' ((first | (refine And.intro (by simp only [app_size, one_size, h4, h1, h10, hds, hes]; omega) ?_) | refine And.intro (by repeat' first | exact trivial | refine And.intro rfl ?_) (And.intro (by first | exact fun _ h => h | exact fun _ => List.mem_cons_of_mem _ | exact fun _ => List.mem_append_right _) ?_) | (refine And.intro (fun h => ?_) (fun h => ?_) <;> (try simp only [n1, n2, n3, n4, n5, n6] at h) <;> first | (exfalso; omega) | (cases h; done) | skip) | refine And.intro (by omega) ?_ | refine Exists.intro _ (And.intro (by first | exact And.intro rfl rfl | exact Pl.den (by repeat constructor) | with_reducible rfl | exact cast_succ _ | assumption | exact (Int.toNat_of_nonneg (by omega)).symm | rfl) ?_) | refine hD _ _ ?_ | refine hL _ _ ?_ | (intro h; (try simp only [n1, n2, n3, n4, n5, n6] at h); first | (exfalso; omega) | (cases h; done) | skip)) <;> (conv => whnf))
  refine Ret.noneS rfl (fun _ _ => ?_) (fun g hg => by cases hg)
  simp only [den, denL_cons, denL_nil, strS, Sg.line]
  have e10 : (⟨#[10]⟩ : ByteArray) = ⟨([10] : List UInt8).toArray⟩ := rfl
  have e1 : (⟨#[32]⟩ : ByteArray) = ⟨([32] : List UInt8).toArray⟩ := rfl
  have e4 : (⟨#[115, 105, 103, 32]⟩ : ByteArray) = ⟨([115, 105, 103, 32] : List UInt8).toArray⟩ := rfl
  have ek : (⟨#[UInt8.ofNat (IntKind.i32.wrap (kind.toNat : Int)).toNat]⟩ : ByteArray) = ⟨([kind] : List UInt8).toArray⟩ := by rw [hwk]; simp
  have eo : name = ⟨name.data.toList.toArray⟩ := by simp
  rw [e10, e1, e4, ek]
  conv => rhs; rw [eo]
  simp only [ba_app]
theorem tRefLine (fx : List Fact) (s : Sg) (hf : s.Fit fx) : Tri Tryd.prog 84 [.v s.v] [] 0 fx (Ret 0 (.v (strS (if s.ok then s.line else []))) [] 0 []) := by
  refine Tri.of_code tok Tryd.func84 rfl rfl rfl (by decide) rfl (Nat.le_of_ble_eq_true rfl) ?_
  conv => whnf
  repeat' ((first | refine And.intro (by repeat' first | exact trivial | refine And.intro rfl ?_) (And.intro (by first | exact fun _ h => h | exact fun _ => List.mem_cons_of_mem _ | exact fun _ => List.mem_append_right _) ?_) | (refine And.intro (fun h => ?_) (fun h => ?_) <;> (try simp only [n1, n2, n3, n4, n5, n6] at h) <;> first | (exfalso; omega) | (cases h; done) | skip) | refine And.intro (by omega) ?_ | refine Exists.intro _ (And.intro (by first | exact And.intro rfl rfl | exact Pl.den (by repeat constructor) | with_reducible rfl | exact cast_succ _ | assumption | exact (Int.toNat_of_nonneg (by omega)).symm | rfl) ?_) | refine hD _ _ ?_ | refine hL _ _ ?_ | (intro h; (try simp only [n1, n2, n3, n4, n5, n6] at h); first | (exfalso; omega) | (cases h; done) | skip)) <;> (conv => whnf))
  refine And.intro Sg.one ?_
  conv => whnf
  repeat' ((first | refine And.intro (by repeat' first | exact trivial | refine And.intro rfl ?_) (And.intro (by first | exact fun _ h => h | exact fun _ => List.mem_cons_of_mem _ | exact fun _ => List.mem_append_right _) ?_) | (refine And.intro (fun h => ?_) (fun h => ?_) <;> (try simp only [n1, n2, n3, n4, n5, n6] at h) <;> first | (exfalso; omega) | (cases h; done) | skip) | refine And.intro (by omega) ?_ | refine Exists.intro _ (And.intro (by first | exact And.intro rfl rfl | exact Pl.den (by repeat constructor) | with_reducible rfl | exact cast_succ _ | assumption | exact (Int.toNat_of_nonneg (by omega)).symm | rfl) ?_) | refine hD _ _ ?_ | refine hL _ _ ?_ | (intro h; (try simp only [n1, n2, n3, n4, n5, n6] at h); first | (exfalso; omega) | (cases h; done) | skip)) <;> (conv => whnf))
  refine Tri.use ((tRefName fx s.name (by have := hf.name; omega)).one) [] rfl (fun _ _ _ => rfl) trivial (fun f hf => by first | exact hf | cases hf) (fun u hu => ?_)
  conv => whnf
  repeat' ((first | refine And.intro (by repeat' first | exact trivial | refine And.intro rfl ?_) (And.intro (by first | exact fun _ h => h | exact fun _ => List.mem_cons_of_mem _ | exact fun _ => List.mem_append_right _) ?_) | (refine And.intro (fun h => ?_) (fun h => ?_) <;> (try simp only [n1, n2, n3, n4, n5, n6] at h) <;> first | (exfalso; omega) | (cases h; done) | skip) | refine And.intro (by omega) ?_ | refine Exists.intro _ (And.intro (by first | exact And.intro rfl rfl | exact Pl.den (by repeat constructor) | with_reducible rfl | exact cast_succ _ | assumption | exact (Int.toNat_of_nonneg (by omega)).symm | rfl) ?_) | refine hD _ _ ?_ | refine hL _ _ ?_ | (intro h; (try simp only [n1, n2, n3, n4, n5, n6] at h); first | (exfalso; omega) | (cases h; done) | skip)) <;> (conv => whnf))
  · rw [if_neg (by rw [Sg.ok_iff]; rintro ⟨a, b, c, d⟩; first | omega | (rw [a] at h; cases h))]
    exact Ret.noneS rfl (fun _ _ => rfl) (fun g hg => by cases hg)
  · rw [if_neg (by rw [Sg.ok_iff]; rintro ⟨a, b, c, d⟩; first | omega | (rw [a] at h; cases h))]
    exact Ret.noneS rfl (fun _ _ => rfl) (fun g hg => by cases hg)
  · rw [if_neg (by rw [Sg.ok_iff]; rintro ⟨a, b, c, d⟩; first | omega | (rw [a] at h; cases h))]
    exact Ret.noneS rfl (fun _ _ => rfl) (fun g hg => by cases hg)
  · rw [if_neg (by rw [Sg.ok_iff]; rintro ⟨a, b, c, d⟩; first | omega | (rw [a] at h; cases h))]
    exact Ret.noneS rfl (fun _ _ => rfl) (fun g hg => by cases hg)
  · have hok : s.ok = true := Sg.ok_iff.2 ⟨by assumption, by omega, by omega, by omega⟩
    rw [if_pos hok]
    obtain ⟨kn, kk, kl, kh⟩ := Sg.ok_iff.1 hok
    have hk : s.kind.toNat = 112 := by omega
    obtain ⟨name, kind, num, A, cap, bs⟩ := s
    have hn1 := nameOk_len kn
    have horg := list_size name
    simp only at kn kk kl kh hn1 horg hk
    rw [horg] at hn1
    have hnum : num < 4294967296 := hf.num
    have hB : BytesAt fx A bs := hf.bs
    have h64 : num < 18446744073709551616 := by omega
    have ew := wrap_nat num h64
    have hdl := nDigits_le num h64
    have hds := decDigits_size num h64
    have h4 : (⟨#[115, 105, 103, 32]⟩ : ByteArray).size = 4 := rfl
    have h1 : (⟨#[32]⟩ : ByteArray).size = 1 := rfl
    have h10 : (⟨#[10]⟩ : ByteArray).size = 1 := rfl
    have hk1 : (⟨#[112]⟩ : ByteArray).size = 1 := rfl
    have hel := enc_length bs
    have hes := arr_size (enc bs)
    refine draw_opaque fun KD hD => ?_
    refine draw_all tok (by kernel_rfl) [.any 0, .any 4, .any 7, .any 13, .load 1, .any 2, .any 3, .any 5, .any 6, .load 8, .any 9, .load 14, .one 10, .any 11, .any 12, .one 15, .any 16, .any 17, .any 18] [] (by kernel_rfl) rfl rfl (by repeat' (first | exact trivial | refine And.intro rfl ?_)) ?_
    conv => whnf
    repeat' ((first | (refine And.intro (by simp only [app_size, h4, h1, hk1]; omega) ?_) | refine And.intro (by repeat' first | exact trivial | refine And.intro rfl ?_) (And.intro (by first | exact fun _ h => h | exact fun _ => List.mem_cons_of_mem _ | exact fun _ => List.mem_append_right _) ?_) | (refine And.intro (fun h => ?_) (fun h => ?_) <;> (try simp only [n1, n2, n3, n4, n5, n6] at h) <;> first | (exfalso; omega) | (cases h; done) | skip) | refine And.intro (by omega) ?_ | refine Exists.intro _ (And.intro (by first | exact And.intro rfl rfl | exact Pl.den (by repeat constructor) | with_reducible rfl | exact cast_succ _ | assumption | exact (Int.toNat_of_nonneg (by omega)).symm | rfl) ?_) | refine hD _ _ ?_ | refine hL _ _ ?_ | (intro h; (try simp only [n1, n2, n3, n4, n5, n6] at h); first | (exfalso; omega) | (cases h; done) | skip)) <;> (conv => whnf))
    refine Tri.use ((tRefDigits fx num num (Nat.le_refl _) h64).one) [] rfl (fun _ _ _ => by simp only [denL_cons, denL_nil, den, ew]; try rfl) trivial (fun f hf => by first | exact hf | cases hf) (fun v hv => ?_)
    conv => whnf
    repeat' ((first | (refine And.intro (by simp only [app_size, hk1, h4, h1, hds]; omega) ?_) | refine And.intro (by repeat' first | exact trivial | refine And.intro rfl ?_) (And.intro (by first | exact fun _ h => h | exact fun _ => List.mem_cons_of_mem _ | exact fun _ => List.mem_append_right _) ?_) | (refine And.intro (fun h => ?_) (fun h => ?_) <;> (try simp only [n1, n2, n3, n4, n5, n6] at h) <;> first | (exfalso; omega) | (cases h; done) | skip) | refine And.intro (by omega) ?_ | refine Exists.intro _ (And.intro (by first | exact And.intro rfl rfl | exact Pl.den (by repeat constructor) | with_reducible rfl | exact cast_succ _ | assumption | exact (Int.toNat_of_nonneg (by omega)).symm | rfl) ?_) | refine hD _ _ ?_ | refine hL _ _ ?_ | (intro h; (try simp only [n1, n2, n3, n4, n5, n6] at h); first | (exfalso; omega) | (cases h; done) | skip)) <;> (conv => whnf))
    refine Tri.use ((tRefEncode fx A cap bs (by omega) hB).one) [] rfl (fun _ _ _ => rfl) trivial (fun f hf => by first | exact hf | cases hf) (fun u hu => ?_)
    conv => whnf
    repeat' ((first | (refine And.intro (by simp only [app_size, hk1, h4, h1, h10, hds, hes]; omega) ?_) | refine And.intro (by repeat' first | exact trivial | refine And.intro rfl ?_) (And.intro (by first | exact fun _ h => h | exact fun _ => List.mem_cons_of_mem _ | exact fun _ => List.mem_append_right _) ?_) | (refine And.intro (fun h => ?_) (fun h => ?_) <;> (try simp only [n1, n2, n3, n4, n5, n6] at h) <;> first | (exfalso; omega) | (cases h; done) | skip) | refine And.intro (by omega) ?_ | refine Exists.intro _ (And.intro (by first | exact And.intro rfl rfl | exact Pl.den (by repeat constructor) | with_reducible rfl | exact cast_succ _ | assumption | exact (Int.toNat_of_nonneg (by omega)).symm | rfl) ?_) | refine hD _ _ ?_ | refine hL _ _ ?_ | (intro h; (try simp only [n1, n2, n3, n4, n5, n6] at h); first | (exfalso; omega) | (cases h; done) | skip)) <;> (conv => whnf))
    refine Ret.noneS rfl (fun _ _ => ?_) (fun g hg => by cases hg)
    simp only [den, denL_cons, denL_nil, strS, Sg.line]
    have e10 : (⟨#[10]⟩ : ByteArray) = ⟨([10] : List UInt8).toArray⟩ := rfl
    have e1 : (⟨#[32]⟩ : ByteArray) = ⟨([32] : List UInt8).toArray⟩ := rfl
    have e4 : (⟨#[115, 105, 103, 32]⟩ : ByteArray) = ⟨([115, 105, 103, 32] : List UInt8).toArray⟩ := rfl
    have hkk : kind = 112 := UInt8.toNat_inj.1 hk
    have ek : (⟨#[112]⟩ : ByteArray) = ⟨([112] : List UInt8).toArray⟩ := rfl
    have eo : name = ⟨name.data.toList.toArray⟩ := by simp
    rw [hkk, e10, e1, e4, ek]
    conv => rhs; rw [eo]
    simp only [ba_app]
  · rw [if_neg (by rw [Sg.ok_iff]; rintro ⟨a, b, c, d⟩; first | omega | (rw [a] at h; cases h))]
    exact Ret.noneS rfl (fun _ _ => rfl) (fun g hg => by cases hg)
  · rw [if_neg (by rw [Sg.ok_iff]; rintro ⟨a, b, c, d⟩; first | omega | (rw [a] at h; cases h))]
    exact Ret.noneS rfl (fun _ _ => rfl) (fun g hg => by cases hg)
  · have hok : s.ok = true := Sg.ok_iff.2 ⟨by assumption, by omega, by omega, by omega⟩
    rw [if_pos hok]
    obtain ⟨kn, kk, kl, kh⟩ := Sg.ok_iff.1 hok
    have hk : s.kind.toNat = 101 := by omega
    obtain ⟨name, kind, num, A, cap, bs⟩ := s
    have hn1 := nameOk_len kn
    have horg := list_size name
    simp only at kn kk kl kh hn1 horg hk
    rw [horg] at hn1
    have hnum : num < 4294967296 := hf.num
    have hB : BytesAt fx A bs := hf.bs
    have h64 : num < 18446744073709551616 := by omega
    have ew := wrap_nat num h64
    have hdl := nDigits_le num h64
    have hds := decDigits_size num h64
    have h4 : (⟨#[115, 105, 103, 32]⟩ : ByteArray).size = 4 := rfl
    have h1 : (⟨#[32]⟩ : ByteArray).size = 1 := rfl
    have h10 : (⟨#[10]⟩ : ByteArray).size = 1 := rfl
    have hk1 : (⟨#[101]⟩ : ByteArray).size = 1 := rfl
    have hel := enc_length bs
    have hes := arr_size (enc bs)
    refine draw_opaque fun KD hD => ?_
    refine draw_all tok (by kernel_rfl) [.any 0, .any 4, .any 7, .any 13, .load 1, .any 2, .any 3, .any 5, .any 6, .load 8, .any 9, .load 14, .one 10, .any 11, .any 12, .one 15, .any 16, .any 17, .any 18] [] (by kernel_rfl) rfl rfl (by repeat' (first | exact trivial | refine And.intro rfl ?_)) ?_
    conv => whnf
    repeat' ((first | (refine And.intro (by simp only [app_size, h4, h1, hk1]; omega) ?_) | refine And.intro (by repeat' first | exact trivial | refine And.intro rfl ?_) (And.intro (by first | exact fun _ h => h | exact fun _ => List.mem_cons_of_mem _ | exact fun _ => List.mem_append_right _) ?_) | (refine And.intro (fun h => ?_) (fun h => ?_) <;> (try simp only [n1, n2, n3, n4, n5, n6] at h) <;> first | (exfalso; omega) | (cases h; done) | skip) | refine And.intro (by omega) ?_ | refine Exists.intro _ (And.intro (by first | exact And.intro rfl rfl | exact Pl.den (by repeat constructor) | with_reducible rfl | exact cast_succ _ | assumption | exact (Int.toNat_of_nonneg (by omega)).symm | rfl) ?_) | refine hD _ _ ?_ | refine hL _ _ ?_ | (intro h; (try simp only [n1, n2, n3, n4, n5, n6] at h); first | (exfalso; omega) | (cases h; done) | skip)) <;> (conv => whnf))
    refine Tri.use ((tRefDigits fx num num (Nat.le_refl _) h64).one) [] rfl (fun _ _ _ => by simp only [denL_cons, denL_nil, den, ew]; try rfl) trivial (fun f hf => by first | exact hf | cases hf) (fun v hv => ?_)
    conv => whnf
    repeat' ((first | (refine And.intro (by simp only [app_size, hk1, h4, h1, hds]; omega) ?_) | refine And.intro (by repeat' first | exact trivial | refine And.intro rfl ?_) (And.intro (by first | exact fun _ h => h | exact fun _ => List.mem_cons_of_mem _ | exact fun _ => List.mem_append_right _) ?_) | (refine And.intro (fun h => ?_) (fun h => ?_) <;> (try simp only [n1, n2, n3, n4, n5, n6] at h) <;> first | (exfalso; omega) | (cases h; done) | skip) | refine And.intro (by omega) ?_ | refine Exists.intro _ (And.intro (by first | exact And.intro rfl rfl | exact Pl.den (by repeat constructor) | with_reducible rfl | exact cast_succ _ | assumption | exact (Int.toNat_of_nonneg (by omega)).symm | rfl) ?_) | refine hD _ _ ?_ | refine hL _ _ ?_ | (intro h; (try simp only [n1, n2, n3, n4, n5, n6] at h); first | (exfalso; omega) | (cases h; done) | skip)) <;> (conv => whnf))
    refine Tri.use ((tRefEncode fx A cap bs (by omega) hB).one) [] rfl (fun _ _ _ => rfl) trivial (fun f hf => by first | exact hf | cases hf) (fun u hu => ?_)
    conv => whnf
    repeat' ((first | (refine And.intro (by simp only [app_size, hk1, h4, h1, h10, hds, hes]; omega) ?_) | refine And.intro (by repeat' first | exact trivial | refine And.intro rfl ?_) (And.intro (by first | exact fun _ h => h | exact fun _ => List.mem_cons_of_mem _ | exact fun _ => List.mem_append_right _) ?_) | (refine And.intro (fun h => ?_) (fun h => ?_) <;> (try simp only [n1, n2, n3, n4, n5, n6] at h) <;> first | (exfalso; omega) | (cases h; done) | skip) | refine And.intro (by omega) ?_ | refine Exists.intro _ (And.intro (by first | exact And.intro rfl rfl | exact Pl.den (by repeat constructor) | with_reducible rfl | exact cast_succ _ | assumption | exact (Int.toNat_of_nonneg (by omega)).symm | rfl) ?_) | refine hD _ _ ?_ | refine hL _ _ ?_ | (intro h; (try simp only [n1, n2, n3, n4, n5, n6] at h); first | (exfalso; omega) | (cases h; done) | skip)) <;> (conv => whnf))
    refine Ret.noneS rfl (fun _ _ => ?_) (fun g hg => by cases hg)
    simp only [den, denL_cons, denL_nil, strS, Sg.line]
    have e10 : (⟨#[10]⟩ : ByteArray) = ⟨([10] : List UInt8).toArray⟩ := rfl
    have e1 : (⟨#[32]⟩ : ByteArray) = ⟨([32] : List UInt8).toArray⟩ := rfl
    have e4 : (⟨#[115, 105, 103, 32]⟩ : ByteArray) = ⟨([115, 105, 103, 32] : List UInt8).toArray⟩ := rfl
    have hkk : kind = 101 := UInt8.toNat_inj.1 hk
    have ek : (⟨#[101]⟩ : ByteArray) = ⟨([101] : List UInt8).toArray⟩ := rfl
    have eo : name = ⟨name.data.toList.toArray⟩ := by simp
    rw [hkk, e10, e1, e4, ek]
    conv => rhs; rw [eo]
    simp only [ba_app]
end Go.Proofs.YtekgjjanikicnaaDoor.Sx

namespace Go.Proofs.YtekgjjanikicnaaDoor.Sx
open Go Go.RowKit
set_option maxRecDepth 100000
set_option linter.unusedSimpArgs false
set_option linter.unusedVariables false
theorem appFK_in : ∀ {a b : List Fact} {k : List Fact → Prop}, k (a ++ b) → appFK a b k
  | [], _, _, h => h
  | _ :: r, b, k, h => appFK_in (a := r) (b := b) (k := fun l => k (_ :: l)) h
/-- The cells of some signatures, one behind the other. -/
def sgRow (l : List Sg) : List Value := l.flatMap Sg.cells
theorem sgRow_get : ∀ {l : List Sg} {i : Nat} {s : Sg} {j : Nat} {y : Value}, l[i]? = some s → s.cells[j]? = some y → (sgRow l)[i * 4 + j]? = some y
  | x :: r, 0, s, j, y, h, hj => by
    simp only [List.getElem?_cons_zero, Option.some.injEq] at h
    subst h
    have hlt : j < 4 := (List.getElem?_eq_some_iff.1 hj).1
    simp only [sgRow, List.flatMap_cons, Nat.zero_mul, Nat.zero_add]
    rw [List.getElem?_append_left (by simpa [Sg.cells] using hlt)]
    exact hj
  | x :: r, i + 1, s, j, y, h, hj => by
    have h' : r[i]? = some s := by simpa using h
    have ih := sgRow_get h' hj
    simp only [sgRow, List.flatMap_cons] at ih ⊢
    rw [List.getElem?_append_right (by simp [Sg.cells]; omega)]
    have e : (i + 1) * 4 + j - x.cells.length = i * 4 + j := by simp [Sg.cells]; omega
    rw [e]
    exact ih
theorem sgRow_inv : ∀ (l : List Sg) (j : Nat) (y : Value), (sgRow l)[j]? = some y → ∃ i k s, j = i * 4 + k ∧ l[i]? = some s ∧ s.cells[k]? = some y
  | [], j, y, h => by simp [sgRow] at h
  | x :: r, j, y, h => by
    simp only [sgRow, List.flatMap_cons] at h
    by_cases hj : j < 4
    · rw [List.getElem?_append_left (by simpa [Sg.cells] using hj)] at h
      exact ⟨0, j, x, by omega, rfl, h⟩
    · rw [List.getElem?_append_right (by simp [Sg.cells]; omega)] at h
      obtain ⟨i, k, s, h1, h2, h3⟩ := sgRow_inv r _ y h
      have : x.cells.length = 4 := rfl
      exact ⟨i + 1, k, s, by omega, by simpa using h2, h3⟩
/-- Signatures that facts tell. -/
structure SgsAt (fx : List Fact) (A : Option Addr) (l : List Sg) : Prop where
  row : RowAt fx A (sgRow l)
  fit : ∀ s ∈ l, s.Fit fx
theorem SgsAt.cell {fx : List Fact} {A : Option Addr} {l : List Sg} (h : SgsAt fx A l) {i : Nat} {s : Sg} (hi : l[i]? = some s) {ad : Addr} (hA : A = some ad) {j : Nat} {y : Value} (hj : s.cells[j]? = some y) : FC fx (ad.add (i * 4 + j)) y :=
  h.row.2 ad hA _ _ (sgRow_get hi hj)
theorem SgsAt.field {fx : List Fact} {A : Option Addr} {l : List Sg} (h : SgsAt fx A l) {i : Nat} {s : Sg} (hi : l[i]? = some s) {ad : Addr} (hA : A = some ad) (j : Nat) {y : Value} (hj : s.cells[j]? = some y) : FC fx ((ad.add (i * 4)).add j) y := by
  rw [Addr.add_add]; exact h.cell hi hA hj
theorem SgsAt.adr {fx : List Fact} {A : Option Addr} {l : List Sg} (h : SgsAt fx A l) {i : Nat} (hi : i < l.length) : ∃ ad, A = some ad := by
  cases A with
  | none =>
    have := h.row.1 rfl
    have hl : l = [] := by
      cases l with
      | nil => rfl
      | cons x r => simp [sgRow, Sg.cells] at this
    subst hl
    simp at hi
  | some ad => exact ⟨ad, rfl⟩
theorem tFew21 (fx : List Fact) (A : Option Addr) (l : List Sg) (cap : Nat) (hS : SgsAt fx A l) (hl : l.length < 9223372036854775808) :
    Tri Tryd.prog 33 [.v (.slice A l.length cap)] [] 0 fx (RetE (α := Bool) 0 (fun b => b = true → l.length ≤ 15 ∧ ∀ s ∈ l, s.name.size ≤ 100 ∧ s.bs.length ≤ 200) (fun b => .v (.bool b)) (fun _ => []) 0 (fun _ => [])) := by
  refine Tri.of_code tok Tryd.func33 rfl rfl rfl (by decide) rfl (Nat.le_of_ble_eq_true rfl) ?_
  conv => whnf
  repeat' ((first | refine And.intro (by repeat' first | exact trivial | refine And.intro rfl ?_) (And.intro (by first | exact fun _ h => h | exact fun _ => List.mem_cons_of_mem _ | exact fun _ => List.mem_append_right _) ?_) | (refine And.intro (fun h => ?_) (fun h => ?_) <;> (try simp only [n1, n2, n3, n4, n5, n6] at h) <;> first | (exfalso; omega) | (cases h; done) | skip) | refine And.intro (by omega) ?_ | refine Exists.intro _ (And.intro (by first | exact And.intro rfl rfl | exact Pl.den (by repeat constructor) | with_reducible rfl | exact cast_succ _ | assumption | exact (Int.toNat_of_nonneg (by omega)).symm | rfl) ?_) | refine hD _ _ ?_ | refine hL _ _ ?_ | (intro h; (try simp only [n1, n2, n3, n4, n5, n6] at h); first | (exfalso; omega) | (cases h; done) | skip)) <;> (conv => whnf))
  refine loop_by tok (α := Nat) (fun i => ⟨[(0, .v (.slice A l.length cap)), (3, .v (.int .i64 i))], [], 0, fx⟩) (fun i => i ≤ l.length ∧ i ≤ 20 ∧ ∀ j s, j < i → l[j]? = some s → s.name.size ≤ 100 ∧ s.bs.length ≤ 200) (fun i => l.length - i) 0 [] (by simp) ⟨rfl, ?_, trivial, fun f hf => hf⟩ ?_
  · exact ⟨fun _ _ _ => rfl, fun _ _ _ => rfl, trivial⟩
  · rintro i ⟨hi, h20, ha⟩
    conv => whnf
    repeat' ((first | refine And.intro (by repeat' first | exact trivial | refine And.intro rfl ?_) (And.intro (by first | exact fun _ h => h | exact fun _ => List.mem_cons_of_mem _ | exact fun _ => List.mem_append_right _) ?_) | (refine And.intro (fun h => ?_) (fun h => ?_) <;> (try simp only [n1, n2, n3, n4, n5, n6] at h) <;> first | (exfalso; omega) | (cases h; done) | skip) | refine And.intro (by omega) ?_ | refine Exists.intro _ (And.intro (by first | exact And.intro rfl rfl | exact Pl.den (by repeat constructor) | with_reducible rfl | exact cast_succ _ | assumption | exact (Int.toNat_of_nonneg (by omega)).symm | rfl) ?_) | refine hD _ _ ?_ | refine hL _ _ ?_ | (intro h; (try simp only [n1, n2, n3, n4, n5, n6] at h); first | (exfalso; omega) | (cases h; done) | skip)) <;> (conv => whnf))
    · have hlt : i < l.length := by omega
      obtain ⟨ad, hA⟩ := hS.adr hlt
      obtain ⟨s, hs⟩ : ∃ s, l[i]? = some s := ⟨l[i], List.getElem?_eq_getElem hlt⟩
      refine ⟨ad, hA, ?_⟩
      conv => whnf
      repeat' ((first | (refine Exists.intro _ (And.intro (hS.field hs hA 0 rfl) ?_)) | (refine Exists.intro _ (And.intro (hS.field hs hA 3 rfl) ?_)) | (refine Exists.intro ad (And.intro hA ?_)) | refine And.intro (by repeat' first | exact trivial | refine And.intro rfl ?_) (And.intro (by first | exact fun _ h => h | exact fun _ => List.mem_cons_of_mem _ | exact fun _ => List.mem_append_right _) ?_) | (refine And.intro (fun h => ?_) (fun h => ?_) <;> (try simp only [n1, n2, n3, n4, n5, n6] at h) <;> first | (exfalso; omega) | (cases h; done) | skip) | refine And.intro (by omega) ?_ | refine Exists.intro _ (And.intro (by first | exact And.intro rfl rfl | exact Pl.den (by repeat constructor) | with_reducible rfl | exact cast_succ _ | assumption | exact (Int.toNat_of_nonneg (by omega)).symm | rfl) ?_) | refine hD _ _ ?_ | refine hL _ _ ?_ | (intro h; (try simp only [n1, n2, n3, n4, n5, n6] at h); first | (exfalso; omega) | (cases h; done) | skip)) <;> (conv => whnf))
      · exact ⟨false, (fun h => by cases h), Ret.noneS rfl (fun _ _ => rfl) (fun g hg => by cases hg)⟩
      · exact ⟨false, (fun h => by cases h), Ret.noneS rfl (fun _ _ => rfl) (fun g hg => by cases hg)⟩
      · refine ⟨i + 1, [], ⟨⟨by omega, by omega, fun j s' hj hs' => ?_⟩, by omega⟩, rfl, ⟨fun _ _ _ => rfl, fun _ _ _ => rfl, trivial⟩, trivial, fun f hf => hf⟩
        by_cases hji : j < i
        · exact ha j s' hji hs'
        · obtain rfl : j = i := by omega
          obtain rfl := Option.some.inj (hs.symm.trans hs')
          exact ⟨by omega, by omega⟩
    · refine ⟨false, fun h => by simp at h, ?_⟩
      refine Ret.noneS rfl (fun _ _ => ?_) (fun g hg => by cases hg)
      simp only [den]; congr 1; rw [decide_eq_false (by omega)]
    · refine ⟨decide ((l.length : Int) ≤ 15), fun h => ⟨by have := of_decide_eq_true h; omega, fun s hs => ?_⟩, Ret.noneS rfl (fun _ _ => rfl) (fun g hg => by cases hg)⟩
      obtain ⟨j, hj⟩ := List.getElem?_of_mem hs
      exact ha j s (by have := (List.getElem?_eq_some_iff.1 hj).1; omega) hj
structure SgB where
  i : Nat
  row : Option (Nat × List Value)
def SgB.inv (T : TypeId) (A : Option Addr) (l : List Sg) (cap : Nat) (fx : List Fact) (x : SgB) : SS := match x.row with
  | none => ⟨[(0, .v (.slice A l.length cap)), (3, .v (.slice none 0 0)), (4, .v (.int .i64 x.i))], [], 0, fx⟩
  | some (c, xs) => ⟨[(0, .v (.slice A l.length cap)), (3, .s 0 0 x.i c), (4, .v (.int .i64 x.i))], [(0, .row xs T)], 1, fx⟩
structure SgB.Pr (l : List Sg) (x : SgB) : Prop where
  i : x.i ≤ l.length
  row : match x.row with
    | none => x.i = 0
    | some (c, xs) => xs.take (x.i * 4) = sgRow (l.take x.i) ∧ c * 4 = xs.length ∧ x.i ≤ c
theorem tSigs0 (fx : List Fact) (A : Option Addr) (l : List Sg) (cap : Nat) (hS : SgsAt fx A l) (hl : l.length ≤ 1000000) :
    Tri Tryd.prog 37 [.v (.slice A l.length cap)] [] 0 fx (RetE (α := Option (Nat × List Value)) 0 (fun x => match x with | none => l = [] | some (c, xs) => xs.take (l.length * 4) = sgRow l ∧ l.length ≤ c)
      (fun x => match x with | none => .v (.slice none 0 0) | some (c, xs) => .s 0 0 l.length c) (fun x => match x with | none => [] | some (c, xs) => [(0, .row xs 108)]) 1 (fun _ => [])) := by
  refine Tri.of_code tok Tryd.func37 rfl rfl rfl (by decide) rfl (Nat.le_of_ble_eq_true rfl) ?_
  conv => whnf
  repeat' ((first | refine And.intro (by repeat' first | exact trivial | refine And.intro rfl ?_) (And.intro (by first | exact fun _ h => h | exact fun _ => List.mem_cons_of_mem _ | exact fun _ => List.mem_append_right _) ?_) | (refine And.intro (fun h => ?_) (fun h => ?_) <;> (try simp only [n1, n2, n3, n4, n5, n6] at h) <;> first | (exfalso; omega) | (cases h; done) | skip) | refine And.intro (by omega) ?_ | refine Exists.intro _ (And.intro (by first | exact And.intro rfl rfl | exact Pl.den (by repeat constructor) | with_reducible rfl | exact cast_succ _ | assumption | exact (Int.toNat_of_nonneg (by omega)).symm | rfl) ?_) | refine hD _ _ ?_ | refine hL _ _ ?_ | (intro h; (try simp only [n1, n2, n3, n4, n5, n6] at h); first | (exfalso; omega) | (cases h; done) | skip)) <;> (conv => whnf))
  refine loop_by tok (SgB.inv 108 A l cap fx) (SgB.Pr l) (fun x => l.length - x.i) ⟨0, none⟩ [] ⟨Nat.zero_le _, rfl⟩ ⟨rfl, ⟨fun _ _ _ => rfl, fun _ _ _ => rfl, fun _ _ _ => rfl, trivial⟩, trivial, fun f hf => hf⟩ ?_
  rintro ⟨i, row⟩ hx
  have hi := hx.i
  have hr := hx.row
  simp only at hi hr
  cases row with
  | none =>
    obtain rfl : i = 0 := hr
    simp only [SgB.inv]
    conv => whnf
    repeat' ((first | refine And.intro (by repeat' first | exact trivial | refine And.intro rfl ?_) (And.intro (by first | exact fun _ h => h | exact fun _ => List.mem_cons_of_mem _ | exact fun _ => List.mem_append_right _) ?_) | (refine And.intro (fun h => ?_) (fun h => ?_) <;> (try simp only [n1, n2, n3, n4, n5, n6] at h) <;> first | (exfalso; omega) | (cases h; done) | skip) | refine And.intro (by omega) ?_ | refine Exists.intro _ (And.intro (by first | exact And.intro rfl rfl | exact Pl.den (by repeat constructor) | with_reducible rfl | exact cast_succ _ | assumption | exact (Int.toNat_of_nonneg (by omega)).symm | rfl) ?_) | refine hD _ _ ?_ | refine hL _ _ ?_ | (intro h; (try simp only [n1, n2, n3, n4, n5, n6] at h); first | (exfalso; omega) | (cases h; done) | skip)) <;> (conv => whnf))
    · have hlt : 0 < l.length := by omega
      obtain ⟨ad, hA⟩ := hS.adr hlt
      obtain ⟨s, hs⟩ : ∃ s, l[0]? = some s := ⟨l[0], List.getElem?_eq_getElem hlt⟩
      refine ⟨ad, hA, ?_⟩
      conv => whnf
      repeat' ((first | (refine Exists.intro s.cells (And.intro ⟨rfl, fun j y hj => hS.field hs hA j hj⟩ ?_)) | refine And.intro (by repeat' first | exact trivial | refine And.intro rfl ?_) (And.intro (by first | exact fun _ h => h | exact fun _ => List.mem_cons_of_mem _ | exact fun _ => List.mem_append_right _) ?_) | (refine And.intro (fun h => ?_) (fun h => ?_) <;> (try simp only [n1, n2, n3, n4, n5, n6] at h) <;> first | (exfalso; omega) | (cases h; done) | skip) | refine And.intro (by omega) ?_ | refine Exists.intro _ (And.intro (by first | exact And.intro rfl rfl | exact Pl.den (by repeat constructor) | with_reducible rfl | exact cast_succ _ | assumption | exact (Int.toNat_of_nonneg (by omega)).symm | rfl) ?_) | refine hD _ _ ?_ | refine hL _ _ ?_ | (intro h; (try simp only [n1, n2, n3, n4, n5, n6] at h); first | (exfalso; omega) | (cases h; done) | skip)) <;> (conv => whnf))
      rename_i m sp
      have hsp := h
      refine ⟨⟨1, some (1 + m, s.cells ++ sp)⟩, [1], ⟨⟨hlt, ?_, ?_, by simp only; omega⟩, by simp only; omega⟩, rfl, ⟨fun _ _ _ => rfl, SEq.ren rfl rfl, fun _ _ _ => rfl, trivial⟩, ⟨OSub.ren rfl rfl, trivial⟩, fun f hf => hf⟩
      · simp only
        rw [List.take_left' (by simp [Sg.cells]), take_succ_of hs]
        simp [sgRow]
      · simp only [List.length_append, hsp]
        simp [Sg.cells]; omega
    · exact ⟨none, List.length_eq_zero_iff.1 (by omega), Ret.mk [] [] (Fold.refl _) rfl (fun _ _ _ => rfl) trivial (fun _ h => by cases h)⟩
  | some r =>
    obtain ⟨c, xs⟩ := r
    simp only at hr
    obtain ⟨hr1, hr2, hr3⟩ := hr
    simp only [SgB.inv]
    conv => whnf
    repeat' ((first | refine And.intro (by repeat' first | exact trivial | refine And.intro rfl ?_) (And.intro (by first | exact fun _ h => h | exact fun _ => List.mem_cons_of_mem _ | exact fun _ => List.mem_append_right _) ?_) | (refine And.intro (fun h => ?_) (fun h => ?_) <;> (try simp only [n1, n2, n3, n4, n5, n6] at h) <;> first | (exfalso; omega) | (cases h; done) | skip) | refine And.intro (by omega) ?_ | refine Exists.intro _ (And.intro (by first | exact And.intro rfl rfl | exact Pl.den (by repeat constructor) | with_reducible rfl | exact cast_succ _ | assumption | exact (Int.toNat_of_nonneg (by omega)).symm | rfl) ?_) | refine hD _ _ ?_ | refine hL _ _ ?_ | (intro h; (try simp only [n1, n2, n3, n4, n5, n6] at h); first | (exfalso; omega) | (cases h; done) | skip)) <;> (conv => whnf))
    · have hlt : i < l.length := by omega
      obtain ⟨ad, hA⟩ := hS.adr hlt
      obtain ⟨s, hs⟩ : ∃ s, l[i]? = some s := ⟨l[i], List.getElem?_eq_getElem hlt⟩
      refine ⟨ad, hA, ?_⟩
      conv => whnf
      repeat' ((first | (refine Exists.intro s.cells (And.intro ⟨rfl, fun j y hj => hS.field hs hA j hj⟩ ?_)) | refine And.intro (by repeat' first | exact trivial | refine And.intro rfl ?_) (And.intro (by first | exact fun _ h => h | exact fun _ => List.mem_cons_of_mem _ | exact fun _ => List.mem_append_right _) ?_) | (refine And.intro (fun h => ?_) (fun h => ?_) <;> (try simp only [n1, n2, n3, n4, n5, n6] at h) <;> first | (exfalso; omega) | (cases h; done) | skip) | refine And.intro (by omega) ?_ | refine Exists.intro _ (And.intro (by first | exact And.intro rfl rfl | exact Pl.den (by repeat constructor) | with_reducible rfl | exact cast_succ _ | assumption | exact (Int.toNat_of_nonneg (by omega)).symm | rfl) ?_) | refine hD _ _ ?_ | refine hL _ _ ?_ | (intro h; (try simp only [n1, n2, n3, n4, n5, n6] at h); first | (exfalso; omega) | (cases h; done) | skip)) <;> (conv => whnf))
      refine ⟨⟨by omega, hr3, hr2, Sg.one⟩, fun m sp hsp => ?_⟩
      conv => whnf
      repeat' ((first | refine And.intro (by repeat' first | exact trivial | refine And.intro rfl ?_) (And.intro (by first | exact fun _ h => h | exact fun _ => List.mem_cons_of_mem _ | exact fun _ => List.mem_append_right _) ?_) | (refine And.intro (fun h => ?_) (fun h => ?_) <;> (try simp only [n1, n2, n3, n4, n5, n6] at h) <;> first | (exfalso; omega) | (cases h; done) | skip) | refine And.intro (by omega) ?_ | refine Exists.intro _ (And.intro (by first | exact And.intro rfl rfl | exact Pl.den (by repeat constructor) | with_reducible rfl | exact cast_succ _ | assumption | exact (Int.toNat_of_nonneg (by omega)).symm | rfl) ?_) | refine hD _ _ ?_ | refine hL _ _ ?_ | (intro h; (try simp only [n1, n2, n3, n4, n5, n6] at h); first | (exfalso; omega) | (cases h; done) | skip)) <;> (conv => whnf))
      have hlt2 : (sgRow (l.take i)).length = i * 4 := by rw [← hr1, List.length_take]; omega
      refine ⟨⟨i + 1, some (i + 1 + m, xs.take (i * 4) ++ s.cells ++ sp)⟩, [2], ⟨⟨hlt, ?_, ?_, by simp only; omega⟩, by simp only; omega⟩, rfl, ⟨fun _ _ _ => rfl, SEq.ren rfl rfl, fun _ _ _ => rfl, trivial⟩, ⟨OSub.ren rfl rfl, trivial⟩, fun f hf => hf⟩
      · simp only
        rw [hr1, List.take_left' (by rw [List.length_append, hlt2]; simp [Sg.cells]; omega), take_succ_of hs]
        simp [sgRow]
      · simp only [List.length_append, hsp, hr1, hlt2]
        simp [Sg.cells]; omega
    · obtain rfl : i = l.length := by omega
      refine ⟨some (c, xs), ⟨by rw [hr1, List.take_of_length_le (Nat.le_refl _)], hr3⟩, ?_⟩
      exact Ret.mk [0] _ (Fold.refl _) rfl (SEq.ren rfl rfl) ⟨OSub.ren rfl rfl, trivial⟩ (fun g hg => by cases hg)
theorem RowAt.row {fx : List Fact} {b n : Nat} {xs vs : List Value} {T : TypeId} (h : rowFact b xs T ∈ fx) (hx : xs.take n = vs) : RowAt fx (some ⟨b, 0, none⟩) vs := by
  refine ⟨fun e => (by cases e), fun ad e j y hj => ?_⟩
  obtain rfl := Option.some.inj e
  rw [add_at, Nat.zero_add]
  refine rowFact_FC h ?_
  rw [← hx] at hj
  have hlt := (List.getElem?_eq_some_iff.1 hj).1
  rw [List.length_take] at hlt
  rwa [List.getElem?_take, if_pos (by omega)] at hj
theorem Sg.Fit.mono {fx fx' : List Fact} {s : Sg} (h : s.Fit fx) (hf : ∀ f, f ∈ fx → f ∈ fx') : s.Fit fx' := ⟨h.name, h.num, h.bs.mono hf, h.cap, h.len⟩
/-- A row of signatures that was made. -/
structure SgW where
  A : Option Addr
  cap : Nat
  f : List Fact
def SgW.pr (fx : List Fact) (l : List Sg) (x : SgW) : Prop := SgsAt (x.f ++ fx) x.A l
def SgW.v (l : List Sg) (x : SgW) : SV := .v (.slice x.A l.length x.cap)
theorem tSigs (fx : List Fact) (A : Option Addr) (l : List Sg) (cap : Nat) (hS : SgsAt fx A l) (hl : l.length ≤ 1000000) :
    Tri Tryd.prog 37 [.v (.slice A l.length cap)] [] 0 fx (RetE (α := SgW) 0 (SgW.pr fx l) (SgW.v l) (fun _ => []) 0 SgW.f) := by
  refine (tSigs0 fx A l cap hS hl).conv.share2 fun y h m f ⟨a, hp, e1, e2, e3, e4⟩ => ?_
  subst e1 e2 e3 e4
  cases a with
  | none =>
    left
    obtain rfl : l = [] := hp
    refine ⟨⟨none, 0, []⟩, ⟨⟨fun _ => rfl, fun ad e => by cases e⟩, fun s hs => by cases hs⟩, ?_⟩
    exact Ret.mk [] [] (Fold.refl _) rfl (fun _ _ _ => rfl) trivial (fun _ h => h)
  | some r =>
    obtain ⟨c, xs⟩ := r
    right
    obtain ⟨h1, h2⟩ := hp
    refine ⟨0, xs, 108, List.mem_cons_self .., fun b => ⟨.v (.slice (some ⟨b, 0, none⟩) l.length c), fun ρ e => by simp only [den, e], ?_⟩⟩
    refine ⟨⟨some ⟨b, 0, none⟩, c, [rowFact b xs 108]⟩, ⟨RowAt.row (List.mem_cons_self ..) h1, fun s hs => (hS.fit s hs).mono fun f hf => List.mem_append_right _ hf⟩, ?_⟩
    exact Ret.mk [] [] (Fold.refl _) rfl (fun _ _ _ => rfl) trivial (fun _ h => h)
end Go.Proofs.YtekgjjanikicnaaDoor.Sx

namespace Go.Proofs.YtekgjjanikicnaaDoor.Sx
open Go Go.RowKit
set_option maxRecDepth 100000
set_option linter.unusedSimpArgs false
set_option linter.unusedVariables false
/-- What stands between the signs c. -/
def parts (c : UInt8) : List UInt8 → List (List UInt8)
  | [] => [[]]
  | x :: r => if x = c then [] :: parts c r else match parts c r with
    | p :: ps => (x :: p) :: ps
    | [] => [[x]]
theorem parts_ne (c : UInt8) : ∀ l, parts c l ≠ []
  | [] => by simp [parts]
  | x :: r => by
    unfold parts
    split
    · simp
    · split <;> simp
theorem parts_eq (c : UInt8) (r : List UInt8) : parts c (c :: r) = [] :: parts c r := by
  conv => lhs; unfold parts
  rw [if_pos rfl]
theorem parts_cons {c x : UInt8} (h : x ≠ c) {r p : List UInt8} {ps : List (List UInt8)} (e : parts c r = p :: ps) : parts c (x :: r) = (x :: p) :: ps := by
  conv => lhs; unfold parts
  rw [if_neg h, e]
theorem parts_no {c : UInt8} : ∀ {l : List UInt8}, c ∉ l → parts c l = [l]
  | [], _ => rfl
  | x :: r, h => by
    have h1 : x ≠ c := fun e => h (by rw [e]; exact List.mem_cons_self ..)
    exact parts_cons h1 (parts_no fun hm => h (List.mem_cons_of_mem _ hm))
theorem parts_app {c : UInt8} : ∀ {a : List UInt8} {b : List UInt8}, c ∉ a → parts c (a ++ c :: b) = a :: parts c b
  | [], b, _ => parts_eq c b
  | x :: r, b, h => by
    have h1 : x ≠ c := fun e => h (by rw [e]; exact List.mem_cons_self ..)
    rw [List.cons_append]
    exact parts_cons h1 (parts_app fun hm => h (List.mem_cons_of_mem _ hm))
/-- The parts, one behind the other again. -/
def glue (c : UInt8) : List (List UInt8) → List UInt8
  | [] => []
  | [p] => p
  | p :: q :: ps => p ++ c :: glue c (q :: ps)
theorem glue_cons (c x : UInt8) (p : List UInt8) (ps : List (List UInt8)) : glue c ((x :: p) :: ps) = x :: glue c (p :: ps) := by
  cases ps <;> simp [glue]
theorem glue_nil (c : UInt8) {l : List (List UInt8)} (h : l ≠ []) : glue c ([] :: l) = c :: glue c l := by
  cases l with
  | nil => exact absurd rfl h
  | cons p ps => simp [glue]
theorem glue_parts (c : UInt8) : ∀ l, glue c (parts c l) = l
  | [] => rfl
  | x :: r => by
    have ih := glue_parts c r
    by_cases h : x = c
    · subst h
      rw [parts_eq, glue_nil _ (parts_ne _ _), ih]
    · cases e : parts c r with
      | nil => exact absurd e (parts_ne c r)
      | cons p ps => rw [parts_cons h e, glue_cons, ← e, ih]
theorem parts_free (c : UInt8) : ∀ (l : List UInt8), ∀ p ∈ parts c l, c ∉ p
  | [], p, hp => by
    obtain rfl := List.mem_singleton.1 (show p ∈ [[]] from hp)
    simp
  | x :: r, p, hp => by
    have ih := parts_free c r
    by_cases h : x = c
    · subst h
      rw [parts_eq] at hp
      rcases List.mem_cons.1 hp with rfl | hp
      · simp
      · exact ih p hp
    · cases e : parts c r with
      | nil => exact absurd e (parts_ne c r)
      | cons q qs =>
        rw [parts_cons h e] at hp
        rcases List.mem_cons.1 hp with rfl | hp
        · intro hm
          rcases List.mem_cons.1 hm with hm | hm
          · exact h hm.symm
          · exact ih q (by rw [e]; exact List.mem_cons_self ..) hm
        · exact ih p (by rw [e]; exact List.mem_cons_of_mem _ hp)
theorem parts_len (c : UInt8) : ∀ l, (parts c l).length = l.count c + 1
  | [] => rfl
  | x :: r => by
    have ih := parts_len c r
    by_cases h : x = c
    · subst h
      rw [parts_eq, List.length_cons, ih, List.count_cons_self]
    · cases e : parts c r with
      | nil => exact absurd e (parts_ne c r)
      | cons p ps =>
        rw [parts_cons h e, List.count_cons_of_ne h, ← ih, e]
        rfl
theorem splitK_parts (c : UInt8) : ∀ (l : List UInt8), Lib.splitK [c] 0 (Lib.count l [c]) l = parts c l
  | [] => by
    have : Lib.count [] [c] = 0 := Lib.count_miss (by simp [Lib.index])
    rw [this]; rfl
  | x :: r => by
    have ih := splitK_parts c r
    by_cases h : x = c
    · subst h
      have e0 : Lib.index (x :: r) [x] = 0 := by unfold Lib.index; simp
      rw [Lib.count_cons_eq, Nat.add_comm, parts_eq]
      unfold Lib.splitK
      rw [if_neg (by rw [e0]; decide), e0]
      simp only [Int.toNat_zero, Nat.zero_add, List.take_zero, List.length_singleton, List.drop_succ_cons, List.drop_zero]
      rw [ih]
    · have ei : Lib.index (x :: r) [c] = if Lib.index r [c] == -1 then -1 else Lib.index r [c] + 1 := by
        conv => lhs; unfold Lib.index
        rw [if_neg (by simp [List.isPrefixOf]; exact fun e => h e.symm)]
      rw [Lib.count_cons_ne x c r h]
      have hg := Lib.index_ge r [c]
      by_cases hi : Lib.index r [c] = -1
      · have hc0 := Lib.count_miss hi
        rw [hc0] at ih ⊢
        have e1 : parts c r = [r] := ih.symm
        rw [parts_cons h e1]; rfl
      · obtain ⟨i, hi2⟩ : ∃ i : Nat, Lib.index r [c] = i := ⟨(Lib.index r [c]).toNat, by omega⟩
        have hc1 := Lib.count_hit (sub := [c]) (by simp) hi2
        rw [hc1, Nat.add_comm] at ih ⊢
        rw [hi2, if_neg (by simp)] at ei
        unfold Lib.splitK at ih ⊢
        rw [hi2, if_neg (by simp)] at ih
        rw [ei, if_neg (by simp; omega)]
        rw [parts_cons h ih.symm]
        have e2 : ((i : Int) + 1).toNat = i + 1 := by omega
        simp only [Int.toNat_natCast, e2, Nat.add_zero, List.length_singleton, List.take_succ_cons, List.drop_succ_cons]
/-- Some int stands there. -/
def gMax : Fact where
  G := fun k => k = 8
  φ := fun w => ∃ m, w.cell? ⟨8, 0, none⟩ = some (.int .i64 m)
  loc := fun {w w'} h hk => by
    obtain ⟨m, hm⟩ := h
    exact ⟨m, by rw [World.cell?_of_block (w := w) (hk _ rfl)]; exact hm⟩
def bsV (l : List (List UInt8)) : List Value := l.map strS
theorem tSplit (fx : List Fact) (hg : gMax ∈ fx) (s : ByteArray) (c : UInt8) (hs : s.size < 4294967281) :
    Tri Tryd.prog 94 [.v (.string s), .v (.string ⟨#[c]⟩)] [] 0 fx (Ret 0 (.s 0 0 (parts c s.data.toList).length (parts c s.data.toList).length) [(0, .row (bsV (parts c s.data.toList)) 9)] 1 []) := by
  refine ⟨trivial, fun ρ F w hh hrob => .inl ⟨(Go.Proofs.enters_of Tryd.func94 (by kernel_rfl) rfl) _ w, ?_⟩⟩
  obtain ⟨m, hm⟩ := hh.shape.fok gMax hg
  refine (Any.strings_Split Tryd.lays146 (by kernel_rfl) s ⟨#[c]⟩ m w hs hm (Nat.le_refl _)).mono ?_
  rintro e w' ⟨he, hw⟩
  have hp : (Lib.splitB ⟨#[c]⟩ 0 (Lib.countB s ⟨#[c]⟩) s).map (·.data.toList) = parts c s.data.toList := by
    rw [Lib.splitB_data]; exact splitK_parts c s.data.toList
  have hl : (parts c s.data.toList).length = Lib.countB s ⟨#[c]⟩ + 1 := by
    rw [← hp, List.length_map, Lib.splitB_all ⟨#[c]⟩ (Nat.le_refl _) 0 _ s rfl]
  have hv : (Lib.splitB ⟨#[c]⟩ 0 (Lib.countB s ⟨#[c]⟩) s).map Value.string = bsV (parts c s.data.toList) := by
    rw [← hp, bsV, List.map_map]
    refine List.map_congr_left fun x _ => ?_
    simp [strS]
  rw [hv] at hw
  subst hw
  obtain ⟨h1, h2⟩ := hh.alloc (o := .row (bsV (parts c s.data.toList)) 9) (ob := .cells (bsV (parts c s.data.toList)).toArray 9) (fun ρ' _ => ⟨fun _ => Iff.rfl, cellsAt_alloc w _ _⟩)
  refine ⟨.s 0 0 (parts c s.data.toList).length (parts c s.data.toList).length, [(0, .row (bsV (parts c s.data.toList)) 9)], 1, fx, updR ρ 0 w.heap.size, updR F 0 (fun k => k = w.heap.size), ?_, ?_, fun ρ'' hr => ?_, h1, Ag.updR ρ _, by omega, keeps_alloc _ w _, h2, fun f hf => .inl hf⟩
  · exact Ret.mk [0] _ (Fold.refl _) rfl (SEq.ren rfl rfl) ⟨OSub.ren rfl rfl, trivial⟩ (fun g hg => by cases hg)
  · rw [he, hl]
    simp only [den, updR_same]
  · simp only [den]
    rw [hr 0 (by omega)]
end Go.Proofs.YtekgjjanikicnaaDoor.Sx

namespace Go.Proofs.YtekgjjanikicnaaDoor.Sx
open Go Go.RowKit
set_option maxRecDepth 100000
set_option linter.unusedSimpArgs false
set_option linter.unusedVariables false
/-- A note's bytes. -/
def noteL (d : Hd) (l : List Sg) : List UInt8 := d.text ++ [10] ++ l.flatMap Sg.line
def wErr (d : Hd) (l : List Sg) : Nat := if d.ok = false ∨ l.all Sg.ok = false then 1 else if 8 < l.length then 4 else 0
def wOut (d : Hd) (l : List Sg) : List UInt8 := if wErr d l = 0 then noteL d l else []
def wRes (d : Hd) (l : List Sg) : SV := .tup [.v (strS (wOut d l)), .v (.int .i64 (wErr d l : Nat))]
theorem line_len {s : Sg} (h : s.ok = true) (hn : s.num < 4294967296) : s.line.length ≤ 167 := by
  obtain ⟨h1, _, h2, h3⟩ := Sg.ok_iff.1 h
  have h4 := nameOk_len h1
  have h5 : Lib.nDigits s.num ≤ 10 := by
    have : ∀ k u, u < 10 ^ (k + 1) → Lib.nDigits u ≤ k + 1 := by
      intro k
      induction k with
      | zero => intro u h; rw [Lib.nDigits_small (by omega)]; omega
      | succ k ih =>
        intro u h
        by_cases h10 : u < 10
        · rw [Lib.nDigits_small h10]; omega
        · rw [Lib.nDigits_big h10]
          have := ih (u / 10) (by rw [Nat.pow_succ] at h; omega)
          omega
    exact this 9 s.num (by omega)
  have h6 := enc_length s.bs
  have h7 := decDigits_len s.num
  simp only [Sg.line, List.length_append, List.length_cons, List.length_nil, h6, h7]
  omega
theorem lines_len : ∀ {l : List Sg}, (∀ s ∈ l, s.ok = true ∧ s.num < 4294967296) → (l.flatMap Sg.line).length ≤ 167 * l.length
  | [], _ => by simp
  | x :: r, h => by
    have h1 := line_len (h x (List.mem_cons_self ..)).1 (h x (List.mem_cons_self ..)).2
    have h2 := lines_len (l := r) fun s hs => h s (List.mem_cons_of_mem _ hs)
    simp only [List.flatMap_cons, List.length_append, List.length_cons]
    omega
theorem text_len {d : Hd} (h : d.ok = true) (hr : d.root.length = 32) : d.text.length ≤ 107 := by
  unfold Hd.ok at h
  simp only [Bool.and_eq_true, decide_eq_true_eq] at h
  obtain ⟨h1, h2⟩ := h
  have h4 := nameOk_len h1
  have h5 := nDigits_le d.size.toNat (by omega)
  have h6 := enc_length d.root
  have h7 := decDigits_len d.size.toNat
  simp only [Hd.text, List.length_append, List.length_cons, List.length_nil, h6, h7, hr]
  omega
theorem Hd.len {d : Hd} (hf : d.Fit) : d.cells.length = 34 := by simp [Hd.cells, hf.root]
theorem Hd.all {d : Hd} (hf : d.Fit) : List.take 34 (List.drop 0 d.cells) = d.cells ∧ d.cells.length = 34 := ⟨by rw [List.drop_zero, List.take_of_length_le (by rw [Hd.len hf]; omega)], Hd.len hf⟩
theorem wErr_no {d : Hd} {l : List Sg} (h : d.ok = false ∨ l.all Sg.ok = false) : wRes d l = .tup [.v (strS []), .v (.int .i64 (1 : Nat))] := by
  have e : wErr d l = 1 := if_pos h
  unfold wRes wOut
  rw [e]; rfl
theorem wErr_long {d : Hd} {l : List Sg} (h1 : d.ok = true) (h2 : l.all Sg.ok = true) (h : 8 < l.length) : wRes d l = .tup [.v (strS []), .v (.int .i64 (4 : Nat))] := by
  have e : wErr d l = 4 := by unfold wErr; rw [if_neg (by simp [h1, h2]), if_pos h]
  unfold wRes wOut
  rw [e]; rfl
theorem wErr_ok {d : Hd} {l : List Sg} (h1 : d.ok = true) (h2 : l.all Sg.ok = true) (h : ¬ 8 < l.length) : wRes d l = .tup [.v (strS (noteL d l)), .v (.int .i64 (0 : Nat))] := by
  have e : wErr d l = 0 := by unfold wErr; rw [if_neg (by simp [h1, h2]), if_neg h]
  unfold wRes wOut
  rw [e]; rfl
theorem tWrite21 (fx : List Fact) (hg : gTab ∈ fx) (d : Hd) (hf : d.Fit) (A : Option Addr) (l : List Sg) (cap : Nat) (hS : SgsAt fx A l) (hl : l.length ≤ 15) :
    Tri Tryd.prog 36 [.v d.v, .v (.slice A l.length cap)] [] 0 fx (Ret 0 (wRes d l) [] 0 []) := by
  refine Tri.of_code tok Tryd.func36 rfl rfl rfl (by decide) rfl (Nat.le_of_ble_eq_true rfl) ?_
  conv => whnf
  repeat' ((first | refine And.intro (by repeat' first | exact trivial | refine And.intro rfl ?_) (And.intro (by first | exact fun _ h => h | exact fun _ => List.mem_cons_of_mem _ | exact fun _ => List.mem_append_right _) ?_) | (refine And.intro (fun h => ?_) (fun h => ?_) <;> (try simp only [n1, n2, n3, n4, n5, n6] at h) <;> first | (exfalso; omega) | (cases h; done) | skip) | refine And.intro (by omega) ?_ | refine Exists.intro _ (And.intro (by first | exact And.intro rfl rfl | exact Pl.den (by repeat constructor) | with_reducible rfl | exact cast_succ _ | assumption | exact (Int.toNat_of_nonneg (by omega)).symm | rfl) ?_) | refine hD _ _ ?_ | refine hL _ _ ?_ | (intro h; (try simp only [n1, n2, n3, n4, n5, n6] at h); first | (exfalso; omega) | (cases h; done) | skip)) <;> (conv => whnf))
  refine And.intro Hd.one ?_
  conv => whnf
  repeat' ((first | (refine Exists.intro d.cells (And.intro (Hd.all hf) ?_)) | refine And.intro (by repeat' first | exact trivial | refine And.intro rfl ?_) (And.intro (by first | exact fun _ h => h | exact fun _ => List.mem_cons_of_mem _ | exact fun _ => List.mem_append_right _) ?_) | (refine And.intro (fun h => ?_) (fun h => ?_) <;> (try simp only [n1, n2, n3, n4, n5, n6] at h) <;> first | (exfalso; omega) | (cases h; done) | skip) | refine And.intro (by omega) ?_ | refine Exists.intro _ (And.intro (by first | exact And.intro rfl rfl | exact Pl.den (by repeat constructor) | with_reducible rfl | exact cast_succ _ | assumption | exact (Int.toNat_of_nonneg (by omega)).symm | rfl) ?_) | refine hD _ _ ?_ | refine hL _ _ ?_ | (intro h; (try simp only [n1, n2, n3, n4, n5, n6] at h); first | (exfalso; omega) | (cases h; done) | skip)) <;> (conv => whnf))
  cases hok : d.ok with
  | false =>
    have T := tText fx hg d hf
    rw [Hd.res_no hok] at T
    refine Tri.use (T.one) [] rfl (fun _ _ _ => rfl) trivial (fun f hf => by first | exact hf | cases hf) (fun u hu => ?_)
    conv => whnf
    repeat' ((first | refine And.intro (by repeat' first | exact trivial | refine And.intro rfl ?_) (And.intro (by first | exact fun _ h => h | exact fun _ => List.mem_cons_of_mem _ | exact fun _ => List.mem_append_right _) ?_) | (refine And.intro (fun h => ?_) (fun h => ?_) <;> (try simp only [n1, n2, n3, n4, n5, n6] at h) <;> first | (exfalso; omega) | (cases h; done) | skip) | refine And.intro (by omega) ?_ | refine Exists.intro _ (And.intro (by first | exact And.intro rfl rfl | exact Pl.den (by repeat constructor) | with_reducible rfl | exact cast_succ _ | assumption | exact (Int.toNat_of_nonneg (by omega)).symm | rfl) ?_) | refine hD _ _ ?_ | refine hL _ _ ?_ | (intro h; (try simp only [n1, n2, n3, n4, n5, n6] at h); first | (exfalso; omega) | (cases h; done) | skip)) <;> (conv => whnf))
    rw [wErr_no (.inl hok)]
    exact Ret.noneS rfl (fun _ _ => rfl) (fun g hg => by cases hg)
  | true =>
  have T := tText fx hg d hf
  rw [Hd.res_ok hok] at T
  refine Tri.use (T.one) [] rfl (fun _ _ _ => rfl) trivial (fun f hf => by first | exact hf | cases hf) (fun u hu => ?_)
  conv => whnf
  repeat' ((first | refine And.intro (by repeat' first | exact trivial | refine And.intro rfl ?_) (And.intro (by first | exact fun _ h => h | exact fun _ => List.mem_cons_of_mem _ | exact fun _ => List.mem_append_right _) ?_) | (refine And.intro (fun h => ?_) (fun h => ?_) <;> (try simp only [n1, n2, n3, n4, n5, n6] at h) <;> first | (exfalso; omega) | (cases h; done) | skip) | refine And.intro (by omega) ?_ | refine Exists.intro _ (And.intro (by first | exact And.intro rfl rfl | exact Pl.den (by repeat constructor) | with_reducible rfl | exact cast_succ _ | assumption | exact (Int.toNat_of_nonneg (by omega)).symm | rfl) ?_) | refine hD _ _ ?_ | refine hL _ _ ?_ | (intro h; (try simp only [n1, n2, n3, n4, n5, n6] at h); first | (exfalso; omega) | (cases h; done) | skip)) <;> (conv => whnf))
  have htl := text_len hok hf.root
  have hts := arr_size d.text
  have h10 : (⟨#[10]⟩ : ByteArray).size = 1 := rfl
  conv => whnf
  repeat' ((first | (refine And.intro (by rw [hts, h10]; omega) ?_) | refine And.intro (by repeat' first | exact trivial | refine And.intro rfl ?_) (And.intro (by first | exact fun _ h => h | exact fun _ => List.mem_cons_of_mem _ | exact fun _ => List.mem_append_right _) ?_) | (refine And.intro (fun h => ?_) (fun h => ?_) <;> (try simp only [n1, n2, n3, n4, n5, n6] at h) <;> first | (exfalso; omega) | (cases h; done) | skip) | refine And.intro (by omega) ?_ | refine Exists.intro _ (And.intro (by first | exact And.intro rfl rfl | exact Pl.den (by repeat constructor) | with_reducible rfl | exact cast_succ _ | assumption | exact (Int.toNat_of_nonneg (by omega)).symm | rfl) ?_) | refine hD _ _ ?_ | refine hL _ _ ?_ | (intro h; (try simp only [n1, n2, n3, n4, n5, n6] at h); first | (exfalso; omega) | (cases h; done) | skip)) <;> (conv => whnf))
  refine loop_by tok (α := Nat) (fun i => ⟨[(1, .v (.slice A l.length cap)), (6, .v (.string (⟨d.text.toArray⟩ ++ ⟨#[10]⟩))), (21, .v (.slice A l.length cap)), (22, .v (.int .i64 l.length)), (23, .v (.int .i64 i))], [], 0, fx⟩) (fun i => i ≤ l.length ∧ ∀ j s, j < i → l[j]? = some s → s.ok = true) (fun i => l.length - i) 0 [] (by simp) ⟨rfl, ⟨fun _ _ _ => rfl, fun _ _ _ => rfl, fun _ _ _ => rfl, fun _ _ _ => rfl, fun _ _ _ => rfl, trivial⟩, trivial, fun f hf => hf⟩ ?_
  rintro i ⟨hi, ha⟩
  conv => whnf
  repeat' ((first | refine And.intro (by repeat' first | exact trivial | refine And.intro rfl ?_) (And.intro (by first | exact fun _ h => h | exact fun _ => List.mem_cons_of_mem _ | exact fun _ => List.mem_append_right _) ?_) | (refine And.intro (fun h => ?_) (fun h => ?_) <;> (try simp only [n1, n2, n3, n4, n5, n6] at h) <;> first | (exfalso; omega) | (cases h; done) | skip) | refine And.intro (by omega) ?_ | refine Exists.intro _ (And.intro (by first | exact And.intro rfl rfl | exact Pl.den (by repeat constructor) | with_reducible rfl | exact cast_succ _ | assumption | exact (Int.toNat_of_nonneg (by omega)).symm | rfl) ?_) | refine hD _ _ ?_ | refine hL _ _ ?_ | (intro h; (try simp only [n1, n2, n3, n4, n5, n6] at h); first | (exfalso; omega) | (cases h; done) | skip)) <;> (conv => whnf))
  · have hlt : i < l.length := by omega
    obtain ⟨ad, hA⟩ := hS.adr hlt
    obtain ⟨s, hs⟩ : ∃ s, l[i]? = some s := ⟨l[i], List.getElem?_eq_getElem hlt⟩
    have hsf := hS.fit s (List.mem_of_getElem? hs)
    refine ⟨ad, hA, ?_⟩
    conv => whnf
    repeat' ((first | (refine Exists.intro s.cells (And.intro ⟨rfl, fun j y hj => hS.field hs hA j hj⟩ ?_)) | refine And.intro (by repeat' first | exact trivial | refine And.intro rfl ?_) (And.intro (by first | exact fun _ h => h | exact fun _ => List.mem_cons_of_mem _ | exact fun _ => List.mem_append_right _) ?_) | (refine And.intro (fun h => ?_) (fun h => ?_) <;> (try simp only [n1, n2, n3, n4, n5, n6] at h) <;> first | (exfalso; omega) | (cases h; done) | skip) | refine And.intro (by omega) ?_ | refine Exists.intro _ (And.intro (by first | exact And.intro rfl rfl | exact Pl.den (by repeat constructor) | with_reducible rfl | exact cast_succ _ | assumption | exact (Int.toNat_of_nonneg (by omega)).symm | rfl) ?_) | refine hD _ _ ?_ | refine hL _ _ ?_ | (intro h; (try simp only [n1, n2, n3, n4, n5, n6] at h); first | (exfalso; omega) | (cases h; done) | skip)) <;> (conv => whnf))
    refine And.intro ⟨rfl, Sg.one⟩ (And.intro ⟨rfl, rfl⟩ ?_)
    conv => whnf
    repeat' ((first | (refine Exists.intro s.cells (And.intro ⟨rfl, rfl⟩ ?_)) | refine And.intro (by repeat' first | exact trivial | refine And.intro rfl ?_) (And.intro (by first | exact fun _ h => h | exact fun _ => List.mem_cons_of_mem _ | exact fun _ => List.mem_append_right _) ?_) | (refine And.intro (fun h => ?_) (fun h => ?_) <;> (try simp only [n1, n2, n3, n4, n5, n6] at h) <;> first | (exfalso; omega) | (cases h; done) | skip) | refine And.intro (by omega) ?_ | refine Exists.intro _ (And.intro (by first | exact And.intro rfl rfl | exact Pl.den (by repeat constructor) | with_reducible rfl | exact cast_succ _ | assumption | exact (Int.toNat_of_nonneg (by omega)).symm | rfl) ?_) | refine hD _ _ ?_ | refine hL _ _ ?_ | (intro h; (try simp only [n1, n2, n3, n4, n5, n6] at h); first | (exfalso; omega) | (cases h; done) | skip)) <;> (conv => whnf))
    refine Tri.use ((tFormed fx s hsf).one) [] rfl (fun _ _ _ => rfl) trivial (fun f hf => by first | exact hf | cases hf) (fun u hu => ?_)
    conv => whnf
    repeat' ((first | refine And.intro (by repeat' first | exact trivial | refine And.intro rfl ?_) (And.intro (by first | exact fun _ h => h | exact fun _ => List.mem_cons_of_mem _ | exact fun _ => List.mem_append_right _) ?_) | (refine And.intro (fun h => ?_) (fun h => ?_) <;> (try simp only [n1, n2, n3, n4, n5, n6] at h) <;> first | (exfalso; omega) | (cases h; done) | skip) | refine And.intro (by omega) ?_ | refine Exists.intro _ (And.intro (by first | exact And.intro rfl rfl | exact Pl.den (by repeat constructor) | with_reducible rfl | exact cast_succ _ | assumption | exact (Int.toNat_of_nonneg (by omega)).symm | rfl) ?_) | refine hD _ _ ?_ | refine hL _ _ ?_ | (intro h; (try simp only [n1, n2, n3, n4, n5, n6] at h); first | (exfalso; omega) | (cases h; done) | skip)) <;> (conv => whnf))
    · rw [wErr_no (.inr (List.all_eq_false.2 ⟨s, List.mem_of_getElem? hs, by simp [h]⟩))]
      exact Ret.noneS rfl (fun _ _ => rfl) (fun g hg => by cases hg)
    · have hsok : s.ok = true := h
      refine ⟨i + 1, [], ⟨⟨by omega, fun j s' hj hs' => ?_⟩, by omega⟩, rfl, ⟨fun _ _ _ => rfl, fun _ _ _ => rfl, fun _ _ _ => rfl, fun _ _ _ => rfl, fun _ _ _ => rfl, trivial⟩, trivial, fun f hf => hf⟩
      by_cases hji : j < i
      · exact ha j s' hji hs'
      · have e : j = i := by omega
        rw [e, hs] at hs'
        rw [← Option.some.inj hs']
        exact hsok
  · have hall : l.all Sg.ok = true := List.all_eq_true.2 fun s hs => by
      obtain ⟨j, hj⟩ := List.getElem?_of_mem hs
      exact ha j s (by have := (List.getElem?_eq_some_iff.1 hj).1; omega) hj
    rw [wErr_long hok hall (by omega)]
    exact Ret.noneS rfl (fun _ _ => rfl) (fun g hg => by cases hg)
  have hall : l.all Sg.ok = true := List.all_eq_true.2 fun s hs => by
    obtain ⟨j, hj⟩ := List.getElem?_of_mem hs
    exact ha j s (by have := (List.getElem?_eq_some_iff.1 hj).1; omega) hj
  have hfor : ∀ s ∈ l, s.ok = true ∧ s.num < 4294967296 := fun s hs => ⟨List.all_eq_true.1 hall s hs, (hS.fit s hs).num⟩
  rw [wErr_ok hok hall (by omega)]
  have lz : ∀ k, ((l.take k).flatMap Sg.line).length ≤ 167 * 15 := fun k => by
    have := lines_len (l := l.take k) fun s hs => hfor s (List.mem_of_mem_take hs)
    rw [List.length_take] at this
    omega
  have e0 : (⟨d.text.toArray⟩ ++ ⟨#[10]⟩ : ByteArray) = ⟨(d.text ++ [10] ++ (l.take 0).flatMap Sg.line).toArray⟩ := by
    have e10 : (⟨#[10]⟩ : ByteArray) = ⟨([10] : List UInt8).toArray⟩ := rfl
    rw [e10, ba_app]; simp
  refine loop_by tok (α := Nat) (fun i => ⟨[(6, .v (strS (d.text ++ [10] ++ (l.take i).flatMap Sg.line))), (34, .v (.slice A l.length cap)), (35, .v (.int .i64 l.length)), (36, .v (.int .i64 i))], [], 0, fx⟩) (fun i => i ≤ l.length) (fun i => l.length - i) 0 [] (by simp) ⟨rfl, ⟨fun _ _ _ => by simp only [den, strS, e0], fun _ _ _ => rfl, fun _ _ _ => rfl, fun _ _ _ => rfl, trivial⟩, trivial, fun f hf => hf⟩ ?_
  intro i hi
  have hz := lz i
  simp only [strS]
  conv => whnf
  repeat' ((first | refine And.intro (by repeat' first | exact trivial | refine And.intro rfl ?_) (And.intro (by first | exact fun _ h => h | exact fun _ => List.mem_cons_of_mem _ | exact fun _ => List.mem_append_right _) ?_) | (refine And.intro (fun h => ?_) (fun h => ?_) <;> (try simp only [n1, n2, n3, n4, n5, n6] at h) <;> first | (exfalso; omega) | (cases h; done) | skip) | refine And.intro (by omega) ?_ | refine Exists.intro _ (And.intro (by first | exact And.intro rfl rfl | exact Pl.den (by repeat constructor) | with_reducible rfl | exact cast_succ _ | assumption | exact (Int.toNat_of_nonneg (by omega)).symm | rfl) ?_) | refine hD _ _ ?_ | refine hL _ _ ?_ | (intro h; (try simp only [n1, n2, n3, n4, n5, n6] at h); first | (exfalso; omega) | (cases h; done) | skip)) <;> (conv => whnf))
  · have hlt : i < l.length := by omega
    obtain ⟨ad, hA⟩ := hS.adr hlt
    obtain ⟨s, hs⟩ : ∃ s, l[i]? = some s := ⟨l[i], List.getElem?_eq_getElem hlt⟩
    have hsf := hS.fit s (List.mem_of_getElem? hs)
    have hso := (hfor s (List.mem_of_getElem? hs)).1
    have hll := line_len hso hsf.num
    refine ⟨ad, hA, ?_⟩
    conv => whnf
    repeat' ((first | (refine Exists.intro s.cells (And.intro ⟨rfl, fun j y hj => hS.field hs hA j hj⟩ ?_)) | refine And.intro (by repeat' first | exact trivial | refine And.intro rfl ?_) (And.intro (by first | exact fun _ h => h | exact fun _ => List.mem_cons_of_mem _ | exact fun _ => List.mem_append_right _) ?_) | (refine And.intro (fun h => ?_) (fun h => ?_) <;> (try simp only [n1, n2, n3, n4, n5, n6] at h) <;> first | (exfalso; omega) | (cases h; done) | skip) | refine And.intro (by omega) ?_ | refine Exists.intro _ (And.intro (by first | exact And.intro rfl rfl | exact Pl.den (by repeat constructor) | with_reducible rfl | exact cast_succ _ | assumption | exact (Int.toNat_of_nonneg (by omega)).symm | rfl) ?_) | refine hD _ _ ?_ | refine hL _ _ ?_ | (intro h; (try simp only [n1, n2, n3, n4, n5, n6] at h); first | (exfalso; omega) | (cases h; done) | skip)) <;> (conv => whnf))
    refine And.intro ⟨rfl, Sg.one⟩ (And.intro ⟨rfl, rfl⟩ ?_)
    conv => whnf
    repeat' ((first | (refine Exists.intro s.cells (And.intro ⟨rfl, rfl⟩ ?_)) | refine And.intro (by repeat' first | exact trivial | refine And.intro rfl ?_) (And.intro (by first | exact fun _ h => h | exact fun _ => List.mem_cons_of_mem _ | exact fun _ => List.mem_append_right _) ?_) | (refine And.intro (fun h => ?_) (fun h => ?_) <;> (try simp only [n1, n2, n3, n4, n5, n6] at h) <;> first | (exfalso; omega) | (cases h; done) | skip) | refine And.intro (by omega) ?_ | refine Exists.intro _ (And.intro (by first | exact And.intro rfl rfl | exact Pl.den (by repeat constructor) | with_reducible rfl | exact cast_succ _ | assumption | exact (Int.toNat_of_nonneg (by omega)).symm | rfl) ?_) | refine hD _ _ ?_ | refine hL _ _ ?_ | (intro h; (try simp only [n1, n2, n3, n4, n5, n6] at h); first | (exfalso; omega) | (cases h; done) | skip)) <;> (conv => whnf))
    refine Tri.use ((tLine fx hg s hsf hso).one) [] rfl (fun _ _ _ => rfl) trivial (fun f hf => by first | exact hf | cases hf) (fun u hu => ?_)
    conv => whnf
    repeat' ((first | (refine And.intro (by simp only [arr_size, List.length_append, List.length_cons, List.length_nil]; omega) ?_) | refine And.intro (by repeat' first | exact trivial | refine And.intro rfl ?_) (And.intro (by first | exact fun _ h => h | exact fun _ => List.mem_cons_of_mem _ | exact fun _ => List.mem_append_right _) ?_) | (refine And.intro (fun h => ?_) (fun h => ?_) <;> (try simp only [n1, n2, n3, n4, n5, n6] at h) <;> first | (exfalso; omega) | (cases h; done) | skip) | refine And.intro (by omega) ?_ | refine Exists.intro _ (And.intro (by first | exact And.intro rfl rfl | exact Pl.den (by repeat constructor) | with_reducible rfl | exact cast_succ _ | assumption | exact (Int.toNat_of_nonneg (by omega)).symm | rfl) ?_) | refine hD _ _ ?_ | refine hL _ _ ?_ | (intro h; (try simp only [n1, n2, n3, n4, n5, n6] at h); first | (exfalso; omega) | (cases h; done) | skip)) <;> (conv => whnf))
    refine ⟨i + 1, [], ⟨by omega, by omega⟩, rfl, ⟨fun _ _ _ => ?_, fun _ _ _ => rfl, fun _ _ _ => rfl, fun _ _ _ => rfl, trivial⟩, trivial, fun f hf => hf⟩
    simp only [den, take_succ_of hs, List.flatMap_append, List.flatMap_cons, List.flatMap_nil, List.append_nil, ba_app, List.append_assoc]
  · exfalso
    simp only [arr_size, List.length_append, List.length_cons, List.length_nil] at h
    omega
  · rw [List.take_of_length_le (by omega)]
    exact Ret.noneS rfl (fun _ _ => rfl) (fun g hg => by cases hg)
theorem aw_len : (Hd.text ⟨⟨#[97]⟩, 0, List.replicate 32 0⟩).length = 49 := by
  have h6 := enc_length (List.replicate 32 (0 : UInt8))
  have h7 := decDigits_len (0 : Int).toNat
  have h8 : Lib.nDigits (0 : Int).toNat = 1 := Lib.nDigits_small (by decide)
  simp only [Hd.text, List.length_append, List.length_cons, List.length_nil, h6, h7, h8]
  rfl
theorem tAwake21 (fx : List Fact) (hg : gTab ∈ fx) : Tri Tryd.prog 32 [] [] 0 fx (Ret 0 (.b true) [] 0 []) := by
  refine Tri.of_code tok Tryd.func32 rfl rfl rfl (by decide) rfl (Nat.le_of_ble_eq_true rfl) ?_
  conv => whnf
  repeat' ((first | refine And.intro (by repeat' first | exact trivial | refine And.intro rfl ?_) (And.intro (by first | exact fun _ h => h | exact fun _ => List.mem_cons_of_mem _ | exact fun _ => List.mem_append_right _) ?_) | (refine And.intro (fun h => ?_) (fun h => ?_) <;> (try simp only [n1, n2, n3, n4, n5, n6] at h) <;> first | (exfalso; omega) | (cases h; done) | skip) | refine And.intro (by omega) ?_ | refine Exists.intro _ (And.intro (by first | exact And.intro rfl rfl | exact Pl.den (by repeat constructor) | with_reducible rfl | exact cast_succ _ | assumption | exact (Int.toNat_of_nonneg (by omega)).symm | rfl) ?_) | refine hD _ _ ?_ | refine hL _ _ ?_ | (intro h; (try simp only [n1, n2, n3, n4, n5, n6] at h); first | (exfalso; omega) | (cases h; done) | skip)) <;> (conv => whnf))
  have T := tText fx hg ⟨⟨#[97]⟩, 0, List.replicate 32 0⟩ ⟨rfl, by simp, by decide⟩
  rw [Hd.res_ok (by decide)] at T
  refine Tri.use (T.one) [] rfl (fun _ _ _ => rfl) trivial (fun f hf => by first | exact hf | cases hf) (fun u hu => ?_)
  have e : (⟨(Hd.text ⟨⟨#[97]⟩, 0, List.replicate 32 0⟩).toArray⟩ : ByteArray).size = 49 := by rw [arr_size, aw_len]
  conv => whnf
  repeat' ((first | refine And.intro (by repeat' first | exact trivial | refine And.intro rfl ?_) (And.intro (by first | exact fun _ h => h | exact fun _ => List.mem_cons_of_mem _ | exact fun _ => List.mem_append_right _) ?_) | (refine And.intro (fun h => ?_) (fun h => ?_) <;> (try simp only [n1, n2, n3, n4, n5, n6] at h) <;> first | (exfalso; omega) | (cases h; done) | skip) | refine And.intro (by omega) ?_ | refine Exists.intro _ (And.intro (by first | exact And.intro rfl rfl | exact Pl.den (by repeat constructor) | with_reducible rfl | exact cast_succ _ | assumption | exact (Int.toNat_of_nonneg (by omega)).symm | rfl) ?_) | refine hD _ _ ?_ | refine hL _ _ ?_ | (intro h; (try simp only [n1, n2, n3, n4, n5, n6] at h); first | (exfalso; omega) | (cases h; done) | skip)) <;> (conv => whnf))
  exact Ret.noneS rfl (fun _ _ => by simp only [den, arr_size, aw_len]; rfl) (fun g hg => by cases hg)
def rLine (s : Sg) : List UInt8 := if s.ok then s.line else []
theorem rLine_len {s : Sg} (hn : s.num < 4294967296) : (rLine s).length ≤ 167 := by
  unfold rLine
  split
  · rename_i h; exact line_len h hn
  · simp
theorem rLines_len : ∀ {l : List Sg}, (∀ s ∈ l, s.num < 4294967296) → (l.flatMap rLine).length ≤ 167 * l.length
  | [], _ => by simp
  | x :: r, h => by
    have h1 := rLine_len (h x (List.mem_cons_self ..))
    have h2 := rLines_len (l := r) fun s hs => h s (List.mem_cons_of_mem _ hs)
    simp only [List.flatMap_cons, List.length_append, List.length_cons]
    omega
def rText (d : Hd) : List UInt8 := if d.ok then d.text else []
theorem rText_len {d : Hd} (hr : d.root.length = 32) : (rText d).length ≤ 107 := by
  unfold rText
  split
  · rename_i h; exact text_len h hr
  · simp
theorem tRefWrite21 (fx : List Fact) (d : Hd) (hf : d.Fit) (A : Option Addr) (l : List Sg) (cap : Nat) (hS : SgsAt fx A l) (hl : l.length ≤ 15) :
    Tri Tryd.prog 38 [.v d.v, .v (.slice A l.length cap)] [] 0 fx (Ret 0 (wRes d l) [] 0 []) := by
  refine Tri.of_code tok Tryd.func38 rfl rfl rfl (by decide) rfl (Nat.le_of_ble_eq_true rfl) ?_
  conv => whnf
  repeat' ((first | refine And.intro (by repeat' first | exact trivial | refine And.intro rfl ?_) (And.intro (by first | exact fun _ h => h | exact fun _ => List.mem_cons_of_mem _ | exact fun _ => List.mem_append_right _) ?_) | (refine And.intro (fun h => ?_) (fun h => ?_) <;> (try simp only [n1, n2, n3, n4, n5, n6] at h) <;> first | (exfalso; omega) | (cases h; done) | skip) | refine And.intro (by omega) ?_ | refine Exists.intro _ (And.intro (by first | exact And.intro rfl rfl | exact Pl.den (by repeat constructor) | with_reducible rfl | exact cast_succ _ | assumption | exact (Int.toNat_of_nonneg (by omega)).symm | rfl) ?_) | refine hD _ _ ?_ | refine hL _ _ ?_ | (intro h; (try simp only [n1, n2, n3, n4, n5, n6] at h); first | (exfalso; omega) | (cases h; done) | skip)) <;> (conv => whnf))
  refine And.intro Hd.one ?_
  conv => whnf
  repeat' ((first | (refine Exists.intro d.cells (And.intro (Hd.all hf) ?_)) | refine And.intro (by repeat' first | exact trivial | refine And.intro rfl ?_) (And.intro (by first | exact fun _ h => h | exact fun _ => List.mem_cons_of_mem _ | exact fun _ => List.mem_append_right _) ?_) | (refine And.intro (fun h => ?_) (fun h => ?_) <;> (try simp only [n1, n2, n3, n4, n5, n6] at h) <;> first | (exfalso; omega) | (cases h; done) | skip) | refine And.intro (by omega) ?_ | refine Exists.intro _ (And.intro (by first | exact And.intro rfl rfl | exact Pl.den (by repeat constructor) | with_reducible rfl | exact cast_succ _ | assumption | exact (Int.toNat_of_nonneg (by omega)).symm | rfl) ?_) | refine hD _ _ ?_ | refine hL _ _ ?_ | (intro h; (try simp only [n1, n2, n3, n4, n5, n6] at h); first | (exfalso; omega) | (cases h; done) | skip)) <;> (conv => whnf))
  have T := tRefText fx d hf
  refine Tri.use ((T.one.reval (v' := .tup [.v (strS (rText d)), .v (.bool d.ok)]) (fun ρ => by unfold Hd.res rText; cases d.ok <;> rfl))) [] rfl (fun _ _ _ => rfl) trivial (fun f hf => by first | exact hf | cases hf) (fun u hu => ?_)
  have htl := rText_len hf.root
  have hts := arr_size (rText d)
  have h10 : (⟨#[10]⟩ : ByteArray).size = 1 := rfl
  conv => whnf
  repeat' ((first | (refine And.intro (by rw [hts, h10]; omega) ?_) | refine And.intro (by repeat' first | exact trivial | refine And.intro rfl ?_) (And.intro (by first | exact fun _ h => h | exact fun _ => List.mem_cons_of_mem _ | exact fun _ => List.mem_append_right _) ?_) | (refine And.intro (fun h => ?_) (fun h => ?_) <;> (try simp only [n1, n2, n3, n4, n5, n6] at h) <;> first | (exfalso; omega) | (cases h; done) | skip) | refine And.intro (by omega) ?_ | refine Exists.intro _ (And.intro (by first | exact And.intro rfl rfl | exact Pl.den (by repeat constructor) | with_reducible rfl | exact cast_succ _ | assumption | exact (Int.toNat_of_nonneg (by omega)).symm | rfl) ?_) | refine hD _ _ ?_ | refine hL _ _ ?_ | (intro h; (try simp only [n1, n2, n3, n4, n5, n6] at h); first | (exfalso; omega) | (cases h; done) | skip)) <;> (conv => whnf))
  have lz : ∀ k, ((l.take k).flatMap rLine).length ≤ 167 * 15 := fun k => by
    have := rLines_len (l := l.take k) fun s hs => (hS.fit s (List.mem_of_mem_take hs)).num
    rw [List.length_take] at this
    omega
  have e0 : (⟨(rText d).toArray⟩ ++ ⟨#[10]⟩ : ByteArray) = ⟨(rText d ++ [10] ++ (l.take 0).flatMap rLine).toArray⟩ := by
    have e10 : (⟨#[10]⟩ : ByteArray) = ⟨([10] : List UInt8).toArray⟩ := rfl
    rw [e10, ba_app]; simp
  refine loop_by tok (α := Nat) (fun i => ⟨[(1, .v (.slice A l.length cap)), (6, .v (strS (rText d ++ [10] ++ (l.take i).flatMap rLine))), (7, .v (.bool (d.ok && (l.take i).all Sg.ok))), (8, .v (.int .i64 i))], [], 0, fx⟩) (fun i => i ≤ l.length) (fun i => l.length - i) 0 [] (by simp) ⟨rfl, ⟨fun _ _ _ => rfl, fun _ _ _ => by simp only [den, strS, e0], fun _ _ _ => by simp only [den, List.take_zero, List.all_nil, Bool.and_true], fun _ _ _ => rfl, trivial⟩, trivial, fun f hf => hf⟩ ?_
  intro i hi
  have hz := lz i
  simp only [strS]
  conv => whnf
  repeat' ((first | refine And.intro (by repeat' first | exact trivial | refine And.intro rfl ?_) (And.intro (by first | exact fun _ h => h | exact fun _ => List.mem_cons_of_mem _ | exact fun _ => List.mem_append_right _) ?_) | (refine And.intro (fun h => ?_) (fun h => ?_) <;> (try simp only [n1, n2, n3, n4, n5, n6] at h) <;> first | (exfalso; omega) | (cases h; done) | skip) | refine And.intro (by omega) ?_ | refine Exists.intro _ (And.intro (by first | exact And.intro rfl rfl | exact Pl.den (by repeat constructor) | with_reducible rfl | exact cast_succ _ | assumption | exact (Int.toNat_of_nonneg (by omega)).symm | rfl) ?_) | refine hD _ _ ?_ | refine hL _ _ ?_ | (intro h; (try simp only [n1, n2, n3, n4, n5, n6] at h); first | (exfalso; omega) | (cases h; done) | skip)) <;> (conv => whnf))
  · have hlt : i < l.length := by omega
    obtain ⟨ad, hA⟩ := hS.adr hlt
    obtain ⟨s, hs⟩ : ∃ s, l[i]? = some s := ⟨l[i], List.getElem?_eq_getElem hlt⟩
    have hsf := hS.fit s (List.mem_of_getElem? hs)
    have hll := rLine_len hsf.num
    refine ⟨ad, hA, ?_⟩
    conv => whnf
    repeat' ((first | (refine Exists.intro s.cells (And.intro ⟨rfl, fun j y hj => hS.field hs hA j hj⟩ ?_)) | refine And.intro (by repeat' first | exact trivial | refine And.intro rfl ?_) (And.intro (by first | exact fun _ h => h | exact fun _ => List.mem_cons_of_mem _ | exact fun _ => List.mem_append_right _) ?_) | (refine And.intro (fun h => ?_) (fun h => ?_) <;> (try simp only [n1, n2, n3, n4, n5, n6] at h) <;> first | (exfalso; omega) | (cases h; done) | skip) | refine And.intro (by omega) ?_ | refine Exists.intro _ (And.intro (by first | exact And.intro rfl rfl | exact Pl.den (by repeat constructor) | with_reducible rfl | exact cast_succ _ | assumption | exact (Int.toNat_of_nonneg (by omega)).symm | rfl) ?_) | refine hD _ _ ?_ | refine hL _ _ ?_ | (intro h; (try simp only [n1, n2, n3, n4, n5, n6] at h); first | (exfalso; omega) | (cases h; done) | skip)) <;> (conv => whnf))
    have hsz : (⟨(rText d ++ [10] ++ (l.take i).flatMap rLine).toArray⟩ : ByteArray).size ≤ 4000 := by
      simp only [arr_size, List.length_append, List.length_cons, List.length_nil]; omega
    have T2 : Tri Tryd.prog 84 [.v s.v] [] 0 fx (Ret 0 (.v (strS (rLine s))) [] 0 []) := tRefLine fx s hsf
    refine Tri.use (T2.one) [] rfl (fun _ _ _ => rfl) trivial (fun f hf => by first | exact hf | cases hf) (fun u hu => ?_)
    have hrs := arr_size (rLine s)
    have hnil : (!(rLine s == [])) = s.ok := by
      unfold rLine Sg.line
      cases s.ok <;> simp
    have e6 : (⟨(rText d ++ [10] ++ (l.take i).flatMap rLine).toArray⟩ ++ ⟨(rLine s).toArray⟩ : ByteArray) = ⟨(rText d ++ [10] ++ (l.take (i + 1)).flatMap rLine).toArray⟩ := by
      rw [ba_app, take_succ_of hs]; simp [List.append_assoc]
    have e7 : (d.ok && (l.take (i + 1)).all Sg.ok) = ((d.ok && (l.take i).all Sg.ok) && s.ok) := by
      rw [take_succ_of hs, List.all_append]; simp [Bool.and_assoc]
    conv => whnf
    repeat' ((first | (refine And.intro (by rw [hrs]; omega) ?_) | refine And.intro (by repeat' first | exact trivial | refine And.intro rfl ?_) (And.intro (by first | exact fun _ h => h | exact fun _ => List.mem_cons_of_mem _ | exact fun _ => List.mem_append_right _) ?_) | (refine And.intro (fun h => ?_) (fun h => ?_) <;> (try simp only [n1, n2, n3, n4, n5, n6] at h) <;> first | (exfalso; omega) | (cases h; done) | skip) | refine And.intro (by omega) ?_ | refine Exists.intro _ (And.intro (by first | exact And.intro rfl rfl | exact Pl.den (by repeat constructor) | with_reducible rfl | exact cast_succ _ | assumption | exact (Int.toNat_of_nonneg (by omega)).symm | rfl) ?_) | refine hD _ _ ?_ | refine hL _ _ ?_ | (intro h; (try simp only [n1, n2, n3, n4, n5, n6] at h); first | (exfalso; omega) | (cases h; done) | skip)) <;> (conv => whnf))
    · rename_i hb
      refine ⟨i + 1, [], ⟨by omega, by omega⟩, rfl, ⟨fun _ _ _ => rfl, fun _ _ _ => by simp only [den, e6], fun _ _ _ => ?_, fun _ _ _ => rfl, trivial⟩, trivial, fun f hf => hf⟩
      simp only [den, e7, hb, Bool.true_and]
      rw [← hnil]
    · rename_i hb
      refine ⟨i + 1, [], ⟨by omega, by omega⟩, rfl, ⟨fun _ _ _ => rfl, fun _ _ _ => by simp only [den, e6], fun _ _ _ => ?_, fun _ _ _ => rfl, trivial⟩, trivial, fun f hf => hf⟩
      simp only [den, e7, hb, Bool.false_and]
  · rw [List.take_of_length_le (by omega)] at h
    rw [wErr_no (by cases hd : d.ok <;> simp_all)]
    exact Ret.noneS rfl (fun _ _ => rfl) (fun g hg => by cases hg)
  · rename_i hb
    rw [List.take_of_length_le (by omega), Bool.and_eq_true] at hb
    rw [wErr_long hb.1 hb.2 (by omega)]
    exact Ret.noneS rfl (fun _ _ => rfl) (fun g hg => by cases hg)
  · exfalso
    simp only [arr_size, List.length_append, List.length_cons, List.length_nil] at h
    omega
  · rename_i hb _
    rw [List.take_of_length_le (by omega), Bool.and_eq_true] at hb
    rw [wErr_ok hb.1 hb.2 (by omega), List.take_of_length_le (by omega)]
    refine Ret.noneS rfl (fun _ _ => ?_) (fun g hg => by cases hg)
    have e1 : rText d = d.text := by unfold rText; rw [hb.1]; rfl
    have e2 : l.flatMap rLine = l.flatMap Sg.line := by
      have : ∀ k : List Sg, (∀ s ∈ k, s.ok = true) → k.flatMap rLine = k.flatMap Sg.line := by
        intro k
        induction k with
        | nil => intro _; rfl
        | cons x r ih =>
          intro h
          rw [List.flatMap_cons, List.flatMap_cons, ih fun s hs => h s (List.mem_cons_of_mem _ hs)]
          congr 1
          unfold rLine
          rw [h x (List.mem_cons_self ..)]; rfl
      exact this l fun s hs => List.all_eq_true.1 hb.2 s hs
    simp only [den, denL_cons, denL_nil, strS, noteL, e1, e2]
    rfl
end Go.Proofs.YtekgjjanikicnaaDoor.Sx

namespace Go.Proofs.YtekgjjanikicnaaDoor.Sx
open Go Go.RowKit
set_option linter.unusedSimpArgs false
set_option linter.unusedVariables false
theorem dec_digit : ∀ (n u : Nat), u ≤ n → ∀ c ∈ Lib.decDigits u, 48 ≤ c.toNat ∧ c.toNat ≤ 57 := by
  intro n
  induction n with
  | zero =>
    intro u h c hc
    have : u = 0 := by omega
    subst this
    rw [Lib.decDigits_one (by omega)] at hc
    obtain rfl := List.mem_singleton.1 hc
    exact ⟨by decide, by decide⟩
  | succ n ih =>
    intro u h c hc
    by_cases h10 : u < 10
    · rw [Lib.decDigits_one h10] at hc
      obtain rfl := List.mem_singleton.1 hc
      have := digit_nat h10
      omega
    · have e : Lib.decDigits u = Lib.decDigits (u / 10) ++ [UInt8.ofNat (48 + u % 10)] := by conv => lhs; rw [Lib.decDigits, dif_neg h10]
      rw [e] at hc
      rcases List.mem_append.1 hc with hc | hc
      · exact ih (u / 10) (by omega) c hc
      · obtain rfl := List.mem_singleton.1 hc
        have := digit_nat (Nat.mod_lt u (show 0 < 10 by omega))
        omega
theorem dec_not {u : Nat} {c : UInt8} (h : c.toNat < 48) : c ∉ Lib.decDigits u := fun hc => by
  have := dec_digit u u (Nat.le_refl _) c hc
  omega
theorem enc_not {bs : List UInt8} {c : UInt8} (h : c.toNat < 43) : c ∉ enc bs := fun hc => by
  obtain ⟨p, k, e, _, hp⟩ := enc_form bs
  rw [e] at hc
  rcases List.mem_append.1 hc with hc | hc
  · have := hp c hc
    simp only [plainSign, Bool.or_eq_true, Bool.and_eq_true, decide_eq_true_eq, beq_iff_eq] at this
    omega
  · have := List.eq_of_mem_replicate hc
    subst this
    simp at h
theorem name_not {l : List UInt8} (h : nameOk l = true) {c : UInt8} (hc : c.toNat < 45) : c ∉ l := fun hm => by
  simp only [nameOk, Bool.and_eq_true] at h
  have := List.all_eq_true.1 h.1 c hm
  simp only [nameSign, Bool.or_eq_true, Bool.and_eq_true, decide_eq_true_eq, beq_iff_eq] at this
  omega
theorem count_no {l : List UInt8} {c : UInt8} (h : c ∉ l) : l.count c = 0 := List.count_eq_zero.2 h
theorem text_count {d : Hd} (h : d.ok = true) : d.text.count 10 = 3 := by
  unfold Hd.ok at h
  rw [Bool.and_eq_true] at h
  simp only [Hd.text, List.count_append, count_no (name_not h.1 (c := 10) (by decide)), count_no (dec_not (u := d.size.toNat) (c := 10) (by decide)), count_no (enc_not (bs := d.root) (c := 10) (by decide))]
  rfl
theorem kind_ne {s : Sg} (h : s.ok = true) {c : UInt8} (hc : c.toNat < 100) : s.kind ≠ c := fun e => by
  obtain ⟨_, h2, _⟩ := Sg.ok_iff.1 h
  rw [e] at h2
  omega
theorem line_count {s : Sg} (h : s.ok = true) : s.line.count 10 = 1 := by
  obtain ⟨h1, h2, _⟩ := Sg.ok_iff.1 h
  have hk : [s.kind].count 10 = 0 := count_no (fun hm => kind_ne h (c := 10) (by decide) (List.mem_singleton.1 hm).symm)
  simp only [Sg.line, List.count_append, count_no (name_not h1 (c := 10) (by decide)), count_no (dec_not (u := s.num) (c := 10) (by decide)), count_no (enc_not (bs := s.bs) (c := 10) (by decide)), hk]
  rfl
theorem lines_count : ∀ {l : List Sg}, (∀ s ∈ l, s.ok = true) → (l.flatMap Sg.line).count 10 = l.length
  | [], _ => rfl
  | x :: r, h => by
    rw [List.flatMap_cons, List.count_append, line_count (h x (List.mem_cons_self ..)), lines_count fun s hs => h s (List.mem_cons_of_mem _ hs), List.length_cons]
    omega
theorem note_count {d : Hd} {l : List Sg} (h : d.ok = true) (hl : ∀ s ∈ l, s.ok = true) : (noteL d l).count 10 = 4 + l.length := by
  simp only [noteL, List.count_append, text_count h, lines_count hl]
  have : [(10 : UInt8)].count 10 = 1 := rfl
  omega
end Go.Proofs.YtekgjjanikicnaaDoor.Sx

namespace Go.Proofs.YtekgjjanikicnaaDoor.Sx
open Go Go.RowKit
set_option linter.unusedSimpArgs false
set_option linter.unusedVariables false
/-- A signature, plainly. -/
structure Sp where
  name : List UInt8
  kind : UInt8
  num : Nat
  bs : List UInt8
def Sg.pl (s : Sg) : Sp := ⟨s.name.data.toList, s.kind, s.num, s.bs⟩
def Sp.sg (s : Sp) : Sg := ⟨⟨s.name.toArray⟩, s.kind, s.num, none, 0, s.bs⟩
theorem Sp.pl (s : Sp) : s.sg.pl = s := rfl
theorem ok_pl {s t : Sg} (h : s.pl = t.pl) : s.ok = t.ok ∧ s.line = t.line := by
  simp only [Sg.pl, Sp.mk.injEq] at h
  obtain ⟨h1, h2, h3, h4⟩ := h
  exact ⟨by simp only [Sg.ok, h1, h2, h4], by simp only [Sg.line, h1, h2, h3, h4]⟩
/-- That line is the signature's. -/
structure IsSig (l : List UInt8) (s : Sp) : Prop where
  ok : s.sg.ok = true
  num : s.num < 4294967296
  line : s.sg.line = l ++ [10]
theorem sig_parts {l : List UInt8} {s : Sp} (h : IsSig l s) : parts 32 l = [[115, 105, 103], s.name, [s.kind], Lib.decDigits s.num, enc s.bs] := by
  obtain ⟨k1, k2, _⟩ := Sg.ok_iff.1 h.ok
  have e := h.line
  have el : l = [115, 105, 103] ++ 32 :: (s.name ++ 32 :: ([s.kind] ++ 32 :: (Lib.decDigits s.num ++ 32 :: enc s.bs))) := by
    have : s.sg.line = ([115, 105, 103] ++ 32 :: (s.name ++ 32 :: ([s.kind] ++ 32 :: (Lib.decDigits s.num ++ 32 :: enc s.bs)))) ++ [10] := by
      simp [Sg.line, Sp.sg]
    rw [this] at e
    exact (List.append_cancel_right e).symm
  have n1 : (32 : UInt8) ∉ s.name := name_not (l := s.name) k1 (by decide)
  have n2 : (32 : UInt8) ∉ [s.kind] := fun hm => kind_ne h.ok (c := 32) (by decide) (List.mem_singleton.1 hm).symm
  rw [el, parts_app (by decide), parts_app n1, parts_app n2, parts_app (dec_not (by decide)), parts_no (enc_not (by decide))]
theorem IsSig.inj {l : List UInt8} {s t : Sp} (h : IsSig l s) (k : IsSig l t) : s = t := by
  have e := (sig_parts h).symm.trans (sig_parts k)
  simp only [List.cons.injEq, and_true, true_and] at e
  obtain ⟨e1, e2, e3, e4⟩ := e
  obtain ⟨n1, k1, u1, b1⟩ := s
  obtain ⟨n2, k2, u2, b2⟩ := t
  have h1 := h.num
  have h2 := k.num
  simp only at e1 e2 e3 e4 h1 h2
  have e5 := dec_inj (by omega) (by omega) e3
  have e6 := enc_inj e4
  rw [e1, e2, e5, e6]
theorem sig_no10 {l : List UInt8} {s : Sp} (h : IsSig l s) : (10 : UInt8) ∉ l := fun hm => by
  have h1 := line_count h.ok
  rw [h.line, List.count_append] at h1
  have h2 : 0 < l.count 10 := List.count_pos_iff.2 hm
  have h3 : [(10 : UInt8)].count 10 = 1 := rfl
  omega
/-- A head, plainly. -/
structure Hp where
  org : List UInt8
  size : Nat
  root : List UInt8
def Hp.hd (d : Hp) : Hd := ⟨⟨d.org.toArray⟩, d.size, d.root⟩
/-- That text is the note's. -/
structure IsNote (s : List UInt8) (d : Hp) (l : List Sp) : Prop where
  ok : d.hd.ok = true
  root : d.root.length = 32
  all : ∀ x ∈ l, x.sg.ok = true ∧ x.num < 4294967296
  few : l.length ≤ 8
  text : noteL d.hd (l.map Sp.sg) = s
theorem IsNote.len {s : List UInt8} {d : Hp} {l : List Sp} (h : IsNote s d l) : s.length ≤ 4000 := by
  rw [← h.text]
  have h1 := text_len h.ok h.root
  have h2 := lines_len (l := l.map Sp.sg) fun x hx => by
    obtain ⟨y, hy, rfl⟩ := List.mem_map.1 hx
    exact h.all y hy
  have := h.few
  simp only [noteL, List.length_append, List.length_cons, List.length_nil, List.length_map] at h2 ⊢
  omega
/-- A line, without its end. -/
def Sp.bare (s : Sp) : List UInt8 := [115, 105, 103, 32] ++ s.name ++ [32] ++ [s.kind] ++ [32] ++ Lib.decDigits s.num ++ [32] ++ enc s.bs
theorem line_bare (s : Sp) : s.sg.line = s.bare ++ [10] := rfl
theorem isSig_bare {s : Sp} (h : s.sg.ok = true) (hn : s.num < 4294967296) : IsSig s.bare s := ⟨h, hn, line_bare s⟩
theorem parts_lines : ∀ (l : List Sp), (∀ x ∈ l, x.sg.ok = true ∧ x.num < 4294967296) → parts 10 ((l.map Sp.sg).flatMap Sg.line) = l.map Sp.bare ++ [[]]
  | [], _ => rfl
  | x :: r, h => by
    have h1 := h x (List.mem_cons_self ..)
    rw [List.map_cons, List.flatMap_cons, line_bare, List.append_assoc, List.singleton_append, parts_app (sig_no10 (isSig_bare h1.1 h1.2)), parts_lines r fun y hy => h y (List.mem_cons_of_mem _ hy)]
    rfl
theorem note_parts {s : List UInt8} {d : Hp} {l : List Sp} (h : IsNote s d l) : parts 10 s = d.org :: Lib.decDigits d.size :: enc d.root :: [] :: (l.map Sp.bare ++ [[]]) := by
  have hok := h.ok
  unfold Hd.ok at hok
  rw [Bool.and_eq_true] at hok
  have n1 : (10 : UInt8) ∉ d.org := name_not (l := d.org) hok.1 (by decide)
  have e : s = d.org ++ 10 :: (Lib.decDigits d.size ++ 10 :: (enc d.root ++ 10 :: ([] ++ 10 :: (l.map Sp.sg).flatMap Sg.line))) := by
    rw [← h.text]
    simp [noteL, Hd.text, Hp.hd]
  rw [e, parts_app n1, parts_app (dec_not (by decide)), parts_app (enc_not (by decide)), parts_app (by simp), parts_lines l h.all]
theorem bares_inj : ∀ {l m : List Sp}, (∀ x ∈ l, x.sg.ok = true ∧ x.num < 4294967296) → (∀ x ∈ m, x.sg.ok = true ∧ x.num < 4294967296) → l.map Sp.bare = m.map Sp.bare → l = m
  | [], [], _, _, _ => rfl
  | [], y :: t, _, _, e => by simp at e
  | x :: r, [], _, _, e => by simp at e
  | x :: r, y :: t, hl, hm, e => by
    simp only [List.map_cons, List.cons.injEq] at e
    obtain ⟨e1, e2⟩ := e
    have h1 := hl x (List.mem_cons_self ..)
    have h2 := hm y (List.mem_cons_self ..)
    have k1 := isSig_bare h1.1 h1.2
    have k2 := isSig_bare h2.1 h2.2
    rw [e1] at k1
    rw [k1.inj k2, bares_inj (fun x hx => hl x (List.mem_cons_of_mem _ hx)) (fun x hx => hm x (List.mem_cons_of_mem _ hx)) e2]
theorem IsNote.inj {s : List UInt8} {d e : Hp} {l m : List Sp} (h : IsNote s d l) (k : IsNote s e m) : d = e ∧ l = m := by
  have q := (note_parts h).symm.trans (note_parts k)
  simp only [List.cons.injEq, true_and] at q
  obtain ⟨q1, q2, q3, q4⟩ := q
  have hd := h.ok
  have he := k.ok
  unfold Hd.ok at hd he
  rw [Bool.and_eq_true] at hd he
  obtain ⟨o1, s1, r1⟩ := d
  obtain ⟨o2, s2, r2⟩ := e
  simp only at q1 q2 q3
  have hd2 : (0 : Int) ≤ (s1 : Int) ∧ (s1 : Int) < 2147483648 := of_decide_eq_true hd.2
  have he2 : (0 : Int) ≤ (s2 : Int) ∧ (s2 : Int) < 2147483648 := of_decide_eq_true he.2
  have e2 := dec_inj (by omega) (by omega) q2
  have e3 := enc_inj q3
  exact ⟨by rw [q1, e2, e3], bares_inj h.all k.all (List.append_cancel_right q4)⟩
end Go.Proofs.YtekgjjanikicnaaDoor.Sx

namespace Go.Proofs.YtekgjjanikicnaaDoor.Sx
open Go
set_option maxRecDepth 100000
set_option linter.unusedSimpArgs false
set_option linter.unusedVariables false

/-- What a decoder hands back: nothing of its own, or a row of its own. -/
inductive DecO where
  | nil (ok : Bool)
  | row (bs : List UInt8) (xs : List Value)
def DecO.pr (s : List UInt8) : DecO → Prop
  | .nil ok => (ok = true → s = enc []) ∧ (ok = false → ∀ b, s ≠ enc b)
  | .row bs xs => s = enc bs ∧ xs.take bs.length = bs.map bv ∧ bs.length ≤ xs.length
def DecO.v : DecO → SV
  | .nil ok => .tup [.v (.slice none 0 0), .b ok]
  | .row bs xs => .tup [.s 0 0 bs.length xs.length, .b true]
def DecO.h : DecO → List (Nat × SObj)
  | .nil _ => []
  | .row _ xs => [(0, .row xs 5)]
structure DecS where
  i : Nat
  x : Nat
  n : Nat
  out : List UInt8
  row : Option (List Value)
def DecS.inv (s t : ByteArray) (fx : List Fact) (d : DecS) : SS :=
  match d.row with
  | none => ⟨[(0, .v (.string s)), (4, .v (.string t)), (5, .v (.slice none 0 0)), (6, .v (.int .u32 d.x)), (7, .v (.int .i64 d.n)), (18, .v (.int .i64 t.size)), (19, .v (.int .i64 d.i))], [], 0, fx⟩
  | some xs => ⟨[(0, .v (.string s)), (4, .v (.string t)), (5, .s 0 0 d.out.length xs.length), (6, .v (.int .u32 d.x)), (7, .v (.int .i64 d.n)), (18, .v (.int .i64 t.size)), (19, .v (.int .i64 d.i))], [(0, .row xs 5)], 1, fx⟩
structure DecS.Pr (tl : List UInt8) (d : DecS) : Prop where
  i : d.i ≤ tl.length
  x : d.x < 4294967296
  n : d.n ≤ 6 ∧ d.n % 2 = 0
  out : d.out.length ≤ d.i
  go : decGo tl 0 0 = (decGo (tl.drop d.i) (d.x % 2 ^ d.n) d.n).map (d.out ++ ·)
  row : match d.row with
    | none => d.out = []
    | some xs => xs.take d.out.length = d.out.map bv ∧ d.out.length ≤ xs.length
theorem acc6 (x k : Nat) (hk : k < 64) : bitz .or .u32 (IntKind.u32.wrap ((x : Int) * ((64 : Nat) : Int))) (IntKind.u32.wrap (k : Int)) = ((x * 64 % 4294967296 + k : Nat) : Int) := by
  rw [mul_nat, wrap_u32_nat, wrap_u32_nat, Nat.mod_eq_of_lt (a := k) (by omega), or_u32 _ _ (by omega) (by omega)]
  have e : x * 64 % 4294967296 = x % 67108864 * 2 ^ 6 := by omega
  rw [e, or_low 6 _ _ (by omega)]
theorem dec_num (x k n : Nat) (hk : k < 64) (hn : n ≤ 6) : (x * 64 % 4294967296 + k) % 2 ^ (n + 6) = x % 2 ^ n * 64 + k := by
  have : n = 0 ∨ n = 1 ∨ n = 2 ∨ n = 3 ∨ n = 4 ∨ n = 5 ∨ n = 6 := by omega
  rcases this with rfl | rfl | rfl | rfl | rfl | rfl | rfl <;> simp only [Nat.reducePow, Nat.reduceAdd, Nat.zero_add, Nat.pow_zero] <;> omega
theorem dec_num2 (x k n : Nat) (hk : k < 64) (hn : n ≤ 6) (h2 : 2 ≤ n) : (x * 64 % 4294967296 + k) % 2 ^ (n - 2) = (x % 2 ^ n * 64 + k) % 2 ^ (n - 2) ∧ (x * 64 % 4294967296 + k) / 2 ^ (n - 2) % 256 = (x % 2 ^ n * 64 + k) / 2 ^ (n - 2) ∧ (x % 2 ^ n * 64 + k) / 2 ^ (n - 2) < 256 := by
  have : n = 2 ∨ n = 3 ∨ n = 4 ∨ n = 5 ∨ n = 6 := by omega
  rcases this with rfl | rfl | rfl | rfl | rfl <;> simp only [Nat.reducePow, Nat.reduceSub, Nat.pow_zero] <;> omega
theorem byte6 (x k n : Nat) (hk : k < 64) (hn : n ≤ 6) (h2 : 2 ≤ n) : IntKind.u8.wrap (bitz .or .u32 (IntKind.u32.wrap ((x : Int) * ((64 : Nat) : Int))) (IntKind.u32.wrap (k : Int)) / ((pw .u32 ((n : Int) + 6 - 8) : Nat) : Int)) = ((UInt8.ofNat ((x % 2 ^ n * 64 + k) / 2 ^ (n - 2))).toNat : Int) := by
  obtain ⟨e1, e2, e3⟩ := dec_num2 x k n hk hn h2
  have ep : pw .u32 ((n : Int) + 6 - 8) = 2 ^ (n - 2) := by
    unfold pw
    rw [show ((n : Int) + 6 - 8).toNat = n - 2 by omega]
    congr 1
    simp only [IntKind.bits]
    omega
  rw [acc6 x k hk, ep, div_nat, wrap_u8_nat, e2]
  simp only [UInt8.toNat_ofNat']
  omega
theorem DecS.Pr.hi {tl : List UInt8} {d : DecS} (h : d.Pr tl) {c : UInt8} (hc : tl[d.i]? = some c) (hk : val6 c < 64) (h2 : 2 ≤ d.n) {row : Option (List Value)}
    (hr : match row with | none => d.out ++ [UInt8.ofNat ((d.x % 2 ^ d.n * 64 + val6 c) / 2 ^ (d.n - 2))] = [] | some xs => xs.take (d.out ++ [UInt8.ofNat ((d.x % 2 ^ d.n * 64 + val6 c) / 2 ^ (d.n - 2))]).length = (d.out ++ [UInt8.ofNat ((d.x % 2 ^ d.n * 64 + val6 c) / 2 ^ (d.n - 2))]).map bv ∧ (d.out ++ [UInt8.ofNat ((d.x % 2 ^ d.n * 64 + val6 c) / 2 ^ (d.n - 2))]).length ≤ xs.length) :
    DecS.Pr tl ⟨d.i + 1, d.x * 64 % 4294967296 + val6 c, d.n - 2, d.out ++ [UInt8.ofNat ((d.x % 2 ^ d.n * 64 + val6 c) / 2 ^ (d.n - 2))], row⟩ := by
  have hl := (List.getElem?_eq_some_iff.1 hc).1
  obtain ⟨hn, hm⟩ := h.n
  have ho := h.out
  refine ⟨hl, show d.x * 64 % 4294967296 + val6 c < 4294967296 by omega, show d.n - 2 ≤ 6 ∧ (d.n - 2) % 2 = 0 by omega, ?_, ?_, hr⟩
  · simp only [List.length_append, List.length_singleton]; omega
  rw [h.go, List.drop_eq_getElem_cons hl, ← Option.some.inj ((List.getElem?_eq_getElem hl).symm.trans hc).symm, dec_hi hk h2]
  obtain ⟨e1, e2, e3⟩ := dec_num2 d.x (val6 c) d.n hk hn h2
  simp only [e1, Option.map_map]
  congr 1
  funext l
  simp
theorem DecS.Pr.lo {tl : List UInt8} {d : DecS} (h : d.Pr tl) {c : UInt8} (hc : tl[d.i]? = some c) (hk : val6 c < 64) (h2 : d.n < 2) : DecS.Pr tl ⟨d.i + 1, d.x * 64 % 4294967296 + val6 c, d.n + 6, d.out, d.row⟩ := by
  have hl := (List.getElem?_eq_some_iff.1 hc).1
  obtain ⟨hn, hm⟩ := h.n
  have ho := h.out
  refine ⟨hl, show d.x * 64 % 4294967296 + val6 c < 4294967296 by omega, show d.n + 6 ≤ 6 ∧ (d.n + 6) % 2 = 0 by omega, show d.out.length ≤ d.i + 1 by omega, ?_, h.row⟩
  rw [h.go, List.drop_eq_getElem_cons hl, ← Option.some.inj ((List.getElem?_eq_getElem hl).symm.trans hc).symm, dec_lo hk h2, dec_num _ _ _ hk hn]
theorem DecS.Pr.no {tl : List UInt8} {d : DecS} (h : d.Pr tl) {c : UInt8} (hc : tl[d.i]? = some c) (hk : val6 c = 64) : decGo tl 0 0 = none := by
  have hl := (List.getElem?_eq_some_iff.1 hc).1
  rw [h.go, List.drop_eq_getElem_cons hl, ← Option.some.inj ((List.getElem?_eq_getElem hl).symm.trans hc).symm, dec_no hk]
  rfl
theorem tDecode0 (fx : List Fact) (s : ByteArray) (hs : s.size ≤ 1000000000) :
    Tri Tryd.prog 95 [.v (.string s)] [] 0 fx (RetE (α := DecO) 0 (DecO.pr s.data.toList) DecO.v DecO.h 1 (fun _ => [])) := by
  refine Tri.of_code tok Tryd.func95 rfl rfl rfl (by decide) rfl (Nat.le_of_ble_eq_true rfl) ?_
  conv => whnf
  repeat' ((first | refine And.intro (by repeat' first | exact trivial | refine And.intro rfl ?_) (And.intro (by first | exact fun _ h => h | exact fun _ => List.mem_cons_of_mem _ | exact fun _ => List.mem_append_right _) ?_) | (refine And.intro (fun h => ?_) (fun h => ?_) <;> (try simp only [n1, n2, n3, n4, n5, n6] at h) <;> first | (exfalso; omega) | (cases h; done) | skip) | refine And.intro (by omega) ?_ | refine Exists.intro _ (And.intro (by first | exact And.intro rfl rfl | exact Pl.den (by repeat constructor) | with_reducible rfl | exact cast_succ _ | assumption | exact (Int.toNat_of_nonneg (by omega)).symm | rfl) ?_) | refine hD _ _ ?_ | refine hL _ _ ?_ | (intro h; (try simp only [n1, n2, n3, n4, n5, n6] at h); first | (exfalso; omega) | (cases h; done) | skip)) <;> (conv => whnf))
  · refine ⟨.nil false, ⟨fun h => (by cases h), fun _ b e => ?_⟩, Ret.mk [] [] (Fold.refl _) rfl (fun _ _ _ => rfl) trivial (fun _ h => by cases h)⟩
    have := enc_length b
    rw [← e, list_size] at this
    omega
  refine Tri.use (tTrim fx s (by omega)).one [] rfl (args_ren rfl rfl) trivial (fun f hf => by first | exact hf | cases hf | simp_all) (fun u hu => ?_)
  conv => whnf
  repeat' ((first | refine And.intro (by repeat' first | exact trivial | refine And.intro rfl ?_) (And.intro (by first | exact fun _ h => h | exact fun _ => List.mem_cons_of_mem _ | exact fun _ => List.mem_append_right _) ?_) | (refine And.intro (fun h => ?_) (fun h => ?_) <;> (try simp only [n1, n2, n3, n4, n5, n6] at h) <;> first | (exfalso; omega) | (cases h; done) | skip) | refine And.intro (by omega) ?_ | refine Exists.intro _ (And.intro (by first | exact And.intro rfl rfl | exact Pl.den (by repeat constructor) | with_reducible rfl | exact cast_succ _ | assumption | exact (Int.toNat_of_nonneg (by omega)).symm | rfl) ?_) | refine hD _ _ ?_ | refine hL _ _ ?_ | (intro h; (try simp only [n1, n2, n3, n4, n5, n6] at h); first | (exfalso; omega) | (cases h; done) | skip)) <;> (conv => whnf))
  have h1 := Lib.trimSuffix_le s.data.toList [61]
  have h2 := Lib.trimSuffix_le (strip1 s.data.toList) [61]
  refine Tri.use (tTrim fx ⟨(strip1 s.data.toList).toArray⟩ (by rw [arr_size]; rw [list_size] at h1; exact Nat.le_trans h1 (by omega))).one [] rfl (args_ren rfl rfl) trivial (fun f hf => by first | exact hf | cases hf | simp_all) (fun u hu => ?_)
  conv => whnf
  repeat' ((first | refine And.intro (by repeat' first | exact trivial | refine And.intro rfl ?_) (And.intro (by first | exact fun _ h => h | exact fun _ => List.mem_cons_of_mem _ | exact fun _ => List.mem_append_right _) ?_) | (refine And.intro (fun h => ?_) (fun h => ?_) <;> (try simp only [n1, n2, n3, n4, n5, n6] at h) <;> first | (exfalso; omega) | (cases h; done) | skip) | refine And.intro (by omega) ?_ | refine Exists.intro _ (And.intro (by first | exact And.intro rfl rfl | exact Pl.den (by repeat constructor) | with_reducible rfl | exact cast_succ _ | assumption | exact (Int.toNat_of_nonneg (by omega)).symm | rfl) ?_) | refine hD _ _ ?_ | refine hL _ _ ?_ | (intro h; (try simp only [n1, n2, n3, n4, n5, n6] at h); first | (exfalso; omega) | (cases h; done) | skip)) <;> (conv => whnf))
  generalize htb : (⟨(strip1 (⟨(strip1 s.data.toList).toArray⟩ : ByteArray).data.toList).toArray⟩ : ByteArray) = t
  have htl : t.data.toList = strip1 (strip1 s.data.toList) := by rw [← htb]
  have hts : t.size ≤ s.size := by rw [← list_size, htl]; rw [list_size] at h1; exact Nat.le_trans h2 h1
  refine loop_by tok (DecS.inv s t fx) (DecS.Pr t.data.toList) (fun d => t.size - d.i) ⟨0, 0, 0, [], none⟩ [] ⟨Nat.zero_le _, Nat.zero_lt_succ _, ⟨Nat.zero_le _, rfl⟩, Nat.zero_le _, ?_, rfl⟩ ⟨rfl, ?_, trivial, fun f hf => hf⟩ ?_
  · show _ = Option.map ([] ++ ·) (decGo (List.drop 0 t.data.toList) 0 0)
    simp
  · exact ⟨fun _ _ _ => rfl, fun _ _ _ => rfl, fun _ _ _ => rfl, fun _ _ _ => rfl, fun _ _ _ => rfl, fun _ _ _ => rfl, fun _ _ _ => rfl, trivial⟩
  rintro ⟨i, x, n, out, row⟩ hd
  have hi := hd.i
  have hx := hd.x
  obtain ⟨hn, hm⟩ := hd.n
  have ho := hd.out
  have hg := hd.go
  have hr := hd.row
  simp only at hi hx hn hm ho hg hr
  rw [list_size] at hi
  have bad : ∀ {c : UInt8}, t.data.toList[i]? = some c → val6 c = 64 → ∀ b, s.data.toList ≠ enc b := fun hc hv b e => by
    have := dec_enc b
    rw [← e, ← htl, hd.no hc hv] at this
    cases this
  have fin : t.size ≤ i → decGo t.data.toList 0 0 = some out := fun h => by
    rw [hg, List.drop_of_length_le (by rw [list_size]; exact h)]
    simp [decGo]
  cases row with
  | none =>
    simp only [DecS.inv]
    conv => whnf
    repeat' ((first | refine And.intro (by repeat' first | exact trivial | refine And.intro rfl ?_) (And.intro (by first | exact fun _ h => h | exact fun _ => List.mem_cons_of_mem _ | exact fun _ => List.mem_append_right _) ?_) | (refine And.intro (fun h => ?_) (fun h => ?_) <;> (try simp only [n1, n2, n3, n4, n5, n6] at h) <;> first | (exfalso; omega) | (cases h; done) | skip) | refine And.intro (by omega) ?_ | refine Exists.intro _ (And.intro (by first | exact And.intro rfl rfl | exact Pl.den (by repeat constructor) | with_reducible rfl | exact cast_succ _ | assumption | exact (Int.toNat_of_nonneg (by omega)).symm | rfl) ?_) | refine hD _ _ ?_ | refine hL _ _ ?_ | (intro h; (try simp only [n1, n2, n3, n4, n5, n6] at h); first | (exfalso; omega) | (cases h; done) | skip)) <;> (conv => whnf))
    · have hc : t.data.toList[i]? = some (sbyte t i) := sbyte_get (by omega)
      by_cases hv : val6 (sbyte t i) = 64
      · refine Tri.use ((tIndex fx (sbyte t i)).one.reval (v' := .k .i64 (-1)) (fun _ => by rw [if_pos hv]; rfl)) [] rfl (args_ren rfl rfl) trivial (fun f hf => by first | exact hf | cases hf | simp_all) (fun u hu => ?_)
        conv => whnf
        repeat' ((first | refine And.intro (by repeat' first | exact trivial | refine And.intro rfl ?_) (And.intro (by first | exact fun _ h => h | exact fun _ => List.mem_cons_of_mem _ | exact fun _ => List.mem_append_right _) ?_) | (refine And.intro (fun h => ?_) (fun h => ?_) <;> (try simp only [n1, n2, n3, n4, n5, n6] at h) <;> first | (exfalso; omega) | (cases h; done) | skip) | refine And.intro (by omega) ?_ | refine Exists.intro _ (And.intro (by first | exact And.intro rfl rfl | exact Pl.den (by repeat constructor) | with_reducible rfl | exact cast_succ _ | assumption | exact (Int.toNat_of_nonneg (by omega)).symm | rfl) ?_) | refine hD _ _ ?_ | refine hL _ _ ?_ | (intro h; (try simp only [n1, n2, n3, n4, n5, n6] at h); first | (exfalso; omega) | (cases h; done) | skip)) <;> (conv => whnf))
        exact ⟨.nil false, ⟨fun h => (by cases h), fun _ => bad hc hv⟩, Ret.mk [] [] (Fold.refl _) rfl (fun _ _ _ => rfl) trivial (fun _ h => by cases h)⟩
      · have hk : val6 (sbyte t i) < 64 := by have := val6_le (sbyte t i); omega
        refine Tri.use ((tIndex fx (sbyte t i)).one.reval (v' := .v (.int .i64 (val6 (sbyte t i)))) (fun _ => by rw [if_neg hv])) [] rfl (args_ren rfl rfl) trivial (fun f hf => by first | exact hf | cases hf | simp_all) (fun u hu => ?_)
        conv => whnf
        repeat' ((first | refine And.intro (by repeat' first | exact trivial | refine And.intro rfl ?_) (And.intro (by first | exact fun _ h => h | exact fun _ => List.mem_cons_of_mem _ | exact fun _ => List.mem_append_right _) ?_) | (refine And.intro (fun h => ?_) (fun h => ?_) <;> (try simp only [n1, n2, n3, n4, n5, n6] at h) <;> first | (exfalso; omega) | (cases h; done) | skip) | refine And.intro (by omega) ?_ | refine Exists.intro _ (And.intro (by first | exact And.intro rfl rfl | exact Pl.den (by repeat constructor) | with_reducible rfl | exact cast_succ _ | assumption | exact (Int.toNat_of_nonneg (by omega)).symm | rfl) ?_) | refine hD _ _ ?_ | refine hL _ _ ?_ | (intro h; (try simp only [n1, n2, n3, n4, n5, n6] at h); first | (exfalso; omega) | (cases h; done) | skip)) <;> (conv => whnf))
        · rename_i _ m sp
          have hsp := h
          obtain rfl : out = [] := hr
          refine ⟨⟨i + 1, x * 64 % 4294967296 + val6 (sbyte t i), n - 2, [] ++ [UInt8.ofNat ((x % 2 ^ n * 64 + val6 (sbyte t i)) / 2 ^ (n - 2))], some (bv (UInt8.ofNat ((x % 2 ^ n * 64 + val6 (sbyte t i)) / 2 ^ (n - 2))) :: sp)⟩, [1], ⟨hd.hi hc hk (show 2 ≤ n by omega) ⟨rfl, by simp⟩, by simp only; omega⟩, rfl,
            ⟨fun _ _ _ => rfl, fun _ _ _ => rfl, SEq.ren rfl ?_, SEq.eq (by rw [acc6 _ _ hk]), SEq.eq (congrArg (Value.int .i64) (show ((n - 2 : Nat) : Int) = (n : Int) + 6 - 8 by omega)), fun _ _ _ => rfl, fun _ _ _ => rfl, trivial⟩, ⟨OSub.ren rfl ?_, trivial⟩, fun f hf => hf⟩
          · simp [ren, sg, hsp, Nat.add_comm]
          · simp only [renO]
            rw [byte6 _ _ _ hk hn (by omega)]
            rfl
        · have hn2 : n < 2 := by omega
          refine ⟨⟨i + 1, x * 64 % 4294967296 + val6 (sbyte t i), n + 6, out, none⟩, [], ⟨hd.lo hc hk hn2, by simp only; omega⟩, rfl,
            ⟨fun _ _ _ => rfl, fun _ _ _ => rfl, fun _ _ _ => rfl, SEq.eq (by rw [acc6 _ _ hk]), SEq.eq rfl, fun _ _ _ => rfl, fun _ _ _ => rfl, trivial⟩, trivial, fun f hf => hf⟩
    · refine Tri.use (tEncode fx none 0 [] (by simp) (by simp) ⟨fun _ => rfl, fun ad e => by cases e⟩).one [] rfl (args_ren rfl rfl) trivial (fun f hf => by first | exact hf | cases hf | simp_all) (fun u hu => ?_)
      conv => whnf
      repeat' ((first | refine And.intro (by repeat' first | exact trivial | refine And.intro rfl ?_) (And.intro (by first | exact fun _ h => h | exact fun _ => List.mem_cons_of_mem _ | exact fun _ => List.mem_append_right _) ?_) | (refine And.intro (fun h => ?_) (fun h => ?_) <;> (try simp only [n1, n2, n3, n4, n5, n6] at h) <;> first | (exfalso; omega) | (cases h; done) | skip) | refine And.intro (by omega) ?_ | refine Exists.intro _ (And.intro (by first | exact And.intro rfl rfl | exact Pl.den (by repeat constructor) | with_reducible rfl | exact cast_succ _ | assumption | exact (Int.toNat_of_nonneg (by omega)).symm | rfl) ?_) | refine hD _ _ ?_ | refine hL _ _ ?_ | (intro h; (try simp only [n1, n2, n3, n4, n5, n6] at h); first | (exfalso; omega) | (cases h; done) | skip)) <;> (conv => whnf))
      · exact ⟨.nil false, ⟨fun h => (by cases h), fun _ b e => by
          have := dec_enc b
          rw [← e, ← htl, fin (by omega)] at this
          obtain rfl := Option.some.inj this
          rw [show out = [] from hr] at e
          rw [e] at h
          simp at h⟩, Ret.mk [] [] (Fold.refl _) rfl (fun _ _ _ => rfl) trivial (fun _ h => by cases h)⟩
      · exact ⟨.nil true, ⟨fun _ => (by simpa using h : enc [] = s.data.toList).symm, fun h => (by cases h)⟩, Ret.mk [] [] (Fold.refl _) rfl (fun _ _ _ => rfl) trivial (fun _ h => by cases h)⟩
  | some xs =>
    obtain ⟨hr1, hr2⟩ := hr
    simp only [DecS.inv]
    conv => whnf
    repeat' ((first | refine And.intro (by repeat' first | exact trivial | refine And.intro rfl ?_) (And.intro (by first | exact fun _ h => h | exact fun _ => List.mem_cons_of_mem _ | exact fun _ => List.mem_append_right _) ?_) | (refine And.intro (fun h => ?_) (fun h => ?_) <;> (try simp only [n1, n2, n3, n4, n5, n6] at h) <;> first | (exfalso; omega) | (cases h; done) | skip) | refine And.intro (by omega) ?_ | refine Exists.intro _ (And.intro (by first | exact And.intro rfl rfl | exact Pl.den (by repeat constructor) | with_reducible rfl | exact cast_succ _ | assumption | exact (Int.toNat_of_nonneg (by omega)).symm | rfl) ?_) | refine hD _ _ ?_ | refine hL _ _ ?_ | (intro h; (try simp only [n1, n2, n3, n4, n5, n6] at h); first | (exfalso; omega) | (cases h; done) | skip)) <;> (conv => whnf))
    · have hc : t.data.toList[i]? = some (sbyte t i) := sbyte_get (by omega)
      by_cases hv : val6 (sbyte t i) = 64
      · refine Tri.use ((tIndex fx (sbyte t i)).one.reval (v' := .k .i64 (-1)) (fun _ => by rw [if_pos hv]; rfl)) [] rfl (args_ren rfl rfl) trivial (fun f hf => by first | exact hf | cases hf | simp_all) (fun u hu => ?_)
        conv => whnf
        repeat' ((first | refine And.intro (by repeat' first | exact trivial | refine And.intro rfl ?_) (And.intro (by first | exact fun _ h => h | exact fun _ => List.mem_cons_of_mem _ | exact fun _ => List.mem_append_right _) ?_) | (refine And.intro (fun h => ?_) (fun h => ?_) <;> (try simp only [n1, n2, n3, n4, n5, n6] at h) <;> first | (exfalso; omega) | (cases h; done) | skip) | refine And.intro (by omega) ?_ | refine Exists.intro _ (And.intro (by first | exact And.intro rfl rfl | exact Pl.den (by repeat constructor) | with_reducible rfl | exact cast_succ _ | assumption | exact (Int.toNat_of_nonneg (by omega)).symm | rfl) ?_) | refine hD _ _ ?_ | refine hL _ _ ?_ | (intro h; (try simp only [n1, n2, n3, n4, n5, n6] at h); first | (exfalso; omega) | (cases h; done) | skip)) <;> (conv => whnf))
        exact ⟨.nil false, ⟨fun h => (by cases h), fun _ => bad hc hv⟩, Ret.mk [] [] (Fold.drop (by simp)) rfl (fun _ _ _ => rfl) trivial (fun _ h => by cases h)⟩
      · have hk : val6 (sbyte t i) < 64 := by have := val6_le (sbyte t i); omega
        refine Tri.use ((tIndex fx (sbyte t i)).one.reval (v' := .v (.int .i64 (val6 (sbyte t i)))) (fun _ => by rw [if_neg hv])) [] rfl (args_ren rfl rfl) trivial (fun f hf => by first | exact hf | cases hf | simp_all) (fun u hu => ?_)
        conv => whnf
        repeat' ((first | refine And.intro (by repeat' first | exact trivial | refine And.intro rfl ?_) (And.intro (by first | exact fun _ h => h | exact fun _ => List.mem_cons_of_mem _ | exact fun _ => List.mem_append_right _) ?_) | (refine And.intro (fun h => ?_) (fun h => ?_) <;> (try simp only [n1, n2, n3, n4, n5, n6] at h) <;> first | (exfalso; omega) | (cases h; done) | skip) | refine And.intro (by omega) ?_ | refine Exists.intro _ (And.intro (by first | exact And.intro rfl rfl | exact Pl.den (by repeat constructor) | with_reducible rfl | exact cast_succ _ | assumption | exact (Int.toNat_of_nonneg (by omega)).symm | rfl) ?_) | refine hD _ _ ?_ | refine hL _ _ ?_ | (intro h; (try simp only [n1, n2, n3, n4, n5, n6] at h); first | (exfalso; omega) | (cases h; done) | skip)) <;> (conv => whnf))
        · refine ⟨⟨by omega, hr2, by omega, by simp [Value.oneCell']⟩, fun m sp hsp => ?_⟩
          conv => whnf
          repeat' ((first | refine And.intro (by repeat' first | exact trivial | refine And.intro rfl ?_) (And.intro (by first | exact fun _ h => h | exact fun _ => List.mem_cons_of_mem _ | exact fun _ => List.mem_append_right _) ?_) | (refine And.intro (fun h => ?_) (fun h => ?_) <;> (try simp only [n1, n2, n3, n4, n5, n6] at h) <;> first | (exfalso; omega) | (cases h; done) | skip) | refine And.intro (by omega) ?_ | refine Exists.intro _ (And.intro (by first | exact And.intro rfl rfl | exact Pl.den (by repeat constructor) | with_reducible rfl | exact cast_succ _ | assumption | exact (Int.toNat_of_nonneg (by omega)).symm | rfl) ?_) | refine hD _ _ ?_ | refine hL _ _ ?_ | (intro h; (try simp only [n1, n2, n3, n4, n5, n6] at h); first | (exfalso; omega) | (cases h; done) | skip)) <;> (conv => whnf))
          have e1 : (xs.take (out.length * 1) ++ [bv (UInt8.ofNat ((x % 2 ^ n * 64 + val6 (sbyte t i)) / 2 ^ (n - 2)))] ++ sp).take (out ++ [UInt8.ofNat ((x % 2 ^ n * 64 + val6 (sbyte t i)) / 2 ^ (n - 2))]).length = (out ++ [UInt8.ofNat ((x % 2 ^ n * 64 + val6 (sbyte t i)) / 2 ^ (n - 2))]).map bv := by
            rw [Nat.mul_one, hr1, List.map_append]
            rw [List.take_left' (by simp)]
            rfl
          have e2 : (xs.take (out.length * 1) ++ [bv (UInt8.ofNat ((x % 2 ^ n * 64 + val6 (sbyte t i)) / 2 ^ (n - 2)))] ++ sp).length = out.length + 1 + m := by
            rw [Nat.mul_one, hr1]
            simp [hsp]
            omega
          refine ⟨⟨i + 1, x * 64 % 4294967296 + val6 (sbyte t i), n - 2, out ++ [UInt8.ofNat ((x % 2 ^ n * 64 + val6 (sbyte t i)) / 2 ^ (n - 2))], some (xs.take (out.length * 1) ++ [bv (UInt8.ofNat ((x % 2 ^ n * 64 + val6 (sbyte t i)) / 2 ^ (n - 2)))] ++ sp)⟩, [2], ⟨hd.hi hc hk (show 2 ≤ n by omega) ⟨e1, by rw [e2]; simp⟩, by simp only; omega⟩, rfl,
            ⟨fun _ _ _ => rfl, fun _ _ _ => rfl, SEq.ren rfl ?_, SEq.eq (by rw [acc6 _ _ hk]), SEq.eq (congrArg (Value.int .i64) (show ((n - 2 : Nat) : Int) = (n : Int) + 6 - 8 by omega)), fun _ _ _ => rfl, fun _ _ _ => rfl, trivial⟩, ⟨OSub.ren rfl ?_, trivial⟩, fun f hf => hf⟩
          · simp only [ren, e2]
            simp [sg]
          · simp only [renO]
            rw [byte6 _ _ _ hk hn (by omega)]
            rfl
        · have hn2 : n < 2 := by omega
          refine ⟨⟨i + 1, x * 64 % 4294967296 + val6 (sbyte t i), n + 6, out, some xs⟩, [0], ⟨hd.lo hc hk hn2, by simp only; omega⟩, rfl,
            ⟨fun _ _ _ => rfl, fun _ _ _ => rfl, SEq.ren rfl rfl, SEq.eq (by rw [acc6 _ _ hk]), SEq.eq rfl, fun _ _ _ => rfl, fun _ _ _ => rfl, trivial⟩, ⟨OSub.ren rfl rfl, trivial⟩, fun f hf => hf⟩
    · refine Tri.lend 0 (xs := xs) (T := 5) (fun b => [.v (.slice (some ⟨b, 0, none⟩) out.length xs.length)]) (List.mem_cons_self ..) rowOf.row (fun _ => rfl) fun b => ?_
      refine Tri.use (tEncode _ _ _ out (by omega) hr2 (BytesAt.row (List.mem_cons_self ..) (by rw [List.drop_zero, hr1]))).one [] rfl (fun _ _ _ => rfl) trivial (fun f hf => hf) fun u hu => ?_
      conv => whnf
      refine And.intro rfl ?_
      conv => whnf
      repeat' ((first | refine And.intro (by repeat' first | exact trivial | refine And.intro rfl ?_) (And.intro (by first | exact fun _ h => h | exact fun _ => List.mem_cons_of_mem _ | exact fun _ => List.mem_append_right _) ?_) | (refine And.intro (fun h => ?_) (fun h => ?_) <;> (try simp only [n1, n2, n3, n4, n5, n6] at h) <;> first | (exfalso; omega) | (cases h; done) | skip) | refine And.intro (by omega) ?_ | refine Exists.intro _ (And.intro (by first | exact And.intro rfl rfl | exact Pl.den (by repeat constructor) | with_reducible rfl | exact cast_succ _ | assumption | exact (Int.toNat_of_nonneg (by omega)).symm | rfl) ?_) | refine hD _ _ ?_ | refine hL _ _ ?_ | (intro h; (try simp only [n1, n2, n3, n4, n5, n6] at h); first | (exfalso; omega) | (cases h; done) | skip)) <;> (conv => whnf))
      · exact ⟨.nil false, ⟨fun h => (by cases h), fun _ b e => by
          have := dec_enc b
          rw [← e, ← htl, fin (by omega)] at this
          obtain rfl := Option.some.inj this
          rw [e] at h
          simp at h⟩, Ret.mk [] [] (Fold.drop (by simp)) rfl (fun _ _ _ => rfl) trivial (fun _ h => by cases h)⟩
      · exact ⟨.row out xs, ⟨(by simpa using h : enc out = s.data.toList).symm, hr1, hr2⟩, Ret.mk [0] _ (Fold.refl _) rfl (SEq.ren rfl rfl) ⟨OSub.ren rfl rfl, trivial⟩ (fun _ h => by cases h)⟩
/-- What a decoder hands back, told by facts. -/
structure Dc where
  A : Option Addr
  bs : List UInt8
  cap : Nat
  ok : Bool
  fs : List Fact
structure Dc.pr (s : List UInt8) (x : Dc) : Prop where
  yes : x.ok = true → s = enc x.bs
  no : x.ok = false → x.bs = [] ∧ ∀ b, s ≠ enc b
  at_ : BytesAt x.fs x.A x.bs
  cap : x.bs.length ≤ x.cap
def Dc.v : Dc → SV
  | ⟨A, bs, cap, ok, _⟩ => .tup [.v (.slice A bs.length cap), .b ok]
def Dc.f : Dc → List Fact
  | ⟨_, _, _, _, fs⟩ => fs
theorem appFK_intro : ∀ {a b : List Fact} {k : List Fact → Prop}, k (a ++ b) → appFK a b k
  | [], b, k, h => h
  | x :: r, b, k, h => appFK_intro (a := r) (k := fun m => k (x :: m)) h
theorem Tri.dc {n : Nat} {args : List SV} {fx : List Fact} {s : List UInt8} (T : Tri Tryd.prog n args [] 0 fx (RetE (α := DecO) 0 (DecO.pr s) DecO.v DecO.h 1 (fun _ => []))) :
    Tri Tryd.prog n args [] 0 fx (RetE (α := Dc) 0 (Dc.pr s) Dc.v (fun _ => []) 0 Dc.f) := by
  refine T.conv.share2 fun y h m f ⟨a, hp, e1, e2, e3, e4⟩ => ?_
  subst e1 e2 e3 e4
  cases a with
  | nil ok =>
    left
    refine ⟨⟨none, [], 0, ok, []⟩, ⟨hp.1, fun e => ⟨rfl, hp.2 e⟩, ⟨fun _ => rfl, fun ad e => by cases e⟩, Nat.le_refl _⟩, ?_⟩
    exact Ret.mk [] [] (Fold.refl _) rfl (fun _ _ _ => rfl) trivial (fun _ h => h)
  | row bs xs =>
    right
    obtain ⟨h1, h2, h3⟩ := hp
    refine ⟨0, xs, 5, List.mem_cons_self .., fun b => ⟨.tup [.v (.slice (some ⟨b, 0, none⟩) bs.length xs.length), .b true], fun ρ e => by simp only [DecO.v, den, denL_cons, denL_nil, e], ?_⟩⟩
    refine ⟨⟨some ⟨b, 0, none⟩, bs, xs.length, true, [rowFact b xs 5]⟩, ⟨fun _ => h1, fun e => (by cases e), BytesAt.row (List.mem_cons_self ..) (by rw [List.drop_zero, h2]), h3⟩, ?_⟩
    exact Ret.mk [] [] (Fold.refl _) rfl (fun _ _ _ => rfl) trivial (fun _ h => h)
theorem tDecode (fx : List Fact) (s : ByteArray) (hs : s.size ≤ 1000000000) : Tri Tryd.prog 95 [.v (.string s)] [] 0 fx (RetE (α := Dc) 0 (Dc.pr s.data.toList) Dc.v (fun _ => []) 0 Dc.f) := (tDecode0 fx s hs).dc
end Go.Proofs.YtekgjjanikicnaaDoor.Sx
