/- The reference's digits, numbers and names. -/
import Derived.Test.YtekgjjanikicnaaDoorGu3
import Derived.Test.YtekgjjanikicnaaDoorTxParts
namespace Go.Proofs.YtekgjjanikicnaaDoor.Sx
open Go Go.RowKit
set_option maxRecDepth 100000
set_option linter.unusedSimpArgs false
set_option linter.unusedVariables false
abbrev tens : ByteArray := ⟨#[48, 49, 50, 51, 52, 53, 54, 55, 56, 57]⟩
theorem ten_cut {d : Nat} (h : d < 10) : tens.extract d (d + 1) = ⟨#[UInt8.ofNat (48 + d)]⟩ := by
  have : d = 0 ∨ d = 1 ∨ d = 2 ∨ d = 3 ∨ d = 4 ∨ d = 5 ∨ d = 6 ∨ d = 7 ∨ d = 8 ∨ d = 9 := by omega
  rcases this with rfl | rfl | rfl | rfl | rfl | rfl | rfl | rfl | rfl | rfl <;> decide
theorem ba_app (l m : List UInt8) : (⟨l.toArray⟩ ++ ⟨m.toArray⟩ : ByteArray) = ⟨(l ++ m).toArray⟩ := by
  apply ByteArray.ext
  apply Array.toList_inj.1
  simp [app_list]
theorem decDigits_size (x : Nat) (h : x < 18446744073709551616) : (⟨(Lib.decDigits x).toArray⟩ : ByteArray).size = Lib.nDigits x := by
  rw [← decDigits_len]; simp [ByteArray.size]
theorem ten_hi (x : Nat) : (x % Int.natAbs 10 + 1) % ((2 : Int) ^ IntKind.u64.bits).natAbs = x % 10 + 1 := by
  have e1 : Int.natAbs 10 = 10 := rfl
  have e2 : ((2 : Int) ^ IntKind.u64.bits).natAbs = 18446744073709551616 := by decide
  rw [e1, e2]
  omega
theorem tRefDigits (fx : List Fact) : ∀ (n x : Nat), x ≤ n → x < 18446744073709551616 → Tri Tryd.prog 50 [.v (.int .u64 (x : Int))] [] 0 fx (Ret 0 (.v (.string ⟨(Lib.decDigits x).toArray⟩)) [] 0 []) := by
  intro n
  induction n with
  | zero =>
    intro x h h2
    obtain rfl : x = 0 := by omega
    refine Tri.of_code tok Tryd.func50 rfl rfl rfl (by decide) rfl (Nat.le_of_ble_eq_true rfl) ?_
    conv => whnf
    repeat' ((first | (refine And.intro (show (0 + 1 : Nat) ≤ 10 by omega) ?_) | (refine And.intro (show (0 : Nat) ≤ 0 + 1 by omega) ?_) | refine And.intro (by repeat' first | exact trivial | refine And.intro rfl ?_) (And.intro (by first | exact fun _ h => h | exact fun _ => List.mem_cons_of_mem _ | exact fun _ => List.mem_append_right _) ?_) | (refine And.intro (fun h => ?_) (fun h => ?_) <;> (try simp only [n1, n2, n3, n4, n5, n6] at h) <;> first | (exfalso; omega) | (cases h; done) | skip) | refine And.intro (by omega) ?_ | refine Exists.intro _ (And.intro (by first | exact And.intro rfl rfl | exact Pl.den (by repeat constructor) | with_reducible rfl | exact cast_succ _ | assumption | exact (Int.toNat_of_nonneg (by omega)).symm | rfl) ?_) | refine hD _ _ ?_ | refine hL _ _ ?_ | (intro h; (try simp only [n1, n2, n3, n4, n5, n6] at h); first | (exfalso; omega) | (cases h; done) | skip)) <;> (conv => whnf))
    refine Ret.noneS rfl (fun _ _ => ?_) (fun g hg => by cases hg)
    simp only [den]
    rw [Lib.decDigits_one (by omega)]
    rfl
  | succ n ih =>
    intro x h h2
    refine Tri.of_code tok Tryd.func50 rfl rfl rfl (by decide) rfl (Nat.le_of_ble_eq_true rfl) ?_
    conv => whnf
    repeat' ((first | refine And.intro (by repeat' first | exact trivial | refine And.intro rfl ?_) (And.intro (by first | exact fun _ h => h | exact fun _ => List.mem_cons_of_mem _ | exact fun _ => List.mem_append_right _) ?_) | (refine And.intro (fun h => ?_) (fun h => ?_) <;> (try simp only [n1, n2, n3, n4, n5, n6] at h) <;> first | (exfalso; omega) | (cases h; done) | skip) | refine And.intro (by omega) ?_ | refine Exists.intro _ (And.intro (by first | exact And.intro rfl rfl | exact Pl.den (by repeat constructor) | with_reducible rfl | exact cast_succ _ | assumption | exact (Int.toNat_of_nonneg (by omega)).symm | rfl) ?_) | refine hD _ _ ?_ | refine hL _ _ ?_ | (intro h; (try simp only [n1, n2, n3, n4, n5, n6] at h); first | (exfalso; omega) | (cases h; done) | skip)) <;> (conv => whnf))
    rw [ten_hi]
    refine And.intro (show x % 10 + 1 ≤ 10 by omega) ?_
    conv => whnf
    repeat' ((first | refine And.intro (by repeat' first | exact trivial | refine And.intro rfl ?_) (And.intro (by first | exact fun _ h => h | exact fun _ => List.mem_cons_of_mem _ | exact fun _ => List.mem_append_right _) ?_) | (refine And.intro (fun h => ?_) (fun h => ?_) <;> (try simp only [n1, n2, n3, n4, n5, n6] at h) <;> first | (exfalso; omega) | (cases h; done) | skip) | refine And.intro (by omega) ?_ | refine Exists.intro _ (And.intro (by first | exact And.intro rfl rfl | exact Pl.den (by repeat constructor) | with_reducible rfl | exact cast_succ _ | assumption | exact (Int.toNat_of_nonneg (by omega)).symm | rfl) ?_) | refine hD _ _ ?_ | refine hL _ _ ?_ | (intro h; (try simp only [n1, n2, n3, n4, n5, n6] at h); first | (exfalso; omega) | (cases h; done) | skip)) <;> (conv => whnf))
    · rename_i h10
      refine Ret.noneS rfl (fun _ _ => ?_) (fun g hg => by cases hg)
      simp only [den]
      rw [Lib.decDigits_one (by omega)]
      refine congrArg Value.string (Eq.trans ?_ (ten_cut (Nat.mod_lt x (show 0 < 10 by omega))).symm)
      rw [Nat.mod_eq_of_lt (by omega)]
    · refine Tri.use ((ih (x / 10) (by omega) (by omega)).one) [] rfl (fun _ _ _ => rfl) trivial (fun f hf => by first | exact hf | cases hf) (fun u hu => ?_)
      conv => whnf
      have e := ten_cut (Nat.mod_lt x (show 0 < 10 by omega))
      have e2 : tens.extract ((some ((x : Int) % 10).toNat).getD 0) (x % 10 + 1) = ⟨#[UInt8.ofNat (48 + x % 10)]⟩ := e
      rw [e2]
      have hsz := decDigits_size (x / 10) (by omega)
      refine And.intro ?_ ?_
      · rw [hsz]
        have h20 := nDigits_le (x / 10) (by omega)
        show ((Lib.nDigits (x / 10) + 1 : Nat) : Int) ≤ _
        omega
      conv => whnf
      repeat' ((first | refine And.intro (by repeat' first | exact trivial | refine And.intro rfl ?_) (And.intro (by first | exact fun _ h => h | exact fun _ => List.mem_cons_of_mem _ | exact fun _ => List.mem_append_right _) ?_) | (refine And.intro (fun h => ?_) (fun h => ?_) <;> (try simp only [n1, n2, n3, n4, n5, n6] at h) <;> first | (exfalso; omega) | (cases h; done) | skip) | refine And.intro (by omega) ?_ | refine Exists.intro _ (And.intro (by first | exact And.intro rfl rfl | exact Pl.den (by repeat constructor) | with_reducible rfl | exact cast_succ _ | assumption | exact (Int.toNat_of_nonneg (by omega)).symm | rfl) ?_) | refine hD _ _ ?_ | refine hL _ _ ?_ | (intro h; (try simp only [n1, n2, n3, n4, n5, n6] at h); first | (exfalso; omega) | (cases h; done) | skip)) <;> (conv => whnf))
      refine Ret.noneS rfl (fun _ _ => ?_) (fun g hg => by cases hg)
      simp only [den]
      have ed : Lib.decDigits x = Lib.decDigits (x / 10) ++ [UInt8.ofNat (48 + x % 10)] := by conv => lhs; rw [Lib.decDigits, dif_neg (by omega)]
      rw [ed]
      exact congrArg Value.string (ba_app _ _).symm
theorem num_step (n : Nat) (c : UInt8) : IntKind.u64.wrap (IntKind.u64.wrap (IntKind.u64.wrap ((n : Int) * 10) + IntKind.u64.wrap (c.toNat : Int)) - 48) = (((n * 10 + c.toNat + (18446744073709551616 - 48)) % 18446744073709551616 : Nat) : Int) := by
  simp only [IntKind.wrap, IntKind.signed, IntKind.bits]
  simp
  omega
theorem tRefNumber (fx : List Fact) (s : ByteArray) (hs : s.size ≤ 281474976710656) : Tri Tryd.prog 49 [.v (.string s)] [] 0 fx (Ret 0 (numS (numOf s.data.toList)) [] 0 []) := by
  obtain ⟨M, hM⟩ : ∃ M : Nat, M = 18446744073709551616 := ⟨_, rfl⟩
  refine Tri.of_code tok Tryd.func49 rfl rfl rfl (by decide) rfl (Nat.le_of_ble_eq_true rfl) ?_
  conv => whnf
  repeat' ((first | refine And.intro (by repeat' first | exact trivial | refine And.intro rfl ?_) (And.intro (by first | exact fun _ h => h | exact fun _ => List.mem_cons_of_mem _ | exact fun _ => List.mem_append_right _) ?_) | (refine And.intro (fun h => ?_) (fun h => ?_) <;> (try simp only [n1, n2, n3, n4, n5, n6] at h) <;> first | (exfalso; omega) | (cases h; done) | skip) | refine And.intro (by omega) ?_ | refine Exists.intro _ (And.intro (by first | exact And.intro rfl rfl | exact Pl.den (by repeat constructor) | with_reducible rfl | exact cast_succ _ | assumption | exact (Int.toNat_of_nonneg (by omega)).symm | rfl) ?_) | refine hD _ _ ?_ | refine hL _ _ ?_ | (intro h; (try simp only [n1, n2, n3, n4, n5, n6] at h); first | (exfalso; omega) | (cases h; done) | skip)) <;> (conv => whnf))
  refine loop_by tok (α := Nat) (fun i => ⟨[(0, .v (.string s)), (4, .v (.int .u64 (foldM M (s.data.toList.take i)))), (5, .v (.int .i64 i))], [], 0, fx⟩) (fun i => i ≤ s.size ∧ i ≤ 20) (fun i => s.size - i) 0 [] ⟨by omega, by omega⟩ ⟨rfl, ?_, trivial, fun f hf => hf⟩ ?_
  · exact ⟨fun _ _ _ => rfl, fun _ _ _ => rfl, fun _ _ _ => rfl, trivial⟩
  · rintro i ⟨hi, ha⟩
    conv => whnf
    repeat' ((first | refine And.intro (by repeat' first | exact trivial | refine And.intro rfl ?_) (And.intro (by first | exact fun _ h => h | exact fun _ => List.mem_cons_of_mem _ | exact fun _ => List.mem_append_right _) ?_) | (refine And.intro (fun h => ?_) (fun h => ?_) <;> (try simp only [n1, n2, n3, n4, n5, n6] at h) <;> first | (exfalso; omega) | (cases h; done) | skip) | refine And.intro (by omega) ?_ | refine Exists.intro _ (And.intro (by first | exact And.intro rfl rfl | exact Pl.den (by repeat constructor) | with_reducible rfl | exact cast_succ _ | assumption | exact (Int.toNat_of_nonneg (by omega)).symm | rfl) ?_) | refine hD _ _ ?_ | refine hL _ _ ?_ | (intro h; (try simp only [n1, n2, n3, n4, n5, n6] at h); first | (exfalso; omega) | (cases h; done) | skip)) <;> (conv => whnf))
    · obtain rfl : M = 18446744073709551616 := hM
      refine ⟨i + 1, [], ⟨⟨by omega, by omega⟩, by omega⟩, rfl, ⟨fun _ _ _ => rfl, fun _ _ _ => ?_, fun _ _ _ => rfl, trivial⟩, trivial, fun f hf => hf⟩
      simp only [den]
      rw [take_succ_of (sbyte_get (show i < s.size by omega)), foldM_app, num_step]
    · have hi20 : i = 20 := by omega
      subst hi20
      refine Tri.use ((tRefDigits fx _ _ (Nat.le_refl _) (by rw [← hM]; exact foldM_lt (by omega) _)).one) [] rfl (fun _ _ _ => rfl) trivial (fun f hf => by first | exact hf | cases hf) (fun u hu => ?_)
      conv => whnf
      repeat' ((first | refine And.intro (by repeat' first | exact trivial | refine And.intro rfl ?_) (And.intro (by first | exact fun _ h => h | exact fun _ => List.mem_cons_of_mem _ | exact fun _ => List.mem_append_right _) ?_) | (refine And.intro (fun h => ?_) (fun h => ?_) <;> (try simp only [n1, n2, n3, n4, n5, n6] at h) <;> first | (exfalso; omega) | (cases h; done) | skip) | refine And.intro (by omega) ?_ | refine Exists.intro _ (And.intro (by first | exact And.intro rfl rfl | exact Pl.den (by repeat constructor) | with_reducible rfl | exact cast_succ _ | assumption | exact (Int.toNat_of_nonneg (by omega)).symm | rfl) ?_) | refine hD _ _ ?_ | refine hL _ _ ?_ | (intro h; (try simp only [n1, n2, n3, n4, n5, n6] at h); first | (exfalso; omega) | (cases h; done) | skip)) <;> (conv => whnf))
      · have hn : numOf s.data.toList = none := by
          rw [numOf_foldM hM]
          exact if_neg (by simpa using h)
        rw [hn]
        exact Ret.noneS rfl (fun _ _ => rfl) (fun g hg => by cases hg)
      · have hn : numOf s.data.toList = some (foldM M (s.data.toList.take 20)) := by
          rw [numOf_foldM hM]
          exact if_pos (by simpa using h)
        rw [hn]
        exact Ret.noneS rfl (fun _ _ => rfl) (fun g hg => by cases hg)
    · have hi20 : s.data.toList.take i = s.data.toList.take 20 := by
        rw [List.take_of_length_le (by rw [list_size]; omega), List.take_of_length_le (by rw [list_size]; omega)]
      rw [hi20]
      refine Tri.use ((tRefDigits fx _ _ (Nat.le_refl _) (by rw [← hM]; exact foldM_lt (by omega) _)).one) [] rfl (fun _ _ _ => rfl) trivial (fun f hf => by first | exact hf | cases hf) (fun u hu => ?_)
      conv => whnf
      repeat' ((first | refine And.intro (by repeat' first | exact trivial | refine And.intro rfl ?_) (And.intro (by first | exact fun _ h => h | exact fun _ => List.mem_cons_of_mem _ | exact fun _ => List.mem_append_right _) ?_) | (refine And.intro (fun h => ?_) (fun h => ?_) <;> (try simp only [n1, n2, n3, n4, n5, n6] at h) <;> first | (exfalso; omega) | (cases h; done) | skip) | refine And.intro (by omega) ?_ | refine Exists.intro _ (And.intro (by first | exact And.intro rfl rfl | exact Pl.den (by repeat constructor) | with_reducible rfl | exact cast_succ _ | assumption | exact (Int.toNat_of_nonneg (by omega)).symm | rfl) ?_) | refine hD _ _ ?_ | refine hL _ _ ?_ | (intro h; (try simp only [n1, n2, n3, n4, n5, n6] at h); first | (exfalso; omega) | (cases h; done) | skip)) <;> (conv => whnf))
      · have hn : numOf s.data.toList = none := by
          rw [numOf_foldM hM]
          exact if_neg (by simpa using h)
        rw [hn]
        exact Ret.noneS rfl (fun _ _ => rfl) (fun g hg => by cases hg)
      · have hn : numOf s.data.toList = some (foldM M (s.data.toList.take 20)) := by
          rw [numOf_foldM hM]
          exact if_pos (by simpa using h)
        rw [hn]
        exact Ret.noneS rfl (fun _ _ => rfl) (fun g hg => by cases hg)
theorem tRefName (fx : List Fact) (s : ByteArray) (hs : s.size < 9223372036854775808) : Tri Tryd.prog 52 [.v (.string s)] [] 0 fx (Ret 0 (.v (.bool (nameOk s.data.toList))) [] 0 []) := by
  refine Tri.of_code tok Tryd.func52 rfl rfl rfl (by decide) rfl (Nat.le_of_ble_eq_true rfl) ?_
  conv => whnf
  repeat' ((first | refine And.intro (by repeat' first | exact trivial | refine And.intro rfl ?_) (And.intro (by first | exact fun _ h => h | exact fun _ => List.mem_cons_of_mem _ | exact fun _ => List.mem_append_right _) ?_) | (refine And.intro (fun h => ?_) (fun h => ?_) <;> (try simp only [n1, n2, n3, n4, n5, n6] at h) <;> first | (exfalso; omega) | (cases h; done) | skip) | refine And.intro (by omega) ?_ | refine Exists.intro _ (And.intro (by first | exact And.intro rfl rfl | exact Pl.den (by repeat constructor) | with_reducible rfl | exact cast_succ _ | assumption | exact (Int.toNat_of_nonneg (by omega)).symm | rfl) ?_) | refine hD _ _ ?_ | refine hL _ _ ?_ | (intro h; (try simp only [n1, n2, n3, n4, n5, n6] at h); first | (exfalso; omega) | (cases h; done) | skip)) <;> (conv => whnf))
  refine loop_by tok (α := Nat) (fun i => ⟨[(0, .v (.string s)), (3, .v (.int .i64 i))], [], 0, fx⟩) (fun i => i ≤ s.size ∧ (s.data.toList.take i).all nameSign = true) (fun i => s.size - i) 0 [] (by simp) ⟨rfl, ?_, trivial, fun f hf => hf⟩ ?_
  · exact ⟨fun _ _ _ => rfl, fun _ _ _ => rfl, trivial⟩
  · rintro i ⟨hi, ha⟩
    conv => whnf
    repeat' ((first | refine And.intro (by repeat' first | exact trivial | refine And.intro rfl ?_) (And.intro (by first | exact fun _ h => h | exact fun _ => List.mem_cons_of_mem _ | exact fun _ => List.mem_append_right _) ?_) | (refine And.intro (fun h => ?_) (fun h => ?_) <;> (try simp only [n1, n2, n3, n4, n5, n6] at h) <;> first | (exfalso; omega) | (cases h; done) | skip) | refine And.intro (by omega) ?_ | refine Exists.intro _ (And.intro (by first | exact And.intro rfl rfl | exact Pl.den (by repeat constructor) | with_reducible rfl | exact cast_succ _ | assumption | exact (Int.toNat_of_nonneg (by omega)).symm | rfl) ?_) | refine hD _ _ ?_ | refine hL _ _ ?_ | (intro h; (try simp only [n1, n2, n3, n4, n5, n6] at h); first | (exfalso; omega) | (cases h; done) | skip)) <;> (conv => whnf))
    all_goals (try simp only [Int.toNat_natCast] at *)
    all_goals first
      | (refine ⟨i + 1, [], ⟨⟨by omega, sbyte_take (by omega) _ ha ?_⟩, by omega⟩, rfl, ⟨fun _ _ _ => rfl, fun _ _ _ => rfl, trivial⟩, trivial, fun f hf => hf⟩
         simp only [nameSign, Bool.or_eq_true, Bool.and_eq_true, decide_eq_true_eq, beq_iff_eq]; omega)
      | (refine Ret.none rfl (fun ρ => ?_) (fun g h => by cases h)
         have hf : nameSign (sbyte s i) = false := by
           rw [← Bool.not_eq_true]
           simp only [nameSign, Bool.or_eq_true, Bool.and_eq_true, decide_eq_true_eq, beq_iff_eq]; omega
         simp only [nameOk, all_false (by omega) _ hf]; rfl)
      | (refine Ret.none rfl (fun ρ => ?_) (fun g h => by cases h)
         obtain rfl : i = s.size := by omega
         rw [List.take_of_length_le (by simp)] at ha
         simp only [den, nameOk, ha, Bool.true_and]
         congr 1
         rw [Bool.eq_iff_iff]
         simp; omega)
end Go.Proofs.YtekgjjanikicnaaDoor.Sx
