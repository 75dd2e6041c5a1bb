/- Lemmas of this proof, part 3: 6 texts joined. -/
import Derived.Test.YtekgjjanikicnaaDoorNoteBackLawB2
namespace Go.Proofs.YtekgjjanikicnaaDoor.Sx
open Go
set_option maxRecDepth 100000
set_option linter.unusedSimpArgs false
set_option linter.unusedVariables false

theorem rdec_append : ∀ (a b : List UInt8), a.length % 4 = 0 → rdec (a ++ b) = rdec a ++ rdec b
  | [], b, _ => by simp [rdec]
  | [_], _, h => by simp at h
  | [_, _], _, h => by simp at h
  | [_, _, _], _, h => by simp at h
  | x :: y :: z :: w :: r, b, h => by
    simp only [List.length_cons] at h
    simp only [List.cons_append, rdec]
    rw [rdec_append r b (by omega)]
/-- The number of the signs from i on, j of them. -/
def nacc (s : ByteArray) (i : Nat) : Nat → Nat
  | 0 => 0
  | j + 1 => nacc s i j * 64 + val0 (sbyte s (i + j))
theorem nacc_lt (s : ByteArray) (i : Nat) : ∀ j, nacc s i j < 64 ^ j
  | 0 => Nat.zero_lt_one
  | j + 1 => by
    have := nacc_lt s i j
    have := val0_lt (sbyte s (i + j))
    rw [Nat.pow_succ]
    simp only [nacc]
    omega
theorem rdec_four {s : ByteArray} {i : Nat} (hi : i + 4 ≤ s.size) (h4 : i % 4 = 0) : rdec (s.data.toList.take (i + 4)) = rdec (s.data.toList.take i) ++ [UInt8.ofNat (nacc s i 4 / 65536), UInt8.ofNat (nacc s i 4 / 256 % 256), UInt8.ofNat (nacc s i 4 % 256)] := by
  have e : s.data.toList.take (i + 4) = s.data.toList.take i ++ [sbyte s i, sbyte s (i + 1), sbyte s (i + 2), sbyte s (i + 3)] := by
    rw [show i + 4 = (i + 1) + 3 by omega, take3 (i := i + 1) (sbyte_get (by omega)) (sbyte_get (by omega)) (sbyte_get (by omega)), take1 (sbyte_get (by omega)), List.append_assoc]
    rfl
  rw [e, rdec_append _ _ (by rw [List.length_take, list_size, Nat.min_eq_left (by omega)]; exact h4)]
  simp only [rdec, nacc, Nat.zero_mul, Nat.zero_add, Nat.add_zero]
theorem ofn (v : Nat) : IntKind.u8.wrap (v : Int) = ((UInt8.ofNat v).toNat : Int) := by
  rw [wrap_u8_nat]
  simp
theorem ofn3 (v : Nat) : Value.int IntKind.u8 (IntKind.u8.wrap ((v : Int) / 65536)) = bv (UInt8.ofNat (v / 65536)) ∧ Value.int IntKind.u8 (IntKind.u8.wrap ((v : Int) / 256 % 256)) = bv (UInt8.ofNat (v / 256 % 256)) ∧
    Value.int IntKind.u8 (IntKind.u8.wrap ((v : Int) % 256)) = bv (UInt8.ofNat (v % 256)) := by
  have e1 : ((v : Int) / 65536) = ((v / 65536 : Nat) : Int) := by omega
  have e2 : ((v : Int) / 256 % 256) = ((v / 256 % 256 : Nat) : Int) := by omega
  have e3 : ((v : Int) % 256) = ((v % 256 : Nat) : Int) := by omega
  rw [e1, e2, e3, ofn, ofn, ofn]
  exact ⟨rfl, rfl, rfl⟩
theorem rcut_is {s o : List UInt8} {k : Nat} (hk : k ≤ 2) (hkL : k ≤ o.length) (h1 : 1 ≤ k → s[s.length - 1]? = some 61) (h2 : k = 2 → s[s.length - 2]? = some 61) (he : k = 2 ∨ k = o.length ∨ s[s.length - 1 - k]? ≠ some 61) : rcut s o = k := by
  unfold rcut
  rcases (show k = 0 ∨ k = 1 ∨ k = 2 by omega) with rfl | rfl | rfl
  · rw [if_neg]
    rintro ⟨h3, h4⟩
    rcases he with he | he | he
    · omega
    · omega
    · exact he h4
  · rw [if_pos ⟨by omega, h1 (by omega)⟩, if_neg]
    rintro ⟨h3, h4⟩
    rcases he with he | he | he
    · omega
    · omega
    · exact he h4
  · rw [if_pos ⟨by omega, h1 (by omega)⟩, if_pos ⟨by omega, h2 rfl⟩]
/-- Two rows of the caller's own, compared. -/
theorem tSameRows (fx : List Fact) (l m : List UInt8) (xs ys : List Value) (c d : Nat) (hl : l.length < 9223372036854775808) :
    Tri Tryd.prog 42 [.s 0 0 l.length c, .s 1 0 m.length d] [(0, .row (l.map bv ++ xs) 5), (1, .row (m.map bv ++ ys) 5)] 2 fx (RetE (α := Unit) 2 (fun _ => True) (fun _ => .v (.bool (decide (l = m)))) (fun _ => [(0, .row (l.map bv ++ xs) 5), (1, .row (m.map bv ++ ys) 5)]) 2 (fun _ => [])) := by
  refine Tri.lend 0 (xs := l.map bv ++ xs) (T := 5) (fun b => [.v (.slice (some ⟨b, 0, none⟩) l.length c), .s 1 0 m.length d]) (List.mem_cons_self ..) rowOf.row (fun _ => rfl) fun b1 => ?_
  refine Tri.lend 1 (xs := m.map bv ++ ys) (T := 5) (fun b => [.v (.slice (some ⟨b1, 0, none⟩) l.length c), .v (.slice (some ⟨b, 0, none⟩) m.length d)]) (List.mem_cons_self ..) rowOf.row (fun _ => rfl) fun b2 => ?_
  refine Tri.use (tSame _ (some ⟨b1, 0, none⟩) (some ⟨b2, 0, none⟩) c d l m (BytesAt.row (List.mem_cons_of_mem _ (List.mem_cons_self ..)) (by rw [List.drop_zero, List.take_left' (by simp)])) (BytesAt.row (List.mem_cons_self ..) (by rw [List.drop_zero, List.take_left' (by simp)])) hl).one [] rfl (fun _ _ _ => rfl) trivial (fun f hf => hf) fun u hu => ?_
  conv => whnf
  refine And.intro rfl ?_
  conv => whnf
  refine And.intro rfl ?_
  exact ⟨(), trivial, Ret.mk [0, 1] _ (Fold.refl _) rfl (fun _ _ _ => rfl) ⟨OSub.ren rfl rfl, OSub.ren rfl rfl, trivial⟩ (fun _ h => nomatch h)⟩
structure RdS where
  i : Nat
  row : Option (List Value)
def RdS.out (s : ByteArray) (d : RdS) : SV := match d.row with
  | none => .v (.slice none 0 0)
  | some xs => .s 0 0 (d.i / 4 * 3) xs.length
def RdS.hp (d : RdS) : List (Nat × SObj) := match d.row with
  | none => []
  | some xs => [(0, .row xs 5)]
def RdS.nx (d : RdS) : Nat := match d.row with
  | none => 0
  | some _ => 1
def RdS.inv (s : ByteArray) (fx : List Fact) (d : RdS) : SS := match d.row with
  | none => ⟨[(0, .v (.string s)), (4, .v (.slice none 0 0)), (5, .v (.int .i64 d.i))], [], 0, fx⟩
  | some xs => ⟨[(0, .v (.string s)), (4, .s 0 0 (d.i / 4 * 3) xs.length), (5, .v (.int .i64 d.i))], [(0, .row xs 5)], 1, fx⟩
structure RdS.Pr (s : ByteArray) (d : RdS) : Prop where
  i : d.i ≤ s.size
  four : d.i % 4 = 0
  row : match d.row with
    | none => d.i = 0
    | some xs => xs.take (d.i / 4 * 3) = (rdec (s.data.toList.take d.i)).map bv ∧ d.i / 4 * 3 ≤ xs.length
theorem tRefDecode0 (fx : List Fact) (s : ByteArray) (hs : s.size ≤ 1000000000) :
    Tri Tryd.prog 98 [.v (.string s)] [] 0 fx (RetE (α := DecO) 0 (DecO.pr s.data.toList) DecO.v DecO.h 1 (fun _ => [])) := by
  refine Tri.of_code tok Tryd.func98 rfl rfl rfl (by decide) rfl (Nat.le_of_ble_eq_true rfl) ?_
  conv => whnf
  repeat' ((first | refine And.intro (by repeat' first | exact trivial | refine And.intro rfl ?_) (And.intro (by first | exact fun _ h => h | exact fun _ => List.mem_cons_of_mem _ | exact fun _ => List.mem_append_right _) ?_) | (refine And.intro (fun h => ?_) (fun h => ?_) <;> (try simp only [n1, n2, n3, n4, n5, n6] at h) <;> first | (exfalso; omega) | (cases h; done) | skip) | refine And.intro (by omega) ?_ | refine Exists.intro _ (And.intro (by first | exact And.intro rfl rfl | exact Pl.den (by repeat constructor) | with_reducible rfl | exact cast_succ _ | assumption | exact (Int.toNat_of_nonneg (by omega)).symm | rfl) ?_) | refine hD _ _ ?_ | refine hL _ _ ?_ | (intro h; (try simp only [n1, n2, n3, n4, n5, n6] at h); first | (exfalso; omega) | (cases h; done) | skip)) <;> (conv => whnf))
  · refine ⟨.nil false, ⟨fun h => (by cases h), fun _ b e => ?_⟩, Ret.mk [] [] (Fold.refl _) rfl (fun _ _ _ => rfl) trivial (fun _ h => by cases h)⟩
    have := enc_length b
    rw [← e, list_size] at this
    omega
  refine loop_by tok (RdS.inv s fx) (RdS.Pr s) (fun d => s.size - d.i) ⟨0, none⟩ [] ⟨Nat.zero_le _, rfl, rfl⟩ ⟨rfl, ?_, trivial, fun f hf => hf⟩ ?_
  · exact ⟨fun _ _ _ => rfl, fun _ _ _ => rfl, fun _ _ _ => rfl, trivial⟩
  rintro ⟨i, row⟩ hd
  have hi := hd.i
  have h4 := hd.four
  have hr := hd.row
  simp only at hi h4 hr
  cases row with
  | none =>
    obtain rfl : i = 0 := hr
    simp only [RdS.inv]
    conv => whnf
    repeat' ((first | refine And.intro (by repeat' first | exact trivial | refine And.intro rfl ?_) (And.intro (by first | exact fun _ h => h | exact fun _ => List.mem_cons_of_mem _ | exact fun _ => List.mem_append_right _) ?_) | (refine And.intro (fun h => ?_) (fun h => ?_) <;> (try simp only [n1, n2, n3, n4, n5, n6] at h) <;> first | (exfalso; omega) | (cases h; done) | skip) | refine And.intro (by omega) ?_ | refine Exists.intro _ (And.intro (by first | exact And.intro rfl rfl | exact Pl.den (by repeat constructor) | with_reducible rfl | exact cast_succ _ | assumption | exact (Int.toNat_of_nonneg (by omega)).symm | rfl) ?_) | refine hD _ _ ?_ | refine hL _ _ ?_ | (intro h; (try simp only [n1, n2, n3, n4, n5, n6] at h); first | (exfalso; omega) | (cases h; done) | skip)) <;> (conv => whnf))
    · refine loop_by tok (α := Nat) (fun j => ⟨[(0, .v (.string s)), (4, .v (.slice none 0 0)), (5, .v (.int .i64 (0 : Nat))), (6, .v (.int .i64 (nacc s 0 j))), (7, .v (.int .i64 (0 + j : Nat)))], [], 0, fx⟩) (fun j => j ≤ 4) (fun j => 4 - j) 0 [] (by omega) ⟨rfl, ?_, trivial, fun f hf => hf⟩ ?_
      · exact ⟨fun _ _ _ => rfl, fun _ _ _ => rfl, fun _ _ _ => rfl, fun _ _ _ => rfl, fun _ _ _ => rfl, trivial⟩
      rintro j hj
      have hna := nacc_lt s 0 j
      have hnb : nacc s 0 j < 16777216 := by
        have : (64 : Nat) ^ j ≤ 64 ^ 4 := Nat.pow_le_pow_right (by decide) hj
        omega
      by_cases hj4 : j < 4
      · have hk := val0_lt (sbyte s (0 + j))
        conv => whnf
        repeat' ((first | refine And.intro (by repeat' first | exact trivial | refine And.intro rfl ?_) (And.intro (by first | exact fun _ h => h | exact fun _ => List.mem_cons_of_mem _ | exact fun _ => List.mem_append_right _) ?_) | (refine And.intro (fun h => ?_) (fun h => ?_) <;> (try simp only [n1, n2, n3, n4, n5, n6] at h) <;> first | (exfalso; omega) | (cases h; done) | skip) | refine And.intro (by omega) ?_ | refine Exists.intro _ (And.intro (by first | exact And.intro rfl rfl | exact Pl.den (by repeat constructor) | with_reducible rfl | exact cast_succ _ | assumption | exact (Int.toNat_of_nonneg (by omega)).symm | rfl) ?_) | refine hD _ _ ?_ | refine hL _ _ ?_ | (intro h; (try simp only [n1, n2, n3, n4, n5, n6] at h); first | (exfalso; omega) | (cases h; done) | skip)) <;> (conv => whnf))
        by_cases hv : val6 (sbyte s (0 + j)) = 64
        · have hv0 : val0 (sbyte s (0 + j)) = 0 := by unfold val0; rw [if_pos hv]
          refine Tri.use ((tValue fx (sbyte s (0 + j))).one.reval (v' := .k .i64 (-1)) (fun _ => by rw [if_pos hv]; rfl)) [] rfl (args_ren rfl rfl) trivial (fun f hf => by first | exact hf | cases hf | simp_all) (fun u hu => ?_)
          conv => whnf
          repeat' ((first | refine And.intro (by repeat' first | exact trivial | refine And.intro rfl ?_) (And.intro (by first | exact fun _ h => h | exact fun _ => List.mem_cons_of_mem _ | exact fun _ => List.mem_append_right _) ?_) | (refine And.intro (fun h => ?_) (fun h => ?_) <;> (try simp only [n1, n2, n3, n4, n5, n6] at h) <;> first | (exfalso; omega) | (cases h; done) | skip) | refine And.intro (by omega) ?_ | refine Exists.intro _ (And.intro (by first | exact And.intro rfl rfl | exact Pl.den (by repeat constructor) | with_reducible rfl | exact cast_succ _ | assumption | exact (Int.toNat_of_nonneg (by omega)).symm | rfl) ?_) | refine hD _ _ ?_ | refine hL _ _ ?_ | (intro h; (try simp only [n1, n2, n3, n4, n5, n6] at h); first | (exfalso; omega) | (cases h; done) | skip)) <;> (conv => whnf))
          refine ⟨j + 1, [], ⟨by omega, by omega⟩, rfl, ⟨fun _ _ _ => rfl, fun _ _ _ => rfl, fun _ _ _ => rfl, SEq.eq (congrArg (Value.int .i64) ?_), fun _ _ _ => rfl, trivial⟩, trivial, fun f hf => hf⟩
          simp only [nacc, hv0]
          omega
        · have hv0 : val0 (sbyte s (0 + j)) = val6 (sbyte s (0 + j)) := by unfold val0; rw [if_neg hv]
          refine Tri.use ((tValue fx (sbyte s (0 + j))).one.reval (v' := .v (.int .i64 (val0 (sbyte s (0 + j))))) (fun _ => by rw [if_neg hv, hv0])) [] rfl (args_ren rfl rfl) trivial (fun f hf => by first | exact hf | cases hf | simp_all) (fun u hu => ?_)
          conv => whnf
          repeat' ((first | refine And.intro (by repeat' first | exact trivial | refine And.intro rfl ?_) (And.intro (by first | exact fun _ h => h | exact fun _ => List.mem_cons_of_mem _ | exact fun _ => List.mem_append_right _) ?_) | (refine And.intro (fun h => ?_) (fun h => ?_) <;> (try simp only [n1, n2, n3, n4, n5, n6] at h) <;> first | (exfalso; omega) | (cases h; done) | skip) | refine And.intro (by omega) ?_ | refine Exists.intro _ (And.intro (by first | exact And.intro rfl rfl | exact Pl.den (by repeat constructor) | with_reducible rfl | exact cast_succ _ | assumption | exact (Int.toNat_of_nonneg (by omega)).symm | rfl) ?_) | refine hD _ _ ?_ | refine hL _ _ ?_ | (intro h; (try simp only [n1, n2, n3, n4, n5, n6] at h); first | (exfalso; omega) | (cases h; done) | skip)) <;> (conv => whnf))
          refine ⟨j + 1, [], ⟨by omega, by omega⟩, rfl, ⟨fun _ _ _ => rfl, fun _ _ _ => rfl, fun _ _ _ => rfl, SEq.eq (congrArg (Value.int .i64) ?_), fun _ _ _ => rfl, trivial⟩, trivial, fun f hf => hf⟩
          simp only [nacc]
          omega
      · obtain rfl : j = 4 := by omega
        conv => whnf
        repeat' ((first | refine And.intro (by repeat' first | exact trivial | refine And.intro rfl ?_) (And.intro (by first | exact fun _ h => h | exact fun _ => List.mem_cons_of_mem _ | exact fun _ => List.mem_append_right _) ?_) | (refine And.intro (fun h => ?_) (fun h => ?_) <;> (try simp only [n1, n2, n3, n4, n5, n6] at h) <;> first | (exfalso; omega) | (cases h; done) | skip) | refine And.intro (by omega) ?_ | refine Exists.intro _ (And.intro (by first | exact And.intro rfl rfl | exact Pl.den (by repeat constructor) | with_reducible rfl | exact cast_succ _ | assumption | exact (Int.toNat_of_nonneg (by omega)).symm | rfl) ?_) | refine hD _ _ ?_ | refine hL _ _ ?_ | (intro h; (try simp only [n1, n2, n3, n4, n5, n6] at h); first | (exfalso; omega) | (cases h; done) | skip)) <;> (conv => whnf))
        rename_i _ m sp
        have hsp := h
        obtain ⟨b1, b2, b3⟩ := ofn3 (nacc s 0 4)
        have hr4 := rdec_four (s := s) (i := 0) (by omega) rfl
        refine ⟨⟨0 + 4, some ([bv (UInt8.ofNat (nacc s 0 4 / 65536)), bv (UInt8.ofNat (nacc s 0 4 / 256 % 256)), bv (UInt8.ofNat (nacc s 0 4 % 256))] ++ sp)⟩, [1], ⟨⟨by simp only; omega, show (0 + 4) % 4 = 0 from rfl, ⟨?_, by simp⟩⟩, by simp only; omega⟩, rfl, ⟨fun _ _ _ => rfl, SEq.ren rfl ?_, fun _ _ _ => rfl, trivial⟩, ⟨OSub.ren rfl ?_, trivial⟩, fun f hf => hf⟩
        · rw [hr4]; simp [rdec]
        · simp [ren, sg, hsp]; omega
        · simp only [renO, b1, b2, b3]
    · refine loop_rounds 1 (round_next tok ?_)
      conv => whnf
      repeat' ((first | refine And.intro (by repeat' first | exact trivial | refine And.intro rfl ?_) (And.intro (by first | exact fun _ h => h | exact fun _ => List.mem_cons_of_mem _ | exact fun _ => List.mem_append_right _) ?_) | (refine And.intro (fun h => ?_) (fun h => ?_) <;> (try simp only [n1, n2, n3, n4, n5, n6] at h) <;> first | (exfalso; omega) | (cases h; done) | skip) | refine And.intro (by omega) ?_ | refine Exists.intro _ (And.intro (by first | exact And.intro rfl rfl | exact Pl.den (by repeat constructor) | with_reducible rfl | exact cast_succ _ | assumption | exact (Int.toNat_of_nonneg (by omega)).symm | rfl) ?_) | refine hD _ _ ?_ | refine hL _ _ ?_ | (intro h; (try simp only [n1, n2, n3, n4, n5, n6] at h); first | (exfalso; omega) | (cases h; done) | skip)) <;> (conv => whnf))
      refine Tri.use (tRefEncode fx none 0 [] (by simp) ⟨fun _ => rfl, fun ad e => by cases e⟩).one [] rfl (args_ren rfl rfl) trivial (fun f hf => by first | exact hf | cases hf | simp_all) (fun u hu => ?_)
      conv => whnf
      repeat' ((first | refine And.intro (by repeat' first | exact trivial | refine And.intro rfl ?_) (And.intro (by first | exact fun _ h => h | exact fun _ => List.mem_cons_of_mem _ | exact fun _ => List.mem_append_right _) ?_) | (refine And.intro (fun h => ?_) (fun h => ?_) <;> (try simp only [n1, n2, n3, n4, n5, n6] at h) <;> first | (exfalso; omega) | (cases h; done) | skip) | refine And.intro (by omega) ?_ | refine Exists.intro _ (And.intro (by first | exact And.intro rfl rfl | exact Pl.den (by repeat constructor) | with_reducible rfl | exact cast_succ _ | assumption | exact (Int.toNat_of_nonneg (by omega)).symm | rfl) ?_) | refine hD _ _ ?_ | refine hL _ _ ?_ | (intro h; (try simp only [n1, n2, n3, n4, n5, n6] at h); first | (exfalso; omega) | (cases h; done) | skip)) <;> (conv => whnf))
      refine Tri.use (tSameRows fx (enc []) s.data.toList _ _ _ _ (show 0 < 9223372036854775808 by omega)) [0,1] rfl (args_ren rfl rfl) ⟨OSub.ren rfl rfl, OSub.ren rfl rfl, trivial⟩ (fun f hf => by first | exact hf | cases hf | simp_all) (fun u hu => ?_)
      conv => whnf
      repeat' ((first | refine And.intro (by repeat' first | exact trivial | refine And.intro rfl ?_) (And.intro (by first | exact fun _ h => h | exact fun _ => List.mem_cons_of_mem _ | exact fun _ => List.mem_append_right _) ?_) | (refine And.intro (fun h => ?_) (fun h => ?_) <;> (try simp only [n1, n2, n3, n4, n5, n6] at h) <;> first | (exfalso; omega) | (cases h; done) | skip) | refine And.intro (by omega) ?_ | refine Exists.intro _ (And.intro (by first | exact And.intro rfl rfl | exact Pl.den (by repeat constructor) | with_reducible rfl | exact cast_succ _ | assumption | exact (Int.toNat_of_nonneg (by omega)).symm | rfl) ?_) | refine hD _ _ ?_ | refine hL _ _ ?_ | (intro h; (try simp only [n1, n2, n3, n4, n5, n6] at h); first | (exfalso; omega) | (cases h; done) | skip)) <;> (conv => whnf))
      · exact ⟨.nil false, ⟨fun h => (by cases h), fun _ b e => by
          have h0 := rcut_enc b
          rw [← e] at h0
          have h1 := rdec_length s.data.toList
          rw [list_size, show s.size / 4 * 3 = 0 by omega] at h1
          rw [List.length_eq_zero_iff.1 h1] at h0
          simp only [List.take_nil] at h0
          subst h0
          exact absurd e.symm h⟩, Ret.mk [] [] (Fold.drop (by simp)) rfl (fun _ _ _ => rfl) trivial (fun _ h => by cases h)⟩
      · exact ⟨.nil true, ⟨fun _ => h.symm, fun h => (by cases h)⟩, Ret.mk [] [] (Fold.drop (by simp)) rfl (fun _ _ _ => rfl) trivial (fun _ h => by cases h)⟩
  | some xs =>
    obtain ⟨hr1, hr2⟩ := hr
    simp only [RdS.inv]
    conv => whnf
    repeat' ((first | refine And.intro (by repeat' first | exact trivial | refine And.intro rfl ?_) (And.intro (by first | exact fun _ h => h | exact fun _ => List.mem_cons_of_mem _ | exact fun _ => List.mem_append_right _) ?_) | (refine And.intro (fun h => ?_) (fun h => ?_) <;> (try simp only [n1, n2, n3, n4, n5, n6] at h) <;> first | (exfalso; omega) | (cases h; done) | skip) | refine And.intro (by omega) ?_ | refine Exists.intro _ (And.intro (by first | exact And.intro rfl rfl | exact Pl.den (by repeat constructor) | with_reducible rfl | exact cast_succ _ | assumption | exact (Int.toNat_of_nonneg (by omega)).symm | rfl) ?_) | refine hD _ _ ?_ | refine hL _ _ ?_ | (intro h; (try simp only [n1, n2, n3, n4, n5, n6] at h); first | (exfalso; omega) | (cases h; done) | skip)) <;> (conv => whnf))
    · refine loop_by tok (α := Nat) (fun j => ⟨[(0, .v (.string s)), (4, .s 0 0 (i / 4 * 3) xs.length), (5, .v (.int .i64 (i : Nat))), (6, .v (.int .i64 (nacc s i j))), (7, .v (.int .i64 (i + j : Nat)))], [(0, .row xs 5)], 1, fx⟩) (fun j => j ≤ 4) (fun j => 4 - j) 0 [0] (by omega) ⟨rfl, ?_, ⟨OSub.ren rfl rfl, trivial⟩, fun f hf => hf⟩ ?_
      · exact ⟨fun _ _ _ => rfl, SEq.ren rfl rfl, fun _ _ _ => rfl, fun _ _ _ => rfl, fun _ _ _ => rfl, trivial⟩
      rintro j hj
      have hna := nacc_lt s i j
      have hnb : nacc s i j < 16777216 := by
        have : (64 : Nat) ^ j ≤ 64 ^ 4 := Nat.pow_le_pow_right (by decide) hj
        omega
      by_cases hj4 : j < 4
      · have hk := val0_lt (sbyte s (i + j))
        conv => whnf
        repeat' ((first | refine And.intro (by repeat' first | exact trivial | refine And.intro rfl ?_) (And.intro (by first | exact fun _ h => h | exact fun _ => List.mem_cons_of_mem _ | exact fun _ => List.mem_append_right _) ?_) | (refine And.intro (fun h => ?_) (fun h => ?_) <;> (try simp only [n1, n2, n3, n4, n5, n6] at h) <;> first | (exfalso; omega) | (cases h; done) | skip) | refine And.intro (by omega) ?_ | refine Exists.intro _ (And.intro (by first | exact And.intro rfl rfl | exact Pl.den (by repeat constructor) | with_reducible rfl | exact cast_succ _ | assumption | exact (Int.toNat_of_nonneg (by omega)).symm | rfl) ?_) | refine hD _ _ ?_ | refine hL _ _ ?_ | (intro h; (try simp only [n1, n2, n3, n4, n5, n6] at h); first | (exfalso; omega) | (cases h; done) | skip)) <;> (conv => whnf))
        by_cases hv : val6 (sbyte s (i + j)) = 64
        · have hv0 : val0 (sbyte s (i + j)) = 0 := by unfold val0; rw [if_pos hv]
          refine Tri.use ((tValue fx (sbyte s (i + j))).one.reval (v' := .k .i64 (-1)) (fun _ => by rw [if_pos hv]; rfl)) [] rfl (args_ren rfl rfl) trivial (fun f hf => by first | exact hf | cases hf | simp_all) (fun u hu => ?_)
          conv => whnf
          repeat' ((first | refine And.intro (by repeat' first | exact trivial | refine And.intro rfl ?_) (And.intro (by first | exact fun _ h => h | exact fun _ => List.mem_cons_of_mem _ | exact fun _ => List.mem_append_right _) ?_) | (refine And.intro (fun h => ?_) (fun h => ?_) <;> (try simp only [n1, n2, n3, n4, n5, n6] at h) <;> first | (exfalso; omega) | (cases h; done) | skip) | refine And.intro (by omega) ?_ | refine Exists.intro _ (And.intro (by first | exact And.intro rfl rfl | exact Pl.den (by repeat constructor) | with_reducible rfl | exact cast_succ _ | assumption | exact (Int.toNat_of_nonneg (by omega)).symm | rfl) ?_) | refine hD _ _ ?_ | refine hL _ _ ?_ | (intro h; (try simp only [n1, n2, n3, n4, n5, n6] at h); first | (exfalso; omega) | (cases h; done) | skip)) <;> (conv => whnf))
          refine ⟨j + 1, [0], ⟨by omega, by omega⟩, rfl, ⟨fun _ _ _ => rfl, SEq.ren rfl rfl, fun _ _ _ => rfl, SEq.eq (congrArg (Value.int .i64) ?_), fun _ _ _ => rfl, trivial⟩, ⟨OSub.ren rfl rfl, trivial⟩, fun f hf => hf⟩
          simp only [nacc, hv0]
          omega
        · have hv0 : val0 (sbyte s (i + j)) = val6 (sbyte s (i + j)) := by unfold val0; rw [if_neg hv]
          refine Tri.use ((tValue fx (sbyte s (i + j))).one.reval (v' := .v (.int .i64 (val0 (sbyte s (i + j))))) (fun _ => by rw [if_neg hv, hv0])) [] rfl (args_ren rfl rfl) trivial (fun f hf => by first | exact hf | cases hf | simp_all) (fun u hu => ?_)
          conv => whnf
          repeat' ((first | refine And.intro (by repeat' first | exact trivial | refine And.intro rfl ?_) (And.intro (by first | exact fun _ h => h | exact fun _ => List.mem_cons_of_mem _ | exact fun _ => List.mem_append_right _) ?_) | (refine And.intro (fun h => ?_) (fun h => ?_) <;> (try simp only [n1, n2, n3, n4, n5, n6] at h) <;> first | (exfalso; omega) | (cases h; done) | skip) | refine And.intro (by omega) ?_ | refine Exists.intro _ (And.intro (by first | exact And.intro rfl rfl | exact Pl.den (by repeat constructor) | with_reducible rfl | exact cast_succ _ | assumption | exact (Int.toNat_of_nonneg (by omega)).symm | rfl) ?_) | refine hD _ _ ?_ | refine hL _ _ ?_ | (intro h; (try simp only [n1, n2, n3, n4, n5, n6] at h); first | (exfalso; omega) | (cases h; done) | skip)) <;> (conv => whnf))
          refine ⟨j + 1, [0], ⟨by omega, by omega⟩, rfl, ⟨fun _ _ _ => rfl, SEq.ren rfl rfl, fun _ _ _ => rfl, SEq.eq (congrArg (Value.int .i64) ?_), fun _ _ _ => rfl, trivial⟩, ⟨OSub.ren rfl rfl, trivial⟩, fun f hf => hf⟩
          simp only [nacc]
          omega
      · obtain rfl : j = 4 := by omega
        conv => whnf
        repeat' ((first | refine And.intro (by repeat' first | exact trivial | refine And.intro rfl ?_) (And.intro (by first | exact fun _ h => h | exact fun _ => List.mem_cons_of_mem _ | exact fun _ => List.mem_append_right _) ?_) | (refine And.intro (fun h => ?_) (fun h => ?_) <;> (try simp only [n1, n2, n3, n4, n5, n6] at h) <;> first | (exfalso; omega) | (cases h; done) | skip) | refine And.intro (by omega) ?_ | refine Exists.intro _ (And.intro (by first | exact And.intro rfl rfl | exact Pl.den (by repeat constructor) | with_reducible rfl | exact cast_succ _ | assumption | exact (Int.toNat_of_nonneg (by omega)).symm | rfl) ?_) | refine hD _ _ ?_ | refine hL _ _ ?_ | (intro h; (try simp only [n1, n2, n3, n4, n5, n6] at h); first | (exfalso; omega) | (cases h; done) | skip)) <;> (conv => whnf))
        refine ⟨⟨by omega, hr2, by omega, by simp [Value.oneCell']⟩, fun m sp hsp => ?_⟩
        conv => whnf
        repeat' ((first | refine And.intro (by repeat' first | exact trivial | refine And.intro rfl ?_) (And.intro (by first | exact fun _ h => h | exact fun _ => List.mem_cons_of_mem _ | exact fun _ => List.mem_append_right _) ?_) | (refine And.intro (fun h => ?_) (fun h => ?_) <;> (try simp only [n1, n2, n3, n4, n5, n6] at h) <;> first | (exfalso; omega) | (cases h; done) | skip) | refine And.intro (by omega) ?_ | refine Exists.intro _ (And.intro (by first | exact And.intro rfl rfl | exact Pl.den (by repeat constructor) | with_reducible rfl | exact cast_succ _ | assumption | exact (Int.toNat_of_nonneg (by omega)).symm | rfl) ?_) | refine hD _ _ ?_ | refine hL _ _ ?_ | (intro h; (try simp only [n1, n2, n3, n4, n5, n6] at h); first | (exfalso; omega) | (cases h; done) | skip)) <;> (conv => whnf))
        obtain ⟨b1, b2, b3⟩ := ofn3 (nacc s i 4)
        have hr4 := rdec_four (s := s) (i := i) (by omega) h4
        have hl1 := rdec_length (s.data.toList.take i)
        rw [List.length_take, list_size, Nat.min_eq_left (by omega)] at hl1
        have e0 : (i + 4) / 4 * 3 = i / 4 * 3 + 3 := by omega
        have e1 : (xs.take (i / 4 * 3 * 1) ++ [bv (UInt8.ofNat (nacc s i 4 / 65536)), bv (UInt8.ofNat (nacc s i 4 / 256 % 256)), bv (UInt8.ofNat (nacc s i 4 % 256))] ++ sp).take ((i + 4) / 4 * 3) = (rdec (s.data.toList.take (i + 4))).map bv := by
          rw [Nat.mul_one, hr1, hr4, List.map_append, e0]
          rw [List.take_left' (by simp [hl1])]
          rfl
        have e2 : (xs.take (i / 4 * 3 * 1) ++ [bv (UInt8.ofNat (nacc s i 4 / 65536)), bv (UInt8.ofNat (nacc s i 4 / 256 % 256)), bv (UInt8.ofNat (nacc s i 4 % 256))] ++ sp).length = i / 4 * 3 + 3 + m := by
          rw [Nat.mul_one, hr1]
          simp [hsp, hl1]
          omega
        refine ⟨⟨i + 4, some (xs.take (i / 4 * 3 * 1) ++ [bv (UInt8.ofNat (nacc s i 4 / 65536)), bv (UInt8.ofNat (nacc s i 4 / 256 % 256)), bv (UInt8.ofNat (nacc s i 4 % 256))] ++ sp)⟩, [2], ⟨⟨by simp only; omega, by simp only; omega, ⟨e1, show (i + 4) / 4 * 3 ≤ _ by rw [e2]; omega⟩⟩, by simp only; omega⟩, rfl, ⟨fun _ _ _ => rfl, SEq.ren rfl ?_, fun _ _ _ => rfl, trivial⟩, ⟨OSub.ren rfl ?_, trivial⟩, fun f hf => hf⟩
        · simp only [ren, e2, e0]
          simp [sg]
        · simp only [renO, b1, b2, b3]
    · obtain rfl : i = s.size := by omega
      have hl1 := rdec_length s.data.toList
      rw [list_size] at hl1
      rw [List.take_of_length_le (l := s.data.toList) (i := s.size) (by rw [list_size]; exact Nat.le_refl _)] at hr1
      generalize hL : s.size / 4 * 3 = L at hr1 hr2 hl1 ⊢
      refine loop_by tok (α := Nat) (fun k => ⟨[(0, .v (.string s)), (4, .s 0 0 (L - k) xs.length), (9, .v (.int .i64 k))], [(0, .row xs 5)], 1, fx⟩)
        (fun k => (k ≤ 2 ∧ k ≤ L) ∧ (1 ≤ k → s.data.toList[s.size - 1]? = some 61) ∧ (k = 2 → s.data.toList[s.size - 2]? = some 61)) (fun k => 2 - k) 0 [0] ⟨⟨by omega, by omega⟩, fun h => by omega, fun h => by omega⟩ ⟨rfl, ⟨fun _ _ _ => rfl, SEq.ren rfl rfl, fun _ _ _ => rfl, trivial⟩, ⟨OSub.ren rfl rfl, trivial⟩, fun f hf => hf⟩ ?_
      rintro k ⟨⟨hk, hkL⟩, hk1, hk2⟩
      conv => whnf
      repeat' ((first | (refine Exists.intro (s.size - 1 - k) (And.intro (show (s.size : Int) - 1 - (k : Int) = ((s.size - 1 - k : Nat) : Int) by omega) ?_)) | refine And.intro (by repeat' first | exact trivial | refine And.intro rfl ?_) (And.intro (by first | exact fun _ h => h | exact fun _ => List.mem_cons_of_mem _ | exact fun _ => List.mem_append_right _) ?_) | (refine And.intro (fun h => ?_) (fun h => ?_) <;> (try simp only [n1, n2, n3, n4, n5, n6] at h) <;> first | (exfalso; omega) | (cases h; done) | skip) | refine And.intro (by omega) ?_ | refine Exists.intro _ (And.intro (by first | exact And.intro rfl rfl | exact Pl.den (by repeat constructor) | with_reducible rfl | exact cast_succ _ | assumption | exact (Int.toNat_of_nonneg (by omega)).symm | rfl) ?_) | refine hD _ _ ?_ | refine hL _ _ ?_ | (intro h; (try simp only [n1, n2, n3, n4, n5, n6] at h); first | (exfalso; omega) | (cases h; done) | skip)) <;> (conv => whnf))
      · have hc := sbyte_get (s := s) (i := s.size - 1 - k) (by omega)
        have h61 : sbyte s (s.size - 1 - k) = 61 := UInt8.toNat_inj.1 (by rw [show (61 : UInt8).toNat = 61 from rfl]; omega)
        rw [h61] at hc
        refine ⟨k + 1, [0], ⟨⟨⟨by omega, by omega⟩, fun _ => ?_, fun h2 => ?_⟩, by omega⟩, rfl, ⟨fun _ _ _ => rfl, SEq.ren rfl ?_, fun _ _ _ => rfl, trivial⟩, ⟨OSub.ren rfl rfl, trivial⟩, fun f hf => hf⟩
        · by_cases hk0 : k = 0
          · subst hk0; exact hc
          · exact hk1 (by omega)
        · obtain rfl : k = 1 := by omega
          exact hc
        · simp only [ren, sg, List.getD_cons_zero]
          congr 1
          omega
      all_goals
        have hcut : rcut s.data.toList (rdec s.data.toList) = k := by
          refine rcut_is hk (by omega) (by rw [list_size]; exact hk1) (by rw [list_size]; exact hk2) ?_
          first
            | exact .inl (by omega)
            | exact .inr (.inl (by omega))
            | (refine .inr (.inr fun e => ?_)
               rw [list_size, sbyte_get (by omega)] at e
               have e2 := Option.some.inj e
               rw [e2] at h
               exact h rfl)
      all_goals (have hto : ((rdec s.data.toList).take (L - k)).length = L - k := by rw [List.length_take, hl1]; omega)
      all_goals refine Tri.lend 0 (xs := xs) (T := 5) (fun b => [.v (.slice (some ⟨b, 0, none⟩) (L - k) xs.length)]) (List.mem_cons_self ..) rowOf.row (fun _ => rfl) fun b => ?_
      all_goals refine Tri.use (tRefEncode _ (some ⟨b, 0, none⟩) xs.length ((rdec s.data.toList).take (L - k)) (by omega) (BytesAt.row (List.mem_cons_self ..) (by rw [hto, List.drop_zero, List.map_take, ← hr1, List.take_take, Nat.min_eq_left (by omega)]))).one [] rfl (fun _ _ _ => by rw [hto]; rfl) trivial (fun f hf => hf) fun u hu => ?_
      all_goals (
        conv => whnf
        refine And.intro rfl ?_
        conv => whnf
        repeat' ((first | refine And.intro (by repeat' first | exact trivial | refine And.intro rfl ?_) (And.intro (by first | exact fun _ h => h | exact fun _ => List.mem_cons_of_mem _ | exact fun _ => List.mem_append_right _) ?_) | (refine And.intro (fun h => ?_) (fun h => ?_) <;> (try simp only [n1, n2, n3, n4, n5, n6] at h) <;> first | (exfalso; omega) | (cases h; done) | skip) | refine And.intro (by omega) ?_ | refine Exists.intro _ (And.intro (by first | exact And.intro rfl rfl | exact Pl.den (by repeat constructor) | with_reducible rfl | exact cast_succ _ | assumption | exact (Int.toNat_of_nonneg (by omega)).symm | rfl) ?_) | refine hD _ _ ?_ | refine hL _ _ ?_ | (intro h; (try simp only [n1, n2, n3, n4, n5, n6] at h); first | (exfalso; omega) | (cases h; done) | skip)) <;> (conv => whnf))
        have hen := enc_length ((rdec s.data.toList).take (L - k))
        refine Tri.use (tSameRows fx (enc ((rdec s.data.toList).take (L - k))) s.data.toList _ _ _ _ (by omega)) [1,2] rfl (args_ren rfl rfl) ⟨OSub.ren rfl rfl, OSub.ren rfl rfl, trivial⟩ (fun f hf => by first | exact hf | cases hf | simp_all) (fun u hu => ?_)
        conv => whnf
        repeat' ((first | refine And.intro (by repeat' first | exact trivial | refine And.intro rfl ?_) (And.intro (by first | exact fun _ h => h | exact fun _ => List.mem_cons_of_mem _ | exact fun _ => List.mem_append_right _) ?_) | (refine And.intro (fun h => ?_) (fun h => ?_) <;> (try simp only [n1, n2, n3, n4, n5, n6] at h) <;> first | (exfalso; omega) | (cases h; done) | skip) | refine And.intro (by omega) ?_ | refine Exists.intro _ (And.intro (by first | exact And.intro rfl rfl | exact Pl.den (by repeat constructor) | with_reducible rfl | exact cast_succ _ | assumption | exact (Int.toNat_of_nonneg (by omega)).symm | rfl) ?_) | refine hD _ _ ?_ | refine hL _ _ ?_ | (intro h; (try simp only [n1, n2, n3, n4, n5, n6] at h); first | (exfalso; omega) | (cases h; done) | skip)) <;> (conv => whnf))
        · exact ⟨.nil false, ⟨fun h => (by cases h), fun _ b e => by
            have h0 := rcut_enc b
            rw [← e, hl1, hcut] at h0
            rw [h0] at h
            exact h e.symm⟩, Ret.mk [] [] (Fold.drop (by simp)) rfl (fun _ _ _ => rfl) trivial (fun _ h => by cases h)⟩
        · exact ⟨.row ((rdec s.data.toList).take (L - k)) xs, ⟨h.symm, by rw [hto, List.map_take, ← hr1, List.take_take, Nat.min_eq_left (by omega)], by omega⟩,
            Ret.mk [0] _ (Fold.refl _) rfl (SEq.ren rfl (by simp only [DecO.v, ren, renL, hto]; rfl)) ⟨OSub.ren rfl rfl, trivial⟩ (fun _ h => by cases h)⟩)
theorem tRefDecode (fx : List Fact) (s : ByteArray) (hs : s.size ≤ 1000000000) : Tri Tryd.prog 98 [.v (.string s)] [] 0 fx (RetE (α := Dc) 0 (Dc.pr s.data.toList) Dc.v (fun _ => []) 0 Dc.f) := (tRefDecode0 fx s hs).dc
end Go.Proofs.YtekgjjanikicnaaDoor.Sx

namespace Go.Proofs.YtekgjjanikicnaaDoor.Sx
open Go Go.RowKit
set_option maxRecDepth 100000
set_option linter.unusedSimpArgs false
set_option linter.unusedVariables false
/-- What a line is read as. -/
structure SgR where
  s : Sg
  ok : Bool
  f : List Fact
structure SgR.pr (fx : List Fact) (l : List UInt8) (x : SgR) : Prop where
  yes : x.ok = true → IsSig l x.s.pl ∧ x.s.Fit (x.f ++ fx)
  no : x.ok = false → ∀ s, ¬ IsSig l s
def SgR.v (x : SgR) : SV := .tup [.v x.s.v, .v (.bool x.ok)]
def nilSg : Sg := ⟨⟨#[]⟩, 0, 0, none, 0, []⟩
theorem five_of {α : Type} : ∀ {l : List α}, l.length = 5 → ∃ a b c d e, l = [a, b, c, d, e]
  | [a, b, c, d, e], _ => ⟨a, b, c, d, e, rfl⟩
theorem parts_le (c : UInt8) : ∀ (l : List UInt8), ∀ p ∈ parts c l, p.length ≤ l.length
  | [], p, hp => by
    obtain rfl := List.mem_singleton.1 (show p ∈ [[]] from hp)
    simp
  | x :: r, p, hp => by
    have ih := parts_le c r
    by_cases h : x = c
    · subst h
      rw [parts_eq] at hp
      rcases List.mem_cons.1 hp with rfl | hp
      · simp
      · have := ih p hp; simp only [List.length_cons]; omega
    · cases e : parts c r with
      | nil => exact absurd e (parts_ne c r)
      | cons q qs =>
        rw [parts_cons h e] at hp
        rw [e] at ih
        rcases List.mem_cons.1 hp with rfl | hp
        · have := ih q (List.mem_cons_self ..); simp only [List.length_cons]; omega
        · have := ih p (List.mem_cons_of_mem _ hp); simp only [List.length_cons]; omega
theorem tSig (fx : List Fact) (hg : gTab ∈ fx) (he : gErr ∈ fx) (hm : gMax ∈ fx) (l : List UInt8) (hl : l.length ≤ 4000) :
    Tri Tryd.prog 96 [.v (strS l)] [] 0 fx (RetE (α := SgR) 0 (SgR.pr fx l) SgR.v (fun _ => []) 0 SgR.f) := by
  have hls := arr_size l
  have T := tSplit fx hm ⟨l.toArray⟩ 32 (by omega)
  have el : (⟨l.toArray⟩ : ByteArray).data.toList = l := rfl
  rw [el] at T
  by_cases h5 : (parts 32 l).length = 5
  · obtain ⟨p0, p1, p2, p3, p4, e⟩ := five_of h5
    rw [e] at T
    have T' : Tri Tryd.prog 94 [.v (strS l), .v (.string ⟨#[32]⟩)] [] 0 fx (Ret 0 (.s 0 0 5 5) [(0, .row [strS p0, strS p1, strS p2, strS p3, strS p4] 9)] 1 []) := T
    refine Tri.of_code tok Tryd.func96 rfl rfl rfl (by decide) rfl (Nat.le_of_ble_eq_true rfl) ?_
    conv => whnf
    repeat' ((first | refine And.intro (by repeat' first | exact trivial | refine And.intro rfl ?_) (And.intro (by first | exact fun _ h => h | exact fun _ => List.mem_cons_of_mem _ | exact fun _ => List.mem_append_right _) ?_) | (refine And.intro (fun h => ?_) (fun h => ?_) <;> (try simp only [n1, n2, n3, n4, n5, n6] at h) <;> first | (exfalso; omega) | (cases h; done) | skip) | refine And.intro (by omega) ?_ | refine Exists.intro _ (And.intro (by first | exact And.intro rfl rfl | exact Pl.den (by repeat constructor) | with_reducible rfl | exact cast_succ _ | assumption | exact (Int.toNat_of_nonneg (by omega)).symm | rfl) ?_) | refine hD _ _ ?_ | refine hL _ _ ?_ | (intro h; (try simp only [n1, n2, n3, n4, n5, n6] at h); first | (exfalso; omega) | (cases h; done) | skip)) <;> (conv => whnf))
    refine Tri.use T'.one [] rfl (args_ren rfl rfl) trivial (fun f hf => by first | exact hf | cases hf | simp_all) (fun u hu => ?_)
    have hsp : ∀ s, IsSig l s → p0 = [115, 105, 103] ∧ p1 = s.name ∧ p2 = [s.kind] ∧ p3 = Lib.decDigits s.num ∧ p4 = enc s.bs := fun s hs => by
      have := e.symm.trans (sig_parts hs)
      simpa using this
    have hpl : ∀ p ∈ parts 32 l, p.length ≤ l.length := parts_le 32 l
    rw [e] at hpl
    have hl3 := hpl p3 (by simp)
    have hl4 := hpl p4 (by simp)
    have hl1 := hpl p1 (by simp)
    have hs2 := arr_size p2
    have hs3 := arr_size p3
    have hs4 := arr_size p4
    conv => whnf
    repeat' ((first | refine And.intro (by repeat' first | exact trivial | refine And.intro rfl ?_) (And.intro (by first | exact fun _ h => h | exact fun _ => List.mem_cons_of_mem _ | exact fun _ => List.mem_append_right _) ?_) | (refine And.intro (fun h => ?_) (fun h => ?_) <;> (try simp only [n1, n2, n3, n4, n5, n6] at h) <;> first | (exfalso; omega) | (cases h; done) | skip) | refine And.intro (by omega) ?_ | refine Exists.intro _ (And.intro (by first | exact And.intro rfl rfl | exact Pl.den (by repeat constructor) | with_reducible rfl | exact cast_succ _ | assumption | exact (Int.toNat_of_nonneg (by omega)).symm | rfl) ?_) | refine hD _ _ ?_ | refine hL _ _ ?_ | (intro h; (try simp only [n1, n2, n3, n4, n5, n6] at h); first | (exfalso; omega) | (cases h; done) | skip)) <;> (conv => whnf))
    · exact ⟨⟨nilSg, false, []⟩, ⟨fun h => (by cases h), fun _ s hs => by rw [(hsp s hs).1] at h; simp at h⟩, Ret.noneS rfl (fun _ _ => rfl) (fun g hg => by cases hg)⟩
    · exact ⟨⟨nilSg, false, []⟩, ⟨fun h => (by cases h), fun _ s hs => by rw [hs2, (hsp s hs).2.2.1] at h; simp at h⟩, Ret.noneS rfl (fun _ _ => rfl) (fun g hg => by cases hg)⟩
    rename_i hp0 _
    obtain ⟨c, hc⟩ : ∃ c, p2 = [c] := List.length_eq_one_iff.1 (by omega)
    subst hc
    have T3 := tNumber fx hg he ⟨p3.toArray⟩ (by omega)
    have el3 : (⟨p3.toArray⟩ : ByteArray).data.toList = p3 := rfl
    rw [el3] at T3
    have T4 := tDecode fx ⟨p4.toArray⟩ (by omega)
    have el4 : (⟨p4.toArray⟩ : ByteArray).data.toList = p4 := rfl
    rw [el4] at T4
    cases hn : numOf p3 with
    | none =>
      have hno : ∀ s, ¬ IsSig l s := fun s hs => by
        have := numOf_dec (u := s.num) (by have := hs.num; omega)
        rw [← (hsp s hs).2.2.2.1, hn] at this
        cases this
      rw [hn] at T3
      refine Tri.use (T3.one) [] rfl (fun _ _ _ => rfl) trivial (fun f hf => by first | exact hf | cases hf) (fun u hu => ?_)
      conv => whnf
      repeat' ((first | refine And.intro (by repeat' first | exact trivial | refine And.intro rfl ?_) (And.intro (by first | exact fun _ h => h | exact fun _ => List.mem_cons_of_mem _ | exact fun _ => List.mem_append_right _) ?_) | (refine And.intro (fun h => ?_) (fun h => ?_) <;> (try simp only [n1, n2, n3, n4, n5, n6] at h) <;> first | (exfalso; omega) | (cases h; done) | skip) | refine And.intro (by omega) ?_ | refine Exists.intro _ (And.intro (by first | exact And.intro rfl rfl | exact Pl.den (by repeat constructor) | with_reducible rfl | exact cast_succ _ | assumption | exact (Int.toNat_of_nonneg (by omega)).symm | rfl) ?_) | refine hD _ _ ?_ | refine hL _ _ ?_ | (intro h; (try simp only [n1, n2, n3, n4, n5, n6] at h); first | (exfalso; omega) | (cases h; done) | skip)) <;> (conv => whnf))
      refine Tri.use (T4) [] rfl (fun _ _ _ => rfl) trivial (fun f hf => by first | exact hf | cases hf) (fun x hx => ?_)
      obtain ⟨A, bs, cap, okd, fs⟩ := x
      conv => whnf
      refine appFK_intro ?_
      conv => whnf
      repeat' ((first | refine And.intro (by repeat' first | exact trivial | refine And.intro rfl ?_) (And.intro (by first | exact fun _ h => h | exact fun _ => List.mem_cons_of_mem _ | exact fun _ => List.mem_append_right _) ?_) | (refine And.intro (fun h => ?_) (fun h => ?_) <;> (try simp only [n1, n2, n3, n4, n5, n6] at h) <;> first | (exfalso; omega) | (cases h; done) | skip) | refine And.intro (by omega) ?_ | refine Exists.intro _ (And.intro (by first | exact And.intro rfl rfl | exact Pl.den (by repeat constructor) | with_reducible rfl | exact cast_succ _ | assumption | exact (Int.toNat_of_nonneg (by omega)).symm | rfl) ?_) | refine hD _ _ ?_ | refine hL _ _ ?_ | (intro h; (try simp only [n1, n2, n3, n4, n5, n6] at h); first | (exfalso; omega) | (cases h; done) | skip)) <;> (conv => whnf))
      refine draw_opaque fun KD hD => ?_
      refine draw_all tok (by kernel_rfl) [.any 0, .any 1, .any 3, .any 4, .any 7, .any 8, .any 9, .load 2, .load 5, .any 6, .any 10, .new 11, .last 12] [12] (by kernel_rfl) rfl rfl (by repeat' (first | exact trivial | refine And.intro rfl ?_)) ?_
      conv => whnf
      repeat' ((first | refine And.intro (by repeat' first | exact trivial | refine And.intro rfl ?_) (And.intro (by first | exact fun _ h => h | exact fun _ => List.mem_cons_of_mem _ | exact fun _ => List.mem_append_right _) ?_) | (refine And.intro (fun h => ?_) (fun h => ?_) <;> (try simp only [n1, n2, n3, n4, n5, n6] at h) <;> first | (exfalso; omega) | (cases h; done) | skip) | refine And.intro (by omega) ?_ | refine Exists.intro _ (And.intro (by first | exact And.intro rfl rfl | exact Pl.den (by repeat constructor) | with_reducible rfl | exact cast_succ _ | assumption | exact (Int.toNat_of_nonneg (by omega)).symm | rfl) ?_) | refine hD _ _ ?_ | refine hL _ _ ?_ | (intro h; (try simp only [n1, n2, n3, n4, n5, n6] at h); first | (exfalso; omega) | (cases h; done) | skip)) <;> (conv => whnf))
      refine draw_opaque fun KD hD => ?_
      refine draw_all tok (by kernel_rfl) [.any 1, .any 2, .any 3, .any 4, .any 5, .any 6, .any 7, .any 8, .any 9, .load 0, .one 10, .one 11, .any 12, .any 13, .any 16, .any 17, .one 14, .one 15, .any 18, .any 19, .last 20, .any 21] [20] (by kernel_rfl) rfl rfl (by repeat' (first | exact trivial | refine And.intro rfl ?_)) ?_
      conv => whnf
      repeat' ((first | refine And.intro (by repeat' first | exact trivial | refine And.intro rfl ?_) (And.intro (by first | exact fun _ h => h | exact fun _ => List.mem_cons_of_mem _ | exact fun _ => List.mem_append_right _) ?_) | (refine And.intro (fun h => ?_) (fun h => ?_) <;> (try simp only [n1, n2, n3, n4, n5, n6] at h) <;> first | (exfalso; omega) | (cases h; done) | skip) | refine And.intro (by omega) ?_ | refine Exists.intro _ (And.intro (by first | exact And.intro rfl rfl | exact Pl.den (by repeat constructor) | with_reducible rfl | exact cast_succ _ | assumption | exact (Int.toNat_of_nonneg (by omega)).symm | rfl) ?_) | refine hD _ _ ?_ | refine hL _ _ ?_ | (intro h; (try simp only [n1, n2, n3, n4, n5, n6] at h); first | (exfalso; omega) | (cases h; done) | skip)) <;> (conv => whnf))
      exact ⟨⟨⟨⟨p1.toArray⟩, c, 0, A, cap, bs⟩, false, fs⟩, ⟨fun h => (by cases h), fun _ => hno⟩, Ret.noneS rfl (fun _ _ => rfl) (fun g hg => List.mem_append_left _ hg)⟩
    | some n =>
      obtain ⟨hn64, hdn⟩ := numOf_some hn
      have ew : IntKind.u32.wrap (n : Int) = ((n % 4294967296 : Nat) : Int) := wrap_u32_nat n
      rw [hn] at T3
      refine Tri.use (T3.one) [] rfl (fun _ _ _ => rfl) trivial (fun f hf => by first | exact hf | cases hf) (fun u hu => ?_)
      conv => whnf
      repeat' ((first | refine And.intro (by repeat' first | exact trivial | refine And.intro rfl ?_) (And.intro (by first | exact fun _ h => h | exact fun _ => List.mem_cons_of_mem _ | exact fun _ => List.mem_append_right _) ?_) | (refine And.intro (fun h => ?_) (fun h => ?_) <;> (try simp only [n1, n2, n3, n4, n5, n6] at h) <;> first | (exfalso; omega) | (cases h; done) | skip) | refine And.intro (by omega) ?_ | refine Exists.intro _ (And.intro (by first | exact And.intro rfl rfl | exact Pl.den (by repeat constructor) | with_reducible rfl | exact cast_succ _ | assumption | exact (Int.toNat_of_nonneg (by omega)).symm | rfl) ?_) | refine hD _ _ ?_ | refine hL _ _ ?_ | (intro h; (try simp only [n1, n2, n3, n4, n5, n6] at h); first | (exfalso; omega) | (cases h; done) | skip)) <;> (conv => whnf))
      refine Tri.use (T4) [] rfl (fun _ _ _ => rfl) trivial (fun f hf => by first | exact hf | cases hf) (fun x hx => ?_)
      obtain ⟨A, bs, cap, okd, fs⟩ := x
      have hxno := hx.no
      have hxyes := hx.yes
      have hxat := hx.at_
      have hxcap := hx.cap
      simp only at hxno hxyes hxat hxcap
      conv => whnf
      refine appFK_intro ?_
      conv => whnf
      repeat' ((first | refine And.intro (by repeat' first | exact trivial | refine And.intro rfl ?_) (And.intro (by first | exact fun _ h => h | exact fun _ => List.mem_cons_of_mem _ | exact fun _ => List.mem_append_right _) ?_) | (refine And.intro (fun h => ?_) (fun h => ?_) <;> (try simp only [n1, n2, n3, n4, n5, n6] at h) <;> first | (exfalso; omega) | (cases h; done) | skip) | refine And.intro (by omega) ?_ | refine Exists.intro _ (And.intro (by first | exact And.intro rfl rfl | exact Pl.den (by repeat constructor) | with_reducible rfl | exact cast_succ _ | assumption | exact (Int.toNat_of_nonneg (by omega)).symm | rfl) ?_) | refine hD _ _ ?_ | refine hL _ _ ?_ | (intro h; (try simp only [n1, n2, n3, n4, n5, n6] at h); first | (exfalso; omega) | (cases h; done) | skip)) <;> (conv => whnf))
      refine draw_opaque fun KD hD => ?_
      refine draw_all tok (by kernel_rfl) [.any 0, .any 1, .any 3, .any 4, .any 7, .any 8, .any 9, .load 2, .load 5, .any 6, .any 10, .new 11, .last 12] [12] (by kernel_rfl) rfl rfl (by repeat' (first | exact trivial | refine And.intro rfl ?_)) ?_
      conv => whnf
      repeat' ((first | refine And.intro (by repeat' first | exact trivial | refine And.intro rfl ?_) (And.intro (by first | exact fun _ h => h | exact fun _ => List.mem_cons_of_mem _ | exact fun _ => List.mem_append_right _) ?_) | (refine And.intro (fun h => ?_) (fun h => ?_) <;> (try simp only [n1, n2, n3, n4, n5, n6] at h) <;> first | (exfalso; omega) | (cases h; done) | skip) | refine And.intro (by omega) ?_ | refine Exists.intro _ (And.intro (by first | exact And.intro rfl rfl | exact Pl.den (by repeat constructor) | with_reducible rfl | exact cast_succ _ | assumption | exact (Int.toNat_of_nonneg (by omega)).symm | rfl) ?_) | refine hD _ _ ?_ | refine hL _ _ ?_ | (intro h; (try simp only [n1, n2, n3, n4, n5, n6] at h); first | (exfalso; omega) | (cases h; done) | skip)) <;> (conv => whnf))
      cases okd with
      | false =>
        have hno : ∀ s, ¬ IsSig l s := fun s hs => (hxno rfl).2 s.bs (hsp s hs).2.2.2.2
        refine draw_opaque fun KD hD => ?_
        refine draw_all tok (by kernel_rfl) [.any 1, .any 2, .any 3, .any 4, .any 5, .any 6, .any 7, .any 8, .any 9, .load 0, .one 10, .one 11, .any 12, .any 13, .any 16, .any 17, .one 14, .one 15, .any 18, .any 19, .last 20, .any 21] [20] (by kernel_rfl) rfl rfl (by repeat' (first | exact trivial | refine And.intro rfl ?_)) ?_
        conv => whnf
        repeat' ((first | refine And.intro (by repeat' first | exact trivial | refine And.intro rfl ?_) (And.intro (by first | exact fun _ h => h | exact fun _ => List.mem_cons_of_mem _ | exact fun _ => List.mem_append_right _) ?_) | (refine And.intro (fun h => ?_) (fun h => ?_) <;> (try simp only [n1, n2, n3, n4, n5, n6] at h) <;> first | (exfalso; omega) | (cases h; done) | skip) | refine And.intro (by omega) ?_ | refine Exists.intro _ (And.intro (by first | exact And.intro rfl rfl | exact Pl.den (by repeat constructor) | with_reducible rfl | exact cast_succ _ | assumption | exact (Int.toNat_of_nonneg (by omega)).symm | rfl) ?_) | refine hD _ _ ?_ | refine hL _ _ ?_ | (intro h; (try simp only [n1, n2, n3, n4, n5, n6] at h); first | (exfalso; omega) | (cases h; done) | skip)) <;> (conv => whnf))
        exact ⟨⟨⟨⟨p1.toArray⟩, c, n % 4294967296, A, cap, bs⟩, false, fs⟩, ⟨fun h => (by cases h), fun _ => hno⟩, Ret.noneS rfl (fun _ _ => by simp only [SgR.v, Sg.v, Sg.cells, den, denL_cons, denL_nil, ew]; rfl) (fun g hg => List.mem_append_left _ hg)⟩
      | true =>
        have hp4 : p4 = enc bs := hxyes rfl
        have hbl : bs.length ≤ 4000 := by have := enc_length bs; rw [← hp4] at this; omega
        have hfit : Sg.Fit (fs ++ fx) ⟨⟨p1.toArray⟩, c, n % 4294967296, A, cap, bs⟩ := ⟨by simp only [arr_size]; omega, Nat.mod_lt _ (by omega), hxat.mono fun f hf => List.mem_append_left _ hf, hxcap, by simp only; omega⟩
        refine draw_opaque fun KD hD => ?_
        refine draw_all tok (by kernel_rfl) [.any 1, .any 2, .any 3, .any 4, .any 5, .any 6, .any 7, .any 8, .any 9, .load 0, .one 10, .one 11, .any 12, .any 13, .any 16, .any 17, .one 14, .one 15, .any 18, .any 19, .last 20, .any 21] [20] (by kernel_rfl) rfl rfl (by repeat' (first | exact trivial | refine And.intro rfl ?_)) ?_
        conv => whnf
        refine And.intro (fun hlt => ?_) (fun hlt => ?_)
        · have hlt2 : n < 4294967296 := by have := of_decide_eq_true hlt; omega
          clear hlt
          conv => whnf
          repeat' ((first | refine And.intro (by repeat' first | exact trivial | refine And.intro rfl ?_) (And.intro (by first | exact fun _ h => h | exact fun _ => List.mem_cons_of_mem _ | exact fun _ => List.mem_append_right _) ?_) | (refine And.intro (fun h => ?_) (fun h => ?_) <;> (try simp only [n1, n2, n3, n4, n5, n6] at h) <;> first | (exfalso; omega) | (cases h; done) | skip) | refine And.intro (by omega) ?_ | refine Exists.intro _ (And.intro (by first | exact And.intro rfl rfl | exact Pl.den (by repeat constructor) | with_reducible rfl | exact cast_succ _ | assumption | exact (Int.toNat_of_nonneg (by omega)).symm | rfl) ?_) | refine hD _ _ ?_ | refine hL _ _ ?_ | (intro h; (try simp only [n1, n2, n3, n4, n5, n6] at h); first | (exfalso; omega) | (cases h; done) | skip)) <;> (conv => whnf))
          have hun : ∀ s, IsSig l s → s = Sg.pl ⟨⟨p1.toArray⟩, c, n % 4294967296, A, cap, bs⟩ := fun s hs => by
            obtain ⟨_, q1, q2, q3, q4⟩ := hsp s hs
            have e1 := dec_inj (by have := hs.num; omega) hn64 (q3.symm.trans hdn.symm)
            have e2 := enc_inj (q4.symm.trans hp4)
            obtain ⟨nm, kd, nu, b⟩ := s
            simp only at q1 q2 e1 e2
            simp only [Sg.pl, Sp.mk.injEq]
            exact ⟨q1.symm, (List.cons.inj q2).1.symm, by omega, e2⟩
          have h10 : (⟨#[10]⟩ : ByteArray).size = 1 := rfl
          have e10 : (⟨#[10]⟩ : ByteArray) = ⟨([10] : List UInt8).toArray⟩ := rfl
          refine Tri.use ((tFormed (fs ++ fx) ⟨⟨p1.toArray⟩, c, n % 4294967296, A, cap, bs⟩ hfit).one) [] rfl (fun _ _ _ => by simp only [denL_cons, denL_nil, den, ew]; try rfl) trivial (fun f hf => by first | exact hf | cases hf) (fun v hv => ?_)
          conv => whnf
          repeat' ((first | refine And.intro (by repeat' first | exact trivial | refine And.intro rfl ?_) (And.intro (by first | exact fun _ h => h | exact fun _ => List.mem_cons_of_mem _ | exact fun _ => List.mem_append_right _) ?_) | (refine And.intro (fun h => ?_) (fun h => ?_) <;> (try simp only [n1, n2, n3, n4, n5, n6] at h) <;> first | (exfalso; omega) | (cases h; done) | skip) | refine And.intro (by omega) ?_ | refine Exists.intro _ (And.intro (by first | exact And.intro rfl rfl | exact Pl.den (by repeat constructor) | with_reducible rfl | exact cast_succ _ | assumption | exact (Int.toNat_of_nonneg (by omega)).symm | rfl) ?_) | refine hD _ _ ?_ | refine hL _ _ ?_ | (intro h; (try simp only [n1, n2, n3, n4, n5, n6] at h); first | (exfalso; omega) | (cases h; done) | skip)) <;> (conv => whnf))
          · have hok : Sg.ok ⟨⟨p1.toArray⟩, c, n % 4294967296, A, cap, bs⟩ = true := h
            refine Tri.use ((tLine (fs ++ fx) (List.mem_append_right _ hg) ⟨⟨p1.toArray⟩, c, n % 4294967296, A, cap, bs⟩ hfit hok).one) [] rfl (fun _ _ _ => by simp only [denL_cons, denL_nil, den, ew]; try rfl) trivial (fun f hf => by first | exact hf | cases hf) (fun v hv => ?_)
            conv => whnf
            repeat' ((first | (refine And.intro (by rw [hls, h10]; omega) ?_) | refine And.intro (by repeat' first | exact trivial | refine And.intro rfl ?_) (And.intro (by first | exact fun _ h => h | exact fun _ => List.mem_cons_of_mem _ | exact fun _ => List.mem_append_right _) ?_) | (refine And.intro (fun h => ?_) (fun h => ?_) <;> (try simp only [n1, n2, n3, n4, n5, n6] at h) <;> first | (exfalso; omega) | (cases h; done) | skip) | refine And.intro (by omega) ?_ | refine Exists.intro _ (And.intro (by first | exact And.intro rfl rfl | exact Pl.den (by repeat constructor) | with_reducible rfl | exact cast_succ _ | assumption | exact (Int.toNat_of_nonneg (by omega)).symm | rfl) ?_) | refine hD _ _ ?_ | refine hL _ _ ?_ | (intro h; (try simp only [n1, n2, n3, n4, n5, n6] at h); first | (exfalso; omega) | (cases h; done) | skip)) <;> (conv => whnf))
            have el10 : ((⟨l.toArray⟩ : ByteArray) ++ ⟨#[10]⟩).data.toList = l ++ [10] := by rw [app_list]
            refine ⟨⟨⟨⟨p1.toArray⟩, c, n % 4294967296, A, cap, bs⟩, (Sg.line ⟨⟨p1.toArray⟩, c, n % 4294967296, A, cap, bs⟩ == l ++ [10]), fs⟩, ⟨fun h => ⟨⟨hok, Nat.mod_lt _ (by omega), beq_iff_eq.1 h⟩, hfit⟩, fun h s hs => ?_⟩, Ret.noneS rfl (fun _ _ => by simp only [SgR.v, Sg.v, Sg.cells, den, denL_cons, denL_nil, ew, el10]; rfl) (fun g hg => List.mem_append_left _ hg)⟩
            have e1 := hun s hs
            have e2 := (ok_pl (s := s.sg) (t := ⟨⟨p1.toArray⟩, c, n % 4294967296, A, cap, bs⟩) (by rw [Sp.pl]; exact e1)).2
            have e3 := hs.line
            rw [e2] at e3
            simp only [e3, beq_self_eq_true] at h
            cases h
          · refine ⟨⟨⟨⟨p1.toArray⟩, c, n % 4294967296, A, cap, bs⟩, false, fs⟩, ⟨fun h => (by cases h), fun _ s hs => ?_⟩, Ret.noneS rfl (fun _ _ => by simp only [SgR.v, Sg.v, Sg.cells, den, denL_cons, denL_nil, ew]; rfl) (fun g hg => List.mem_append_left _ hg)⟩
            have e1 := hun s hs
            have e2 := (ok_pl (s := s.sg) (t := ⟨⟨p1.toArray⟩, c, n % 4294967296, A, cap, bs⟩) (by rw [Sp.pl]; exact e1)).1
            rw [hs.ok, h] at e2
            cases e2
        · have hlt2 : ¬ n < 4294967296 := by have := of_decide_eq_false hlt; omega
          clear hlt
          conv => whnf
          repeat' ((first | refine And.intro (by repeat' first | exact trivial | refine And.intro rfl ?_) (And.intro (by first | exact fun _ h => h | exact fun _ => List.mem_cons_of_mem _ | exact fun _ => List.mem_append_right _) ?_) | (refine And.intro (fun h => ?_) (fun h => ?_) <;> (try simp only [n1, n2, n3, n4, n5, n6] at h) <;> first | (exfalso; omega) | (cases h; done) | skip) | refine And.intro (by omega) ?_ | refine Exists.intro _ (And.intro (by first | exact And.intro rfl rfl | exact Pl.den (by repeat constructor) | with_reducible rfl | exact cast_succ _ | assumption | exact (Int.toNat_of_nonneg (by omega)).symm | rfl) ?_) | refine hD _ _ ?_ | refine hL _ _ ?_ | (intro h; (try simp only [n1, n2, n3, n4, n5, n6] at h); first | (exfalso; omega) | (cases h; done) | skip)) <;> (conv => whnf))
          refine ⟨⟨⟨⟨p1.toArray⟩, c, n % 4294967296, A, cap, bs⟩, false, fs⟩, ⟨fun h => (by cases h), fun _ s hs => ?_⟩, Ret.noneS rfl (fun _ _ => by simp only [SgR.v, Sg.v, Sg.cells, den, denL_cons, denL_nil, ew]; rfl) (fun g hg => List.mem_append_left _ hg)⟩
          have e1 := dec_inj (by have := hs.num; omega) hn64 ((hsp s hs).2.2.2.1.symm.trans hdn.symm)
          have := hs.num
          omega

  · have hno : ∀ s, ¬ IsSig l s := fun s hs => h5 (by rw [sig_parts hs]; rfl)
    refine Tri.of_code tok Tryd.func96 rfl rfl rfl (by decide) rfl (Nat.le_of_ble_eq_true rfl) ?_
    conv => whnf
    repeat' ((first | refine And.intro (by repeat' first | exact trivial | refine And.intro rfl ?_) (And.intro (by first | exact fun _ h => h | exact fun _ => List.mem_cons_of_mem _ | exact fun _ => List.mem_append_right _) ?_) | (refine And.intro (fun h => ?_) (fun h => ?_) <;> (try simp only [n1, n2, n3, n4, n5, n6] at h) <;> first | (exfalso; omega) | (cases h; done) | skip) | refine And.intro (by omega) ?_ | refine Exists.intro _ (And.intro (by first | exact And.intro rfl rfl | exact Pl.den (by repeat constructor) | with_reducible rfl | exact cast_succ _ | assumption | exact (Int.toNat_of_nonneg (by omega)).symm | rfl) ?_) | refine hD _ _ ?_ | refine hL _ _ ?_ | (intro h; (try simp only [n1, n2, n3, n4, n5, n6] at h); first | (exfalso; omega) | (cases h; done) | skip)) <;> (conv => whnf))
    refine Tri.use T.one [] rfl (args_ren rfl rfl) trivial (fun f hf => by first | exact hf | cases hf | simp_all) (fun u hu => ?_)
    conv => whnf
    repeat' ((first | refine And.intro (by repeat' first | exact trivial | refine And.intro rfl ?_) (And.intro (by first | exact fun _ h => h | exact fun _ => List.mem_cons_of_mem _ | exact fun _ => List.mem_append_right _) ?_) | (refine And.intro (fun h => ?_) (fun h => ?_) <;> (try simp only [n1, n2, n3, n4, n5, n6] at h) <;> first | (exfalso; omega) | (cases h; done) | skip) | refine And.intro (by omega) ?_ | refine Exists.intro _ (And.intro (by first | exact And.intro rfl rfl | exact Pl.den (by repeat constructor) | with_reducible rfl | exact cast_succ _ | assumption | exact (Int.toNat_of_nonneg (by omega)).symm | rfl) ?_) | refine hD _ _ ?_ | refine hL _ _ ?_ | (intro h; (try simp only [n1, n2, n3, n4, n5, n6] at h); first | (exfalso; omega) | (cases h; done) | skip)) <;> (conv => whnf))
    exact ⟨⟨nilSg, false, []⟩, ⟨fun h => (by cases h), fun _ => hno⟩, Ret.noneS rfl (fun _ _ => rfl) (fun g hg => by cases hg)⟩
end Go.Proofs.YtekgjjanikicnaaDoor.Sx

namespace Go.Proofs.YtekgjjanikicnaaDoor.Sx
open Go Go.RowKit
set_option maxRecDepth 100000
set_option linter.unusedSimpArgs false
set_option linter.unusedVariables false
/-- What a text is read as. -/
structure NtR where
  d : Hd
  l : List Sg
  A : Option Addr
  cap : Nat
  e : Nat
  f : List Fact
def hd0 : Hd := ⟨⟨#[]⟩, 0, List.replicate 32 0⟩
structure NtR.pr (fx : List Fact) (S : List UInt8) (x : NtR) : Prop where
  yes : x.e = 0 → (∃ p : Hp, IsNote S p (x.l.map Sg.pl) ∧ x.d = p.hd) ∧ SgsAt (x.f ++ fx) x.A x.l
  no : x.e ≠ 0 → x.d = hd0 ∧ x.l = [] ∧ x.A = none ∧ x.e = (if 4000 < S.length then 4 else 2) ∧ ∀ p m, ¬ IsNote S p m
def NtR.v (x : NtR) : SV := .tup [.v x.d.v, .v (.slice x.A x.l.length x.cap), .v (.int .i64 (x.e : Nat))]
/-- The same, with a row of its own. -/
structure NtO where
  d : Hd
  l : List Sg
  row : Option (Nat × List Value)
  e : Nat
  f : List Fact
structure NtO.pr (fx : List Fact) (S : List UInt8) (x : NtO) : Prop where
  yes : x.e = 0 → ∃ p : Hp, IsNote S p (x.l.map Sg.pl) ∧ x.d = p.hd
  fit : ∀ s ∈ x.l, s.Fit (x.f ++ fx)
  row : match x.row with
    | none => x.l = []
    | some (c, xs) => xs.take (x.l.length * 4) = sgRow x.l ∧ x.l.length ≤ c
  no : x.e ≠ 0 → x.d = hd0 ∧ x.l = [] ∧ x.row = none ∧ x.e = (if 4000 < S.length then 4 else 2) ∧ ∀ p m, ¬ IsNote S p m
def NtO.v (x : NtO) : SV := match x.row with
  | none => .tup [.v x.d.v, .v (.slice none 0 0), .v (.int .i64 (x.e : Nat))]
  | some (c, xs) => .tup [.v x.d.v, .s 0 0 x.l.length c, .v (.int .i64 (x.e : Nat))]
def NtO.h (x : NtO) : List (Nat × SObj) := match x.row with
  | none => []
  | some (c, xs) => [(0, .row xs 108)]
def nonote (e : Nat) : NtO := ⟨hd0, [], none, e, []⟩
theorem nonote_pr {fx : List Fact} {S : List UInt8} {e : Nat} (h : e = (if 4000 < S.length then 4 else 2)) (hno : ∀ p m, ¬ IsNote S p m) : NtO.pr fx S (nonote e) :=
  ⟨(fun h0 => by simp only [nonote] at h0; rw [h] at h0; split at h0 <;> cases h0), (fun s hs => by cases hs), rfl, fun _ => ⟨rfl, rfl, rfl, h, hno⟩⟩
theorem len32 {α : Type} : ∀ {l : List α}, l.length = 32 → ∃ b0 b1 b2 b3 b4 b5 b6 b7 b8 b9 b10 b11 b12 b13 b14 b15 b16 b17 b18 b19 b20 b21 b22 b23 b24 b25 b26 b27 b28 b29 b30 b31, l = [b0, b1, b2, b3, b4, b5, b6, b7, b8, b9, b10, b11, b12, b13, b14, b15, b16, b17, b18, b19, b20, b21, b22, b23, b24, b25, b26, b27, b28, b29, b30, b31]
  | [b0, b1, b2, b3, b4, b5, b6, b7, b8, b9, b10, b11, b12, b13, b14, b15, b16, b17, b18, b19, b20, b21, b22, b23, b24, b25, b26, b27, b28, b29, b30, b31], _ => ⟨b0, b1, b2, b3, b4, b5, b6, b7, b8, b9, b10, b11, b12, b13, b14, b15, b16, b17, b18, b19, b20, b21, b22, b23, b24, b25, b26, b27, b28, b29, b30, b31, rfl⟩
theorem glue_lines : ∀ (l : List (List UInt8)), glue 10 (l ++ [[]]) = l.flatMap (· ++ [10])
  | [] => rfl
  | p :: ps => by
    have ih := glue_lines ps
    cases ps with
    | nil => simp [glue]
    | cons q qs =>
      rw [List.cons_append, List.cons_append] at *
      rw [glue, ← List.cons_append]
      rw [List.cons_append, ih]
      simp
structure RdI where
  i : Nat
  row : Option (Nat × List Value)
  l : List Sg
  f : List Fact
def zc52 : List SV := [SV.v (Value.string ⟨#[]⟩), .k .i64 0] ++ List.replicate 32 (.k .u8 0)
def RdI.sl (m : Nat) (x : RdI) (y : SV) : List (Nat × SV) := [(2, .p 0 0), (10, .p 2 0), (11, y), (96, .s 1 4 m (m + 1)), (97, .v (.int .i64 m)), (98, .v (.int .i64 x.i))]
def RdI.inv (q : List Value) (d : Hd) (m : Nat) (fx : List Fact) (x : RdI) : SS := match x.row with
  | none => ⟨x.sl m (.v (.slice none 0 0)), [(0, .cells zc52 52), (1, .row q 9), (2, .row d.cells 52)], 3, x.f ++ fx⟩
  | some (c, xs) => ⟨x.sl m (.s 3 0 x.i c), [(0, .cells zc52 52), (1, .row q 9), (2, .row d.cells 52), (3, .row xs 108)], 4, x.f ++ fx⟩
structure RdI.Pr (mid : List (List UInt8)) (fx : List Fact) (x : RdI) : Prop where
  i : x.i ≤ mid.length
  l : x.l.length = x.i
  sig : ∀ (j : Nat) (p : List UInt8) (s : Sg), mid[j]? = some p → x.l[j]? = some s → IsSig p s.pl
  fit : ∀ s ∈ x.l, s.Fit (x.f ++ fx)
  row : match x.row with
    | none => x.i = 0
    | some (c, xs) => xs.take (x.i * 4) = sgRow x.l ∧ c * 4 = xs.length ∧ x.i ≤ c
theorem retN {v y : SV} {m : Nat} {h : List (Nat × SObj)} {f : List Fact} (hv : ∀ ρ ρ'', den ρ'' v = den ρ y) : Ret 0 v [] 1 [] y h m f :=
  Ret.mk [] [] (Fold.drop (by simp)) rfl (fun ρ ρ'' _ => hv ρ ρ'') trivial (fun g hg => by cases hg)
theorem more_of {α : Type} : ∀ {l : List α}, 5 ≤ l.length → ∃ a b c d mid z, l = a :: b :: c :: d :: (mid ++ [z])
  | a :: b :: c :: d :: x :: r, _ => ⟨a, b, c, d, (x :: r).dropLast, (x :: r).getLast (by simp), by rw [List.dropLast_concat_getLast]⟩
theorem lines_of : ∀ {mid : List (List UInt8)} {l : List Sg}, l.length = mid.length → (∀ (j : Nat) (q : List UInt8) (t : Sg), mid[j]? = some q → l[j]? = some t → IsSig q t.pl) →
    ((l.map Sg.pl).map Sp.sg).flatMap Sg.line = mid.flatMap (· ++ [10])
  | [], [], _, _ => rfl
  | [], t :: r, h, _ => by simp at h
  | q :: u, [], h, _ => by simp at h
  | q :: u, t :: r, h, hs => by
    have h1 := hs 0 q t rfl rfl
    have ih := lines_of (mid := u) (l := r) (by simpa using h) fun j a b e1 e2 => hs (j + 1) a b (by simpa using e1) (by simpa using e2)
    simp only [List.map_cons, List.flatMap_cons]
    rw [ih, h1.line]
theorem note_of {S : List UInt8} {P : Hp} {mid : List (List UInt8)} {l : List Sg} (e : parts 10 S = P.org :: Lib.decDigits P.size :: enc P.root :: [] :: (mid ++ [[]])) (h32 : P.root.length = 32) (hname : nameOk P.org = true) (hn : P.size < 2147483648) (hl : l.length = mid.length) (hfew : mid.length ≤ 8)
    (hs : ∀ (j : Nat) (q : List UInt8) (t : Sg), mid[j]? = some q → l[j]? = some t → IsSig q t.pl) : IsNote S P (l.map Sg.pl) := by
  refine ⟨?_, h32, fun x hx => ?_, by rw [List.length_map, hl]; exact hfew, ?_⟩
  · unfold Hd.ok
    rw [Bool.and_eq_true]
    exact ⟨hname, decide_eq_true ⟨by simp only [Hp.hd]; omega, by simp only [Hp.hd]; omega⟩⟩
  · obtain ⟨t, ht, rfl⟩ := List.mem_map.1 hx
    obtain ⟨j, hj⟩ := List.getElem?_of_mem ht
    have hlt := (List.getElem?_eq_some_iff.1 hj).1
    have h1 := hs j mid[j] t (List.getElem?_eq_getElem (by omega)) hj
    exact ⟨h1.ok, h1.num⟩
  · have h1 := glue_parts 10 S
    rw [e] at h1
    have h2 := glue_lines mid
    have h3 : glue 10 (P.org :: Lib.decDigits P.size :: enc P.root :: [] :: (mid ++ [[]])) = P.org ++ 10 :: (Lib.decDigits P.size ++ 10 :: (enc P.root ++ 10 :: ([] ++ 10 :: glue 10 (mid ++ [[]])))) := by
      cases hm : mid ++ [[]] with
      | nil => simp at hm
      | cons a b => rfl
    rw [h3, h2, ← lines_of hl hs] at h1
    rw [← h1]
    simp [noteL, Hd.text, Hp.hd]
set_option maxHeartbeats 4000000 in
theorem tRead0 (fx : List Fact) (hg : gTab ∈ fx) (he : gErr ∈ fx) (hm : gMax ∈ fx) (S : List UInt8) (hS : S.length ≤ 9223372036854775807) :
    Tri Tryd.prog 53 [.v (strS S)] [] 0 fx (RetE (α := NtO) 0 (NtO.pr fx S) NtO.v NtO.h 1 NtO.f) := by
  have hSs := arr_size S
  by_cases h4 : 4000 < S.length
  · have hno : ∀ p m, ¬ IsNote S p m := fun p m h => by have := h.len; omega
    refine Tri.of_code tok Tryd.func53 rfl rfl rfl (by decide) rfl (Nat.le_of_ble_eq_true rfl) ?_
    conv => whnf
    repeat' ((first | refine And.intro (by repeat' first | exact trivial | refine And.intro rfl ?_) (And.intro (by first | exact fun _ h => h | exact fun _ => List.mem_cons_of_mem _ | exact fun _ => List.mem_append_right _) ?_) | (refine And.intro (fun h => ?_) (fun h => ?_) <;> (try simp only [n1, n2, n3, n4, n5, n6] at h) <;> first | (exfalso; omega) | (cases h; done) | skip) | refine And.intro (by omega) ?_ | refine Exists.intro _ (And.intro (by first | exact And.intro rfl rfl | exact Pl.den (by repeat constructor) | with_reducible rfl | exact cast_succ _ | assumption | exact (Int.toNat_of_nonneg (by omega)).symm | rfl) ?_) | refine hD _ _ ?_ | refine hL _ _ ?_ | (intro h; (try simp only [n1, n2, n3, n4, n5, n6] at h); first | (exfalso; omega) | (cases h; done) | skip)) <;> (conv => whnf))
    exact ⟨nonote 4, nonote_pr (by rw [if_pos h4]) hno, retN fun _ _ => rfl⟩
  have T := tSplit fx hm ⟨S.toArray⟩ 10 (by omega)
  have el : (⟨S.toArray⟩ : ByteArray).data.toList = S := rfl
  rw [el] at T
  have bad : (∀ p m, ¬ IsNote S p m) → NtO.pr fx S (nonote 2) := fun hno => nonote_pr (by rw [if_neg h4]) hno
  by_cases hn : 5 ≤ (parts 10 S).length ∧ (parts 10 S).length ≤ 13
  · obtain ⟨q0, q1, q2, q3, mid, z, e⟩ := more_of hn.1
    have hpl := parts_le 10 S
    rw [e] at hpl T hn
    have hl : (q0 :: q1 :: q2 :: q3 :: (mid ++ [z])).length = mid.length + 5 := by simp
    have hz : (bsV (q0 :: q1 :: q2 :: q3 :: (mid ++ [z])))[mid.length + 4]? = some (strS z) := by
      simp [bsV]
    have hmid : ∀ i x, mid[i]? = some x → (bsV (q0 :: q1 :: q2 :: q3 :: (mid ++ [z])))[i + 4]? = some (strS x) := fun i x hx => by
      have hlt := (List.getElem?_eq_some_iff.1 hx).1
      simp only [bsV, List.map_cons, List.getElem?_cons_succ, List.map_append]
      rw [List.getElem?_append_left (by simpa using hlt), List.getElem?_map, hx]; rfl
    rw [hl] at T hn
    refine Tri.of_code tok Tryd.func53 rfl rfl rfl (by decide) rfl (Nat.le_of_ble_eq_true rfl) ?_
    conv => whnf
    repeat' ((first | refine And.intro (by repeat' first | exact trivial | refine And.intro rfl ?_) (And.intro (by first | exact fun _ h => h | exact fun _ => List.mem_cons_of_mem _ | exact fun _ => List.mem_append_right _) ?_) | (refine And.intro (fun h => ?_) (fun h => ?_) <;> (try simp only [n1, n2, n3, n4, n5, n6] at h) <;> first | (exfalso; omega) | (cases h; done) | skip) | refine And.intro (by omega) ?_ | refine Exists.intro _ (And.intro (by first | exact And.intro rfl rfl | exact Pl.den (by repeat constructor) | with_reducible rfl | exact cast_succ _ | assumption | exact (Int.toNat_of_nonneg (by omega)).symm | rfl) ?_) | refine hD _ _ ?_ | refine hL _ _ ?_ | (intro h; (try simp only [n1, n2, n3, n4, n5, n6] at h); first | (exfalso; omega) | (cases h; done) | skip)) <;> (conv => whnf))
    refine Tri.use T.one [] rfl (args_ren rfl rfl) trivial (fun f hf => by first | exact hf | cases hf | simp_all) (fun u hu => ?_)
    conv => whnf
    repeat' ((first | refine And.intro (by repeat' first | exact trivial | refine And.intro rfl ?_) (And.intro (by first | exact fun _ h => h | exact fun _ => List.mem_cons_of_mem _ | exact fun _ => List.mem_append_right _) ?_) | (refine And.intro (fun h => ?_) (fun h => ?_) <;> (try simp only [n1, n2, n3, n4, n5, n6] at h) <;> first | (exfalso; omega) | (cases h; done) | skip) | refine And.intro (by omega) ?_ | refine Exists.intro _ (And.intro (by first | exact And.intro rfl rfl | exact Pl.den (by repeat constructor) | with_reducible rfl | exact cast_succ _ | assumption | exact (Int.toNat_of_nonneg (by omega)).symm | rfl) ?_) | refine hD _ _ ?_ | refine hL _ _ ?_ | (intro h; (try simp only [n1, n2, n3, n4, n5, n6] at h); first | (exfalso; omega) | (cases h; done) | skip)) <;> (conv => whnf))
    have hsp : ∀ p m, IsNote S p m → q0 = p.org ∧ q1 = Lib.decDigits p.size ∧ q2 = enc p.root ∧ q3 = [] ∧ mid = m.map Sp.bare ∧ z = [] := fun p m h => by
      have := e.symm.trans (note_parts h)
      simp only [List.cons.injEq] at this
      obtain ⟨k0, k1, k2, k3, k4⟩ := this
      obtain ⟨k5, k6⟩ := List.append_inj' k4 rfl
      exact ⟨k0, k1, k2, k3, k5, (List.cons.inj k6).1⟩
    have hl0 := hpl q0 (by simp)
    have hl1 := hpl q1 (by simp)
    have hl2 := hpl q2 (by simp)
    have hs0 := arr_size q0
    have hs1 := arr_size q1
    have hs2 := arr_size q2
    have eix : 0 + (((mid.length + 5 : Nat) : Int) - 1).toNat * 1 = mid.length + 4 := by omega
    rw [eix]
    refine ⟨strS z, hz, ?_⟩
    conv => whnf
    repeat' ((first | refine And.intro (by repeat' first | exact trivial | refine And.intro rfl ?_) (And.intro (by first | exact fun _ h => h | exact fun _ => List.mem_cons_of_mem _ | exact fun _ => List.mem_append_right _) ?_) | (refine And.intro (fun h => ?_) (fun h => ?_) <;> (try simp only [n1, n2, n3, n4, n5, n6] at h) <;> first | (exfalso; omega) | (cases h; done) | skip) | refine And.intro (by omega) ?_ | refine Exists.intro _ (And.intro (by first | exact And.intro rfl rfl | exact Pl.den (by repeat constructor) | with_reducible rfl | exact cast_succ _ | assumption | exact (Int.toNat_of_nonneg (by omega)).symm | rfl) ?_) | refine hD _ _ ?_ | refine hL _ _ ?_ | (intro h; (try simp only [n1, n2, n3, n4, n5, n6] at h); first | (exfalso; omega) | (cases h; done) | skip)) <;> (conv => whnf))
    · exact ⟨nonote 2, bad fun p m k => by rw [(hsp p m k).2.2.2.2.2] at h; simp at h, retN fun _ _ => rfl⟩
    · exact ⟨nonote 2, bad fun p m k => by rw [(hsp p m k).2.2.2.1] at h; simp at h, retN fun _ _ => rfl⟩
    have hq3 : q3 = [] := by simpa using h
    rename_i hzz
    have hz0 : z = [] := by simpa using hzz
    have T3 := tNumber fx hg he ⟨q1.toArray⟩ (by omega)
    have el3 : (⟨q1.toArray⟩ : ByteArray).data.toList = q1 := rfl
    rw [el3] at T3
    have T4 := tDecode fx ⟨q2.toArray⟩ (by omega)
    have el4 : (⟨q2.toArray⟩ : ByteArray).data.toList = q2 := rfl
    rw [el4] at T4
    cases hnm : numOf q1 with
    | none =>
      have hno : ∀ p m, ¬ IsNote S p m := fun p m k => by
        have h3 := k.ok
        unfold Hd.ok at h3
        rw [Bool.and_eq_true] at h3
        have h4 : (0 : Int) ≤ (p.size : Int) ∧ (p.size : Int) < 2147483648 := of_decide_eq_true h3.2
        have := numOf_dec (u := p.size) (by omega)
        rw [← (hsp p m k).2.1, hnm] at this
        cases this
      rw [hnm] at T3
      refine Tri.use (T3.one) [] rfl (fun _ _ _ => rfl) trivial (fun f hf => by first | exact hf | cases hf) (fun u hu => ?_)
      conv => whnf
      repeat' ((first | refine And.intro (by repeat' first | exact trivial | refine And.intro rfl ?_) (And.intro (by first | exact fun _ h => h | exact fun _ => List.mem_cons_of_mem _ | exact fun _ => List.mem_append_right _) ?_) | (refine And.intro (fun h => ?_) (fun h => ?_) <;> (try simp only [n1, n2, n3, n4, n5, n6] at h) <;> first | (exfalso; omega) | (cases h; done) | skip) | refine And.intro (by omega) ?_ | refine Exists.intro _ (And.intro (by first | exact And.intro rfl rfl | exact Pl.den (by repeat constructor) | with_reducible rfl | exact cast_succ _ | assumption | exact (Int.toNat_of_nonneg (by omega)).symm | rfl) ?_) | refine hD _ _ ?_ | refine hL _ _ ?_ | (intro h; (try simp only [n1, n2, n3, n4, n5, n6] at h); first | (exfalso; omega) | (cases h; done) | skip)) <;> (conv => whnf))
      refine Tri.use (T4) [] rfl (fun _ _ _ => rfl) trivial (fun f hf => by first | exact hf | cases hf) (fun x hx => ?_)
      obtain ⟨A, bs, cap, okd, fs⟩ := x
      conv => whnf
      refine appFK_intro ?_
      conv => whnf
      repeat' ((first | refine And.intro (by repeat' first | exact trivial | refine And.intro rfl ?_) (And.intro (by first | exact fun _ h => h | exact fun _ => List.mem_cons_of_mem _ | exact fun _ => List.mem_append_right _) ?_) | (refine And.intro (fun h => ?_) (fun h => ?_) <;> (try simp only [n1, n2, n3, n4, n5, n6] at h) <;> first | (exfalso; omega) | (cases h; done) | skip) | refine And.intro (by omega) ?_ | refine Exists.intro _ (And.intro (by first | exact And.intro rfl rfl | exact Pl.den (by repeat constructor) | with_reducible rfl | exact cast_succ _ | assumption | exact (Int.toNat_of_nonneg (by omega)).symm | rfl) ?_) | refine hD _ _ ?_ | refine hL _ _ ?_ | (intro h; (try simp only [n1, n2, n3, n4, n5, n6] at h); first | (exfalso; omega) | (cases h; done) | skip)) <;> (conv => whnf))
      exact ⟨nonote 2, bad hno, retN fun _ _ => rfl⟩
    | some n =>
      rw [hnm] at T3
      obtain ⟨hn64, hdn⟩ := numOf_some hnm
      have hpn : ∀ p m, IsNote S p m → p.size = n ∧ n < 2147483648 ∧ nameOk q0 = true := fun p m k => by
        have h3 := k.ok
        unfold Hd.ok at h3
        rw [Bool.and_eq_true] at h3
        have h4 : (0 : Int) ≤ (p.size : Int) ∧ (p.size : Int) < 2147483648 := of_decide_eq_true h3.2
        have e1 := dec_inj (by omega) hn64 ((hsp p m k).2.1.symm.trans hdn.symm)
        exact ⟨e1, by omega, by rw [(hsp p m k).1]; exact h3.1⟩
      refine Tri.use (T3.one) [] rfl (fun _ _ _ => rfl) trivial (fun f hf => by first | exact hf | cases hf) (fun u hu => ?_)
      conv => whnf
      repeat' ((first | refine And.intro (by repeat' first | exact trivial | refine And.intro rfl ?_) (And.intro (by first | exact fun _ h => h | exact fun _ => List.mem_cons_of_mem _ | exact fun _ => List.mem_append_right _) ?_) | (refine And.intro (fun h => ?_) (fun h => ?_) <;> (try simp only [n1, n2, n3, n4, n5, n6] at h) <;> first | (exfalso; omega) | (cases h; done) | skip) | refine And.intro (by omega) ?_ | refine Exists.intro _ (And.intro (by first | exact And.intro rfl rfl | exact Pl.den (by repeat constructor) | with_reducible rfl | exact cast_succ _ | assumption | exact (Int.toNat_of_nonneg (by omega)).symm | rfl) ?_) | refine hD _ _ ?_ | refine hL _ _ ?_ | (intro h; (try simp only [n1, n2, n3, n4, n5, n6] at h); first | (exfalso; omega) | (cases h; done) | skip)) <;> (conv => whnf))
      refine Tri.use (T4) [] rfl (fun _ _ _ => rfl) trivial (fun f hf => by first | exact hf | cases hf) (fun x hx => ?_)
      obtain ⟨A, bs, cap, okd, fs⟩ := x
      have hxno := hx.no
      have hxyes := hx.yes
      have hxat := hx.at_
      have hxcap := hx.cap
      simp only at hxno hxyes hxat hxcap
      conv => whnf
      refine appFK_intro ?_
      conv => whnf
      repeat' ((first | refine And.intro (by repeat' first | exact trivial | refine And.intro rfl ?_) (And.intro (by first | exact fun _ h => h | exact fun _ => List.mem_cons_of_mem _ | exact fun _ => List.mem_append_right _) ?_) | (refine And.intro (fun h => ?_) (fun h => ?_) <;> (try simp only [n1, n2, n3, n4, n5, n6] at h) <;> first | (exfalso; omega) | (cases h; done) | skip) | refine And.intro (by omega) ?_ | refine Exists.intro _ (And.intro (by first | exact And.intro rfl rfl | exact Pl.den (by repeat constructor) | with_reducible rfl | exact cast_succ _ | assumption | exact (Int.toNat_of_nonneg (by omega)).symm | rfl) ?_) | refine hD _ _ ?_ | refine hL _ _ ?_ | (intro h; (try simp only [n1, n2, n3, n4, n5, n6] at h); first | (exfalso; omega) | (cases h; done) | skip)) <;> (conv => whnf))
      cases okd with
      | false =>
        conv => whnf
        repeat' ((first | refine And.intro (by repeat' first | exact trivial | refine And.intro rfl ?_) (And.intro (by first | exact fun _ h => h | exact fun _ => List.mem_cons_of_mem _ | exact fun _ => List.mem_append_right _) ?_) | (refine And.intro (fun h => ?_) (fun h => ?_) <;> (try simp only [n1, n2, n3, n4, n5, n6] at h) <;> first | (exfalso; omega) | (cases h; done) | skip) | refine And.intro (by omega) ?_ | refine Exists.intro _ (And.intro (by first | exact And.intro rfl rfl | exact Pl.den (by repeat constructor) | with_reducible rfl | exact cast_succ _ | assumption | exact (Int.toNat_of_nonneg (by omega)).symm | rfl) ?_) | refine hD _ _ ?_ | refine hL _ _ ?_ | (intro h; (try simp only [n1, n2, n3, n4, n5, n6] at h); first | (exfalso; omega) | (cases h; done) | skip)) <;> (conv => whnf))
        exact ⟨nonote 2, bad fun p m k => (hxno rfl).2 p.root (hsp p m k).2.2.1, retN fun _ _ => rfl⟩
      | true =>
        have hq2 : q2 = enc bs := hxyes rfl
        conv => whnf
        refine And.intro (fun hlt => ?_) (fun hlt => ?_)
        · have hlt2 : ¬ n < 2147483648 := by have := of_decide_eq_true hlt; omega
          clear hlt
          conv => whnf
          repeat' ((first | refine And.intro (by repeat' first | exact trivial | refine And.intro rfl ?_) (And.intro (by first | exact fun _ h => h | exact fun _ => List.mem_cons_of_mem _ | exact fun _ => List.mem_append_right _) ?_) | (refine And.intro (fun h => ?_) (fun h => ?_) <;> (try simp only [n1, n2, n3, n4, n5, n6] at h) <;> first | (exfalso; omega) | (cases h; done) | skip) | refine And.intro (by omega) ?_ | refine Exists.intro _ (And.intro (by first | exact And.intro rfl rfl | exact Pl.den (by repeat constructor) | with_reducible rfl | exact cast_succ _ | assumption | exact (Int.toNat_of_nonneg (by omega)).symm | rfl) ?_) | refine hD _ _ ?_ | refine hL _ _ ?_ | (intro h; (try simp only [n1, n2, n3, n4, n5, n6] at h); first | (exfalso; omega) | (cases h; done) | skip)) <;> (conv => whnf))
          exact ⟨nonote 2, bad fun p m k => hlt2 (hpn p m k).2.1, retN fun _ _ => rfl⟩
        have hlt2 : n < 2147483648 := by have := of_decide_eq_false hlt; omega
        clear hlt
        conv => whnf
        repeat' ((first | refine And.intro (by repeat' first | exact trivial | refine And.intro rfl ?_) (And.intro (by first | exact fun _ h => h | exact fun _ => List.mem_cons_of_mem _ | exact fun _ => List.mem_append_right _) ?_) | (refine And.intro (fun h => ?_) (fun h => ?_) <;> (try simp only [n1, n2, n3, n4, n5, n6] at h) <;> first | (exfalso; omega) | (cases h; done) | skip) | refine And.intro (by omega) ?_ | refine Exists.intro _ (And.intro (by first | exact And.intro rfl rfl | exact Pl.den (by repeat constructor) | with_reducible rfl | exact cast_succ _ | assumption | exact (Int.toNat_of_nonneg (by omega)).symm | rfl) ?_) | refine hD _ _ ?_ | refine hL _ _ ?_ | (intro h; (try simp only [n1, n2, n3, n4, n5, n6] at h); first | (exfalso; omega) | (cases h; done) | skip)) <;> (conv => whnf))
        · refine ⟨nonote 2, bad fun p m k => h ?_, retN fun _ _ => rfl⟩
          have := enc_inj (hq2.symm.trans (hsp p m k).2.2.1)
          rw [this, k.root]; rfl
        have hbs : bs.length = 32 := by omega
        refine Tri.use (tName ⟨q0.toArray⟩ (by omega)) [] rfl (fun _ _ _ => rfl) trivial (fun f hf => by first | exact hf | cases hf) (fun u hu => ?_)
        conv => whnf
        repeat' ((first | refine And.intro (by repeat' first | exact trivial | refine And.intro rfl ?_) (And.intro (by first | exact fun _ h => h | exact fun _ => List.mem_cons_of_mem _ | exact fun _ => List.mem_append_right _) ?_) | (refine And.intro (fun h => ?_) (fun h => ?_) <;> (try simp only [n1, n2, n3, n4, n5, n6] at h) <;> first | (exfalso; omega) | (cases h; done) | skip) | refine And.intro (by omega) ?_ | refine Exists.intro _ (And.intro (by first | exact And.intro rfl rfl | exact Pl.den (by repeat constructor) | with_reducible rfl | exact cast_succ _ | assumption | exact (Int.toNat_of_nonneg (by omega)).symm | rfl) ?_) | refine hD _ _ ?_ | refine hL _ _ ?_ | (intro h; (try simp only [n1, n2, n3, n4, n5, n6] at h); first | (exfalso; omega) | (cases h; done) | skip)) <;> (conv => whnf))
        · exact ⟨nonote 2, (bad fun p m k => by have := (hpn p m k).2.2; rw [show nameOk q0 = false from h] at this; cases this), retN fun _ _ => rfl⟩
        have hname : nameOk q0 = true := h
        refine draw_opaque fun KD hD => ?_
        refine draw_all tok (by kernel_rfl) [.any 0, .any 1, .any 3, .any 4, .any 5, .load 2, .one 6, .load 7, .any 8, .new 9, .last 10] [10] (by kernel_rfl) rfl rfl (by repeat' (first | exact trivial | refine And.intro rfl ?_)) ?_
        conv => whnf
        repeat' ((first | refine And.intro (by repeat' first | exact trivial | refine And.intro rfl ?_) (And.intro (by first | exact fun _ h => h | exact fun _ => List.mem_cons_of_mem _ | exact fun _ => List.mem_append_right _) ?_) | (refine And.intro (fun h => ?_) (fun h => ?_) <;> (try simp only [n1, n2, n3, n4, n5, n6] at h) <;> first | (exfalso; omega) | (cases h; done) | skip) | refine And.intro (by omega) ?_ | refine Exists.intro _ (And.intro (by first | exact And.intro rfl rfl | exact Pl.den (by repeat constructor) | with_reducible rfl | exact cast_succ _ | assumption | exact (Int.toNat_of_nonneg (by omega)).symm | rfl) ?_) | refine hD _ _ ?_ | refine hL _ _ ?_ | (intro h; (try simp only [n1, n2, n3, n4, n5, n6] at h); first | (exfalso; omega) | (cases h; done) | skip)) <;> (conv => whnf))
        obtain ⟨ad, hA⟩ : ∃ ad, A = some ad := by
          cases A with
          | none => have := hxat.1 rfl; rw [this] at hbs; cases hbs
          | some ad => exact ⟨ad, rfl⟩
        refine ⟨ad, hA, ?_⟩
        have hfc : ∀ j y, (bs.map bv)[j]? = some y → FC (fs ++ fx) (ad.add j) y := fun j y hj => by
          rw [List.getElem?_map] at hj
          cases hb : bs[j]? with
          | none => rw [hb] at hj; cases hj
          | some b =>
            rw [hb] at hj
            obtain ⟨f, k1, k2⟩ := hxat.2 ad hA j b hb
            exact ⟨f, List.mem_append_left _ k1, by cases hj; exact k2⟩
        obtain ⟨b0, b1, b2, b3, b4, b5, b6, b7, b8, b9, b10, b11, b12, b13, b14, b15, b16, b17, b18, b19, b20, b21, b22, b23, b24, b25, b26, b27, b28, b29, b30, b31, hb32⟩ := len32 hbs
        subst hb32
        conv => whnf
        repeat' ((first | (refine Exists.intro _ (And.intro ⟨rfl, hfc⟩ ?_)) | refine And.intro (by repeat' first | exact trivial | refine And.intro rfl ?_) (And.intro (by first | exact fun _ h => h | exact fun _ => List.mem_cons_of_mem _ | exact fun _ => List.mem_append_right _) ?_) | (refine And.intro (fun h => ?_) (fun h => ?_) <;> (try simp only [n1, n2, n3, n4, n5, n6] at h) <;> first | (exfalso; omega) | (cases h; done) | skip) | refine And.intro (by omega) ?_ | refine Exists.intro _ (And.intro (by first | exact And.intro rfl rfl | exact Pl.den (by repeat constructor) | with_reducible rfl | exact cast_succ _ | assumption | exact (Int.toNat_of_nonneg (by omega)).symm | rfl) ?_) | refine hD _ _ ?_ | refine hL _ _ ?_ | (intro h; (try simp only [n1, n2, n3, n4, n5, n6] at h); first | (exfalso; omega) | (cases h; done) | skip)) <;> (conv => whnf))
        obtain ⟨D, hDD⟩ : ∃ D : Hd, D = ⟨⟨q0.toArray⟩, (n : Int), [b0, b1, b2, b3, b4, b5, b6, b7, b8, b9, b10, b11, b12, b13, b14, b15, b16, b17, b18, b19, b20, b21, b22, b23, b24, b25, b26, b27, b28, b29, b30, b31]⟩ := ⟨_, rfl⟩
        have hP : ∃ p : Hp, D = p.hd ∧ p.org = q0 ∧ p.size = n ∧ q2 = enc p.root ∧ p.root.length = 32 := ⟨⟨q0, n, [b0, b1, b2, b3, b4, b5, b6, b7, b8, b9, b10, b11, b12, b13, b14, b15, b16, b17, b18, b19, b20, b21, b22, b23, b24, b25, b26, b27, b28, b29, b30, b31]⟩, hDD, rfl, rfl, hq2, hbs⟩
        refine loop_by tok (RdI.inv (bsV (q0 :: q1 :: q2 :: q3 :: (mid ++ [z]))) D mid.length fx) (RdI.Pr mid fx) (fun x => mid.length - x.i) ⟨0, none, [], fs⟩ [0, 1, 2] ⟨Nat.zero_le _, rfl, (fun j p s h1 h2 => by cases h2), (fun s hs => by cases hs), rfl⟩
          ⟨rfl, ⟨SEq.ren rfl rfl, SEq.ren rfl rfl, fun _ _ _ => rfl, ?_, fun _ _ _ => ?_, fun _ _ _ => rfl, trivial⟩, ⟨OSub.ren rfl rfl, OSub.ren rfl rfl, OSub.cells fun _ => by rw [hDD]; rfl, trivial⟩, fun f hf => hf⟩ ?_
        · intro ρ ρ'' ha
          simp only [den, offs]
          have e1 : ρ'' 1 = ρ 1 := ha 1 (by show 1 < 3; omega)
          have e2 : (((mid.length + 5 : Nat) : Int) - 1).toNat - 4 = mid.length := by omega
          rw [if_neg (by omega), e1, e2]
          congr 1
        · simp only [den]
          congr 1
          omega
        · clear hx hxno hxyes hq2 hbs hfc T3 T4 hDD hxat hxcap
          obtain ⟨P, hDP, hP0, hP1, hP2, hP3⟩ := hP
          have hD34 : D.cells.length = 34 := by rw [hDP]; simp [Hd.cells, Hp.hd, hP3]
          rintro ⟨i, row, l, f⟩ hp
          have hi := hp.i
          have hll := hp.l
          have hsig := hp.sig
          have hfit := hp.fit
          have hrow := hp.row
          simp only at hi hll hsig hfit hrow
          have hgF : gTab ∈ f ++ fx := List.mem_append_right _ hg
          have heF : gErr ∈ f ++ fx := List.mem_append_right _ he
          have hmF : gMax ∈ f ++ fx := List.mem_append_right _ hm
          cases row with
          | none =>
            obtain rfl : i = 0 := hrow
            obtain rfl : l = [] := List.length_eq_zero_iff.1 hll
            simp only [RdI.inv, RdI.sl]
            conv => whnf
            repeat' ((first | refine And.intro (by repeat' first | exact trivial | refine And.intro rfl ?_) (And.intro (by first | exact fun _ h => h | exact fun _ => List.mem_cons_of_mem _ | exact fun _ => List.mem_append_right _) ?_) | (refine And.intro (fun h => ?_) (fun h => ?_) <;> (try simp only [n1, n2, n3, n4, n5, n6] at h) <;> first | (exfalso; omega) | (cases h; done) | skip) | refine And.intro (by omega) ?_ | refine Exists.intro _ (And.intro (by first | exact And.intro rfl rfl | exact Pl.den (by repeat constructor) | with_reducible rfl | exact cast_succ _ | assumption | exact (Int.toNat_of_nonneg (by omega)).symm | rfl) ?_) | refine hD _ _ ?_ | refine hL _ _ ?_ | (intro h; (try simp only [n1, n2, n3, n4, n5, n6] at h); first | (exfalso; omega) | (cases h; done) | skip)) <;> (conv => whnf))
            · obtain ⟨p, hpi⟩ : ∃ p, mid[0]? = some p := ⟨_, List.getElem?_eq_getElem (by omega)⟩
              have hpl2 := hpl p (by
                have := List.mem_of_getElem? hpi
                simp only [List.mem_cons, List.mem_append]
                exact .inr (.inr (.inr (.inr (.inl this)))))
              have eix2 : 4 + 0 * 1 = 0 + 4 := by omega
              rw [eix2]
              refine ⟨strS p, hmid 0 p hpi, ?_⟩
              conv => whnf
              repeat' ((first | refine And.intro (by repeat' first | exact trivial | refine And.intro rfl ?_) (And.intro (by first | exact fun _ h => h | exact fun _ => List.mem_cons_of_mem _ | exact fun _ => List.mem_append_right _) ?_) | (refine And.intro (fun h => ?_) (fun h => ?_) <;> (try simp only [n1, n2, n3, n4, n5, n6] at h) <;> first | (exfalso; omega) | (cases h; done) | skip) | refine And.intro (by omega) ?_ | refine Exists.intro _ (And.intro (by first | exact And.intro rfl rfl | exact Pl.den (by repeat constructor) | with_reducible rfl | exact cast_succ _ | assumption | exact (Int.toNat_of_nonneg (by omega)).symm | rfl) ?_) | refine hD _ _ ?_ | refine hL _ _ ?_ | (intro h; (try simp only [n1, n2, n3, n4, n5, n6] at h); first | (exfalso; omega) | (cases h; done) | skip)) <;> (conv => whnf))
              refine Tri.use ((tSig (f ++ fx) hgF heF hmF p (by omega))) [] rfl (fun _ _ _ => rfl) trivial (fun f hf => by first | exact hf | cases hf) (fun x hx => ?_)
              obtain ⟨sg, ok, f2⟩ := x
              have hxy := hx.yes
              have hxn := hx.no
              simp only at hxy hxn
              conv => whnf
              refine appFK_in ?_
              cases ok with
              | false =>
                conv => whnf
                repeat' ((first | refine And.intro (by repeat' first | exact trivial | refine And.intro rfl ?_) (And.intro (by first | exact fun _ h => h | exact fun _ => List.mem_cons_of_mem _ | exact fun _ => List.mem_append_right _) ?_) | (refine And.intro (fun h => ?_) (fun h => ?_) <;> (try simp only [n1, n2, n3, n4, n5, n6] at h) <;> first | (exfalso; omega) | (cases h; done) | skip) | refine And.intro (by omega) ?_ | refine Exists.intro _ (And.intro (by first | exact And.intro rfl rfl | exact Pl.den (by repeat constructor) | with_reducible rfl | exact cast_succ _ | assumption | exact (Int.toNat_of_nonneg (by omega)).symm | rfl) ?_) | refine hD _ _ ?_ | refine hL _ _ ?_ | (intro h; (try simp only [n1, n2, n3, n4, n5, n6] at h); first | (exfalso; omega) | (cases h; done) | skip)) <;> (conv => whnf))
                have hno : ∀ p' m, ¬ IsNote S p' m := fun p' m k => by
                  have h1 := (hsp p' m k).2.2.2.2.1
                  rw [h1, List.getElem?_map] at hpi
                  cases hm2 : m[0]? with
                  | none => rw [hm2] at hpi; cases hpi
                  | some t =>
                    rw [hm2] at hpi
                    obtain rfl := Option.some.inj hpi
                    have h2 := k.all t (List.mem_of_getElem? hm2)
                    exact hxn rfl t (isSig_bare h2.1 h2.2)
                refine And.intro ⟨rfl, Sg.one⟩ (And.intro ⟨rfl, rfl⟩ ?_)
                conv => whnf
                repeat' ((first | refine And.intro (by repeat' first | exact trivial | refine And.intro rfl ?_) (And.intro (by first | exact fun _ h => h | exact fun _ => List.mem_cons_of_mem _ | exact fun _ => List.mem_append_right _) ?_) | (refine And.intro (fun h => ?_) (fun h => ?_) <;> (try simp only [n1, n2, n3, n4, n5, n6] at h) <;> first | (exfalso; omega) | (cases h; done) | skip) | refine And.intro (by omega) ?_ | refine Exists.intro _ (And.intro (by first | exact And.intro rfl rfl | exact Pl.den (by repeat constructor) | with_reducible rfl | exact cast_succ _ | assumption | exact (Int.toNat_of_nonneg (by omega)).symm | rfl) ?_) | refine hD _ _ ?_ | refine hL _ _ ?_ | (intro h; (try simp only [n1, n2, n3, n4, n5, n6] at h); first | (exfalso; omega) | (cases h; done) | skip)) <;> (conv => whnf))
                exact ⟨nonote 2, bad hno, retN fun _ _ => rfl⟩
              | true =>
                obtain ⟨hs1, hs2⟩ := hxy rfl
                have hlen1 : (([] : List Sg) ++ [sg]).length = 0 + 1 := rfl
                have hsig1 : ∀ (j : Nat) (q : List UInt8) (t : Sg), mid[j]? = some q → (([] : List Sg) ++ [sg])[j]? = some t → IsSig q t.pl := fun j q t h1 h2 => by
                  have hj : j = 0 := by
                    have := (List.getElem?_eq_some_iff.1 h2).1
                    simp only [List.nil_append, List.length_singleton] at this
                    omega
                  rw [hj] at h1 h2
                  obtain rfl := Option.some.inj h2
                  rw [hpi] at h1
                  obtain rfl := Option.some.inj h1
                  exact hs1
                have hfit1 : ∀ t ∈ ([] : List Sg) ++ [sg], t.Fit ((f2 ++ f) ++ fx) := fun t ht => by
                  rw [List.append_assoc]
                  obtain rfl := List.mem_singleton.1 ht
                  exact hs2
                conv => whnf
                repeat' ((first | refine And.intro (by repeat' first | exact trivial | refine And.intro rfl ?_) (And.intro (by first | exact fun _ h => h | exact fun _ => List.mem_cons_of_mem _ | exact fun _ => List.mem_append_right _) ?_) | (refine And.intro (fun h => ?_) (fun h => ?_) <;> (try simp only [n1, n2, n3, n4, n5, n6] at h) <;> first | (exfalso; omega) | (cases h; done) | skip) | refine And.intro (by omega) ?_ | refine Exists.intro _ (And.intro (by first | exact And.intro rfl rfl | exact Pl.den (by repeat constructor) | with_reducible rfl | exact cast_succ _ | assumption | exact (Int.toNat_of_nonneg (by omega)).symm | rfl) ?_) | refine hD _ _ ?_ | refine hL _ _ ?_ | (intro h; (try simp only [n1, n2, n3, n4, n5, n6] at h); first | (exfalso; omega) | (cases h; done) | skip)) <;> (conv => whnf))
                refine And.intro ⟨rfl, Sg.one⟩ (And.intro ⟨rfl, rfl⟩ ?_)
                conv => whnf
                repeat' ((first | (refine Exists.intro sg.cells (And.intro ⟨rfl, rfl⟩ ?_)) | refine And.intro (by repeat' first | exact trivial | refine And.intro rfl ?_) (And.intro (by first | exact fun _ h => h | exact fun _ => List.mem_cons_of_mem _ | exact fun _ => List.mem_append_right _) ?_) | (refine And.intro (fun h => ?_) (fun h => ?_) <;> (try simp only [n1, n2, n3, n4, n5, n6] at h) <;> first | (exfalso; omega) | (cases h; done) | skip) | refine And.intro (by omega) ?_ | refine Exists.intro _ (And.intro (by first | exact And.intro rfl rfl | exact Pl.den (by repeat constructor) | with_reducible rfl | exact cast_succ _ | assumption | exact (Int.toNat_of_nonneg (by omega)).symm | rfl) ?_) | refine hD _ _ ?_ | refine hL _ _ ?_ | (intro h; (try simp only [n1, n2, n3, n4, n5, n6] at h); first | (exfalso; omega) | (cases h; done) | skip)) <;> (conv => whnf))
                rename_i m sp
                have hsp3 := h
                refine ⟨⟨0 + 1, some (1 + m, sg.cells ++ sp), [] ++ [sg], f2 ++ f⟩, [0, 1, 2, 5], ⟨⟨by simp only; omega, hlen1, hsig1, hfit1, ?_, ?_, by simp only; omega⟩, by simp only; omega⟩, rfl, ⟨SEq.ren rfl rfl, SEq.ren rfl rfl, SEq.ren rfl rfl, SEq.ren rfl rfl, fun _ _ _ => rfl, fun _ _ _ => rfl, trivial⟩, ⟨OSub.ren rfl rfl, OSub.ren rfl rfl, OSub.ren rfl rfl, OSub.ren rfl rfl, trivial⟩, fun g hg => by simpa [List.append_assoc] using hg⟩
                · simp only
                  rw [List.take_left' (by simp [Sg.cells])]
                  simp [sgRow]
                · simp only [List.length_append, hsp3]
                  simp [Sg.cells]; omega
            · have hi0 : ¬ (0 : Nat) < mid.length := by omega
              conv => whnf
              repeat' ((first | (refine Exists.intro D.cells (And.intro ⟨by rw [List.drop_zero]; exact List.take_of_length_le (by rw [hD34]; exact Nat.le_refl _), hD34⟩ ?_)) | refine And.intro (by repeat' first | exact trivial | refine And.intro rfl ?_) (And.intro (by first | exact fun _ h => h | exact fun _ => List.mem_cons_of_mem _ | exact fun _ => List.mem_append_right _) ?_) | (refine And.intro (fun h => ?_) (fun h => ?_) <;> (try simp only [n1, n2, n3, n4, n5, n6] at h) <;> first | (exfalso; omega) | (cases h; done) | skip) | refine And.intro (by omega) ?_ | refine Exists.intro _ (And.intro (by first | exact And.intro rfl rfl | exact Pl.den (by repeat constructor) | with_reducible rfl | exact cast_succ _ | assumption | exact (Int.toNat_of_nonneg (by omega)).symm | rfl) ?_) | refine hD _ _ ?_ | refine hL _ _ ?_ | (intro h; (try simp only [n1, n2, n3, n4, n5, n6] at h); first | (exfalso; omega) | (cases h; done) | skip)) <;> (conv => whnf))
              refine And.intro ⟨hD34, by rw [hDP]; exact Hd.one⟩ (And.intro ⟨rfl, rfl⟩ ?_)
              conv => whnf
              repeat' ((first | (refine Exists.intro D.cells (And.intro ⟨by rw [List.drop_zero]; exact List.take_of_length_le (by rw [hD34]; exact Nat.le_refl _), hD34⟩ ?_)) | refine And.intro (by repeat' first | exact trivial | refine And.intro rfl ?_) (And.intro (by first | exact fun _ h => h | exact fun _ => List.mem_cons_of_mem _ | exact fun _ => List.mem_append_right _) ?_) | (refine And.intro (fun h => ?_) (fun h => ?_) <;> (try simp only [n1, n2, n3, n4, n5, n6] at h) <;> first | (exfalso; omega) | (cases h; done) | skip) | refine And.intro (by omega) ?_ | refine Exists.intro _ (And.intro (by first | exact And.intro rfl rfl | exact Pl.den (by repeat constructor) | with_reducible rfl | exact cast_succ _ | assumption | exact (Int.toNat_of_nonneg (by omega)).symm | rfl) ?_) | refine hD _ _ ?_ | refine hL _ _ ?_ | (intro h; (try simp only [n1, n2, n3, n4, n5, n6] at h); first | (exfalso; omega) | (cases h; done) | skip)) <;> (conv => whnf))
              have hm0 : mid = [] := List.length_eq_zero_iff.1 (by omega)
              refine ⟨⟨D, [], none, 0, []⟩, ⟨fun _ => ⟨P, ?_, hDP⟩, (fun t ht => by cases ht), rfl, fun h => absurd rfl h⟩, retN fun _ _ => rfl⟩
              exact note_of (mid := mid) (by rw [hP0, hP1, hdn, ← hP2, e, hq3, hz0]) hP3 (by rw [hP0]; exact hname) (by omega) (by rw [hm0]; rfl) (by omega) (by rw [hm0]; intro j q t h1; cases h1)
          | some r =>
            obtain ⟨c, xs⟩ := r
            simp only at hrow
            obtain ⟨hr1, hr2, hr3⟩ := hrow
            simp only [RdI.inv, RdI.sl]
            conv => whnf
            repeat' ((first | refine And.intro (by repeat' first | exact trivial | refine And.intro rfl ?_) (And.intro (by first | exact fun _ h => h | exact fun _ => List.mem_cons_of_mem _ | exact fun _ => List.mem_append_right _) ?_) | (refine And.intro (fun h => ?_) (fun h => ?_) <;> (try simp only [n1, n2, n3, n4, n5, n6] at h) <;> first | (exfalso; omega) | (cases h; done) | skip) | refine And.intro (by omega) ?_ | refine Exists.intro _ (And.intro (by first | exact And.intro rfl rfl | exact Pl.den (by repeat constructor) | with_reducible rfl | exact cast_succ _ | assumption | exact (Int.toNat_of_nonneg (by omega)).symm | rfl) ?_) | refine hD _ _ ?_ | refine hL _ _ ?_ | (intro h; (try simp only [n1, n2, n3, n4, n5, n6] at h); first | (exfalso; omega) | (cases h; done) | skip)) <;> (conv => whnf))
            · obtain ⟨p, hpi⟩ : ∃ p, mid[i]? = some p := ⟨_, List.getElem?_eq_getElem (by omega)⟩
              have hpl2 := hpl p (by
                have := List.mem_of_getElem? hpi
                simp only [List.mem_cons, List.mem_append]
                exact .inr (.inr (.inr (.inr (.inl this)))))
              have eix2 : 4 + i * 1 = i + 4 := by omega
              rw [eix2]
              refine ⟨strS p, hmid i p hpi, ?_⟩
              conv => whnf
              repeat' ((first | refine And.intro (by repeat' first | exact trivial | refine And.intro rfl ?_) (And.intro (by first | exact fun _ h => h | exact fun _ => List.mem_cons_of_mem _ | exact fun _ => List.mem_append_right _) ?_) | (refine And.intro (fun h => ?_) (fun h => ?_) <;> (try simp only [n1, n2, n3, n4, n5, n6] at h) <;> first | (exfalso; omega) | (cases h; done) | skip) | refine And.intro (by omega) ?_ | refine Exists.intro _ (And.intro (by first | exact And.intro rfl rfl | exact Pl.den (by repeat constructor) | with_reducible rfl | exact cast_succ _ | assumption | exact (Int.toNat_of_nonneg (by omega)).symm | rfl) ?_) | refine hD _ _ ?_ | refine hL _ _ ?_ | (intro h; (try simp only [n1, n2, n3, n4, n5, n6] at h); first | (exfalso; omega) | (cases h; done) | skip)) <;> (conv => whnf))
              refine Tri.use ((tSig (f ++ fx) hgF heF hmF p (by omega))) [] rfl (fun _ _ _ => rfl) trivial (fun f hf => by first | exact hf | cases hf) (fun x hx => ?_)
              obtain ⟨sg, ok, f2⟩ := x
              have hxy := hx.yes
              have hxn := hx.no
              simp only at hxy hxn
              conv => whnf
              refine appFK_in ?_
              cases ok with
              | false =>
                conv => whnf
                repeat' ((first | refine And.intro (by repeat' first | exact trivial | refine And.intro rfl ?_) (And.intro (by first | exact fun _ h => h | exact fun _ => List.mem_cons_of_mem _ | exact fun _ => List.mem_append_right _) ?_) | (refine And.intro (fun h => ?_) (fun h => ?_) <;> (try simp only [n1, n2, n3, n4, n5, n6] at h) <;> first | (exfalso; omega) | (cases h; done) | skip) | refine And.intro (by omega) ?_ | refine Exists.intro _ (And.intro (by first | exact And.intro rfl rfl | exact Pl.den (by repeat constructor) | with_reducible rfl | exact cast_succ _ | assumption | exact (Int.toNat_of_nonneg (by omega)).symm | rfl) ?_) | refine hD _ _ ?_ | refine hL _ _ ?_ | (intro h; (try simp only [n1, n2, n3, n4, n5, n6] at h); first | (exfalso; omega) | (cases h; done) | skip)) <;> (conv => whnf))
                have hno : ∀ p' m, ¬ IsNote S p' m := fun p' m k => by
                  have h1 := (hsp p' m k).2.2.2.2.1
                  rw [h1, List.getElem?_map] at hpi
                  cases hm2 : m[i]? with
                  | none => rw [hm2] at hpi; cases hpi
                  | some t =>
                    rw [hm2] at hpi
                    obtain rfl := Option.some.inj hpi
                    have h2 := k.all t (List.mem_of_getElem? hm2)
                    exact hxn rfl t (isSig_bare h2.1 h2.2)
                refine And.intro ⟨rfl, Sg.one⟩ (And.intro ⟨rfl, rfl⟩ ?_)
                conv => whnf
                repeat' ((first | refine And.intro (by repeat' first | exact trivial | refine And.intro rfl ?_) (And.intro (by first | exact fun _ h => h | exact fun _ => List.mem_cons_of_mem _ | exact fun _ => List.mem_append_right _) ?_) | (refine And.intro (fun h => ?_) (fun h => ?_) <;> (try simp only [n1, n2, n3, n4, n5, n6] at h) <;> first | (exfalso; omega) | (cases h; done) | skip) | refine And.intro (by omega) ?_ | refine Exists.intro _ (And.intro (by first | exact And.intro rfl rfl | exact Pl.den (by repeat constructor) | with_reducible rfl | exact cast_succ _ | assumption | exact (Int.toNat_of_nonneg (by omega)).symm | rfl) ?_) | refine hD _ _ ?_ | refine hL _ _ ?_ | (intro h; (try simp only [n1, n2, n3, n4, n5, n6] at h); first | (exfalso; omega) | (cases h; done) | skip)) <;> (conv => whnf))
                exact ⟨nonote 2, bad hno, retN fun _ _ => rfl⟩
              | true =>
                obtain ⟨hs1, hs2⟩ := hxy rfl
                have hlen1 : (l ++ [sg]).length = i + 1 := by rw [List.length_append, hll]; rfl
                have hsig1 : ∀ (j : Nat) (q : List UInt8) (t : Sg), mid[j]? = some q → (l ++ [sg])[j]? = some t → IsSig q t.pl := fun j q t h1 h2 => by
                  by_cases hj : j < i
                  · rw [List.getElem?_append_left (by omega)] at h2
                    exact hsig j q t h1 h2
                  · rw [List.getElem?_append_right (by omega)] at h2
                    have hj2 : j - l.length = 0 := by
                      have := (List.getElem?_eq_some_iff.1 h2).1
                      simp only [List.length_singleton] at this
                      omega
                    rw [hj2] at h2
                    obtain rfl := Option.some.inj h2
                    have hji : j = i := by omega
                    rw [hji, hpi] at h1
                    obtain rfl := Option.some.inj h1
                    exact hs1
                have hfit1 : ∀ t ∈ l ++ [sg], t.Fit ((f2 ++ f) ++ fx) := fun t ht => by
                  rw [List.append_assoc]
                  rcases List.mem_append.1 ht with ht | ht
                  · exact (hfit t ht).mono fun g hg => List.mem_append_right _ hg
                  · obtain rfl := List.mem_singleton.1 ht
                    exact hs2
                conv => whnf
                repeat' ((first | refine And.intro (by repeat' first | exact trivial | refine And.intro rfl ?_) (And.intro (by first | exact fun _ h => h | exact fun _ => List.mem_cons_of_mem _ | exact fun _ => List.mem_append_right _) ?_) | (refine And.intro (fun h => ?_) (fun h => ?_) <;> (try simp only [n1, n2, n3, n4, n5, n6] at h) <;> first | (exfalso; omega) | (cases h; done) | skip) | refine And.intro (by omega) ?_ | refine Exists.intro _ (And.intro (by first | exact And.intro rfl rfl | exact Pl.den (by repeat constructor) | with_reducible rfl | exact cast_succ _ | assumption | exact (Int.toNat_of_nonneg (by omega)).symm | rfl) ?_) | refine hD _ _ ?_ | refine hL _ _ ?_ | (intro h; (try simp only [n1, n2, n3, n4, n5, n6] at h); first | (exfalso; omega) | (cases h; done) | skip)) <;> (conv => whnf))
                refine And.intro ⟨rfl, Sg.one⟩ (And.intro ⟨rfl, rfl⟩ ?_)
                conv => whnf
                repeat' ((first | (refine Exists.intro sg.cells (And.intro ⟨rfl, rfl⟩ ?_)) | refine And.intro (by repeat' first | exact trivial | refine And.intro rfl ?_) (And.intro (by first | exact fun _ h => h | exact fun _ => List.mem_cons_of_mem _ | exact fun _ => List.mem_append_right _) ?_) | (refine And.intro (fun h => ?_) (fun h => ?_) <;> (try simp only [n1, n2, n3, n4, n5, n6] at h) <;> first | (exfalso; omega) | (cases h; done) | skip) | refine And.intro (by omega) ?_ | refine Exists.intro _ (And.intro (by first | exact And.intro rfl rfl | exact Pl.den (by repeat constructor) | with_reducible rfl | exact cast_succ _ | assumption | exact (Int.toNat_of_nonneg (by omega)).symm | rfl) ?_) | refine hD _ _ ?_ | refine hL _ _ ?_ | (intro h; (try simp only [n1, n2, n3, n4, n5, n6] at h); first | (exfalso; omega) | (cases h; done) | skip)) <;> (conv => whnf))
                refine ⟨⟨by omega, hr3, hr2, Sg.one⟩, fun m sp hsp2 => ?_⟩
                conv => whnf
                repeat' ((first | refine And.intro (by repeat' first | exact trivial | refine And.intro rfl ?_) (And.intro (by first | exact fun _ h => h | exact fun _ => List.mem_cons_of_mem _ | exact fun _ => List.mem_append_right _) ?_) | (refine And.intro (fun h => ?_) (fun h => ?_) <;> (try simp only [n1, n2, n3, n4, n5, n6] at h) <;> first | (exfalso; omega) | (cases h; done) | skip) | refine And.intro (by omega) ?_ | refine Exists.intro _ (And.intro (by first | exact And.intro rfl rfl | exact Pl.den (by repeat constructor) | with_reducible rfl | exact cast_succ _ | assumption | exact (Int.toNat_of_nonneg (by omega)).symm | rfl) ?_) | refine hD _ _ ?_ | refine hL _ _ ?_ | (intro h; (try simp only [n1, n2, n3, n4, n5, n6] at h); first | (exfalso; omega) | (cases h; done) | skip)) <;> (conv => whnf))
                have hlt2 : (sgRow l).length = i * 4 := by rw [← hr1, List.length_take]; omega
                refine ⟨⟨i + 1, some (i + 1 + m, xs.take (i * 4) ++ sg.cells ++ sp), l ++ [sg], f2 ++ f⟩, [0, 1, 2, 6], ⟨⟨by simp only; omega, hlen1, hsig1, hfit1, ?_, ?_, by simp only; omega⟩, by simp only; omega⟩, rfl, ⟨SEq.ren rfl rfl, SEq.ren rfl rfl, SEq.ren rfl rfl, SEq.ren rfl rfl, fun _ _ _ => rfl, fun _ _ _ => rfl, trivial⟩, ⟨OSub.ren rfl rfl, OSub.ren rfl rfl, OSub.ren rfl rfl, OSub.ren rfl rfl, trivial⟩, fun g hg => by simpa [List.append_assoc] using hg⟩
                · simp only
                  rw [hr1, List.take_left' (by rw [List.length_append, hlt2]; simp [Sg.cells]; omega)]
                  simp [sgRow]
                · simp only [List.length_append, hsp2, hr1, hlt2]
                  simp [Sg.cells]; omega
            · obtain rfl : i = mid.length := by omega
              conv => whnf
              repeat' ((first | (refine Exists.intro D.cells (And.intro ⟨by rw [List.drop_zero]; exact List.take_of_length_le (by rw [hD34]; exact Nat.le_refl _), hD34⟩ ?_)) | refine And.intro (by repeat' first | exact trivial | refine And.intro rfl ?_) (And.intro (by first | exact fun _ h => h | exact fun _ => List.mem_cons_of_mem _ | exact fun _ => List.mem_append_right _) ?_) | (refine And.intro (fun h => ?_) (fun h => ?_) <;> (try simp only [n1, n2, n3, n4, n5, n6] at h) <;> first | (exfalso; omega) | (cases h; done) | skip) | refine And.intro (by omega) ?_ | refine Exists.intro _ (And.intro (by first | exact And.intro rfl rfl | exact Pl.den (by repeat constructor) | with_reducible rfl | exact cast_succ _ | assumption | exact (Int.toNat_of_nonneg (by omega)).symm | rfl) ?_) | refine hD _ _ ?_ | refine hL _ _ ?_ | (intro h; (try simp only [n1, n2, n3, n4, n5, n6] at h); first | (exfalso; omega) | (cases h; done) | skip)) <;> (conv => whnf))
              refine And.intro ⟨hD34, by rw [hDP]; exact Hd.one⟩ (And.intro ⟨rfl, rfl⟩ ?_)
              conv => whnf
              repeat' ((first | (refine Exists.intro D.cells (And.intro ⟨by rw [List.drop_zero]; exact List.take_of_length_le (by rw [hD34]; exact Nat.le_refl _), hD34⟩ ?_)) | refine And.intro (by repeat' first | exact trivial | refine And.intro rfl ?_) (And.intro (by first | exact fun _ h => h | exact fun _ => List.mem_cons_of_mem _ | exact fun _ => List.mem_append_right _) ?_) | (refine And.intro (fun h => ?_) (fun h => ?_) <;> (try simp only [n1, n2, n3, n4, n5, n6] at h) <;> first | (exfalso; omega) | (cases h; done) | skip) | refine And.intro (by omega) ?_ | refine Exists.intro _ (And.intro (by first | exact And.intro rfl rfl | exact Pl.den (by repeat constructor) | with_reducible rfl | exact cast_succ _ | assumption | exact (Int.toNat_of_nonneg (by omega)).symm | rfl) ?_) | refine hD _ _ ?_ | refine hL _ _ ?_ | (intro h; (try simp only [n1, n2, n3, n4, n5, n6] at h); first | (exfalso; omega) | (cases h; done) | skip)) <;> (conv => whnf))
              refine ⟨⟨D, l, some (c, xs), 0, f⟩, ⟨fun _ => ⟨P, ?_, hDP⟩, hfit, ⟨by simp only [hll]; exact hr1, by simp only [hll]; exact hr3⟩, fun h => absurd rfl h⟩, ?_⟩
              · exact note_of (mid := mid) (by rw [hP0, hP1, hdn, ← hP2, e, hq3, hz0]) hP3 (by rw [hP0]; exact hname) (by omega) hll (by omega) hsig
              · refine Ret.mk [3] _ (Fold.refl _) rfl (fun ρ ρ'' ha => ?_) ⟨OSub.ren rfl rfl, trivial⟩ (fun g hg => List.mem_append_left _ hg)
                have e0 : ρ'' 0 = ρ 3 := ha 0 (by omega)
                simp only [NtO.v, den, denL_cons, denL_nil, hll, e0]
                rfl
  · have hno : ∀ p m, ¬ IsNote S p m := fun p m h => hn (by
      have := h.few
      rw [note_parts h]
      simp only [List.length_cons, List.length_append, List.length_map, List.length_nil]; omega)
    refine Tri.of_code tok Tryd.func53 rfl rfl rfl (by decide) rfl (Nat.le_of_ble_eq_true rfl) ?_
    conv => whnf
    repeat' ((first | refine And.intro (by repeat' first | exact trivial | refine And.intro rfl ?_) (And.intro (by first | exact fun _ h => h | exact fun _ => List.mem_cons_of_mem _ | exact fun _ => List.mem_append_right _) ?_) | (refine And.intro (fun h => ?_) (fun h => ?_) <;> (try simp only [n1, n2, n3, n4, n5, n6] at h) <;> first | (exfalso; omega) | (cases h; done) | skip) | refine And.intro (by omega) ?_ | refine Exists.intro _ (And.intro (by first | exact And.intro rfl rfl | exact Pl.den (by repeat constructor) | with_reducible rfl | exact cast_succ _ | assumption | exact (Int.toNat_of_nonneg (by omega)).symm | rfl) ?_) | refine hD _ _ ?_ | refine hL _ _ ?_ | (intro h; (try simp only [n1, n2, n3, n4, n5, n6] at h); first | (exfalso; omega) | (cases h; done) | skip)) <;> (conv => whnf))
    refine Tri.use T.one [] rfl (args_ren rfl rfl) trivial (fun f hf => by first | exact hf | cases hf | simp_all) (fun u hu => ?_)
    conv => whnf
    repeat' ((first | refine And.intro (by repeat' first | exact trivial | refine And.intro rfl ?_) (And.intro (by first | exact fun _ h => h | exact fun _ => List.mem_cons_of_mem _ | exact fun _ => List.mem_append_right _) ?_) | (refine And.intro (fun h => ?_) (fun h => ?_) <;> (try simp only [n1, n2, n3, n4, n5, n6] at h) <;> first | (exfalso; omega) | (cases h; done) | skip) | refine And.intro (by omega) ?_ | refine Exists.intro _ (And.intro (by first | exact And.intro rfl rfl | exact Pl.den (by repeat constructor) | with_reducible rfl | exact cast_succ _ | assumption | exact (Int.toNat_of_nonneg (by omega)).symm | rfl) ?_) | refine hD _ _ ?_ | refine hL _ _ ?_ | (intro h; (try simp only [n1, n2, n3, n4, n5, n6] at h); first | (exfalso; omega) | (cases h; done) | skip)) <;> (conv => whnf))
    all_goals exact ⟨nonote 2, bad hno, retN fun _ _ => rfl⟩
end Go.Proofs.YtekgjjanikicnaaDoor.Sx

namespace Go.Proofs.YtekgjjanikicnaaDoor.Sx
open Go Go.RowKit
set_option maxRecDepth 100000
set_option linter.unusedSimpArgs false
set_option linter.unusedVariables false
theorem NtO.told {fx : List Fact} {S : List UInt8} {T : TypeId} {n : Nat} {args : List SV} (hd : ∀ x : NtO, NtO.pr fx S x → True)
    (K : Tri Tryd.prog n args [] 0 fx (RetE (α := NtO) 0 (NtO.pr fx S) NtO.v (fun x => match x.row with | none => [] | some (c, xs) => [(0, .row xs T)]) 1 NtO.f)) :
    Tri Tryd.prog n args [] 0 fx (RetE (α := NtR) 0 (NtR.pr fx S) NtR.v (fun _ => []) 0 NtR.f) := by
  refine K.conv.share2 fun y h m f ⟨a, hp, e1, e2, e3, e4⟩ => ?_
  subst e1 e2 e3 e4
  obtain ⟨d, l, row, e, f⟩ := a
  have hyes := hp.yes
  have hfit := hp.fit
  have hrow := hp.row
  have hno := hp.no
  simp only at hyes hfit hrow hno
  cases row with
  | none =>
    left
    obtain rfl : l = [] := hrow
    refine ⟨⟨d, [], none, 0, e, f⟩, ⟨fun h => ⟨hyes h, ⟨fun _ => rfl, fun ad e => by cases e⟩, fun s hs => by cases hs⟩, fun h => ?_⟩, ?_⟩
    · obtain ⟨h1, h2, h3, h4, h5⟩ := hno h
      exact ⟨h1, h2, rfl, h4, h5⟩
    · exact Ret.mk [] [] (Fold.refl _) rfl (fun _ _ _ => rfl) trivial (fun _ h => h)
  | some r =>
    obtain ⟨c, xs⟩ := r
    right
    obtain ⟨h1, h2⟩ := hrow
    refine ⟨0, xs, T, List.mem_cons_self .., fun b => ⟨.tup [.v d.v, .v (.slice (some ⟨b, 0, none⟩) l.length c), .v (.int .i64 (e : Nat))], fun ρ e => by simp only [NtO.v, den, denL_cons, denL_nil, e], ?_⟩⟩
    refine ⟨⟨d, l, some ⟨b, 0, none⟩, c, e, rowFact b xs T :: f⟩, ⟨fun h => ⟨hyes h, RowAt.row (List.mem_cons_self ..) h1, fun s hs => (hfit s hs).mono fun g hg => List.mem_cons_of_mem _ hg⟩, fun h => ?_⟩, ?_⟩
    · have h5 := (hno h).2.2.1
      cases h5
    · exact Ret.mk [] [] (Fold.refl _) rfl (fun _ _ _ => rfl) trivial (fun _ h => h)
theorem tRead21 (fx : List Fact) (hg : gTab ∈ fx) (he : gErr ∈ fx) (hm : gMax ∈ fx) (S : List UInt8) (hS : S.length ≤ 9223372036854775807) :
    Tri Tryd.prog 53 [.v (strS S)] [] 0 fx (RetE (α := NtR) 0 (NtR.pr fx S) NtR.v (fun _ => []) 0 NtR.f) :=
  NtO.told (fun _ _ => trivial) (tRead0 fx hg he hm S hS)
/-! ### The reference's lines -/
structure LnS where
  i : Nat
  from_ : Nat
  row : Option (Nat × List Value)
  l : List (List UInt8)
def LnS.sl (S : List UInt8) (x : LnS) (y : SV) : List (Nat × SV) := [(0, .v (strS S)), (4, y), (5, .v (.int .i64 x.from_)), (6, .v (.int .i64 x.i))]
def LnS.inv (S : List UInt8) (fx : List Fact) (x : LnS) : SS := match x.row with
  | none => ⟨x.sl S (.v (.slice none 0 0)), [], 0, fx⟩
  | some (c, xs) => ⟨x.sl S (.s 0 0 x.l.length c), [(0, .row xs 9)], 1, fx⟩
/-- What was seen, parted: the parts that have ended, and what stands behind them. -/
structure LnS.Pr (c : UInt8) (S : List UInt8) (x : LnS) : Prop where
  i : x.i ≤ S.length
  f : x.from_ ≤ x.i
  p : parts c S = x.l ++ parts c (S.drop x.from_)
  free : c ∉ (S.drop x.from_).take (x.i - x.from_)
  row : match x.row with
    | none => x.l = []
    | some (cap, xs) => xs.take x.l.length = bsV x.l ∧ cap = xs.length ∧ x.l.length ≤ cap
theorem LnS.Pr.hit {c : UInt8} {S : List UInt8} {i k : Nat} {row : Option (Nat × List Value)} {l : List (List UInt8)} (h : LnS.Pr c S ⟨i, k, row, l⟩) (hc : S[i]? = some c) : parts c S = (l ++ [(S.take i).drop k]) ++ parts c (S.drop (i + 1)) := by
  have h1 := h.p
  have h2 := h.free
  have h3 := h.f
  simp only at h1 h2 h3
  have hlt := (List.getElem?_eq_some_iff.1 hc).1
  have e : S.drop k = (S.drop k).take (i - k) ++ c :: S.drop (i + 1) := by
    have e1 := (List.take_append_drop (i - k) (S.drop k)).symm
    rw [List.drop_drop, show k + (i - k) = i by omega] at e1
    rw [List.drop_eq_getElem_cons hlt] at e1
    rw [(List.getElem?_eq_some_iff.1 hc).2] at e1
    exact e1
  rw [h1, e, parts_app h2, ← List.drop_take, List.append_assoc]
  rfl
theorem LnS.Pr.miss {c : UInt8} {S : List UInt8} {i k : Nat} {row : Option (Nat × List Value)} {l : List (List UInt8)} (h : LnS.Pr c S ⟨i, k, row, l⟩) {b : UInt8} (hb : S[i]? = some b) (hn : b ≠ c) : LnS.Pr c S ⟨i + 1, k, row, l⟩ := by
  have h2 := h.free
  have h3 := h.f
  simp only at h2 h3
  have hlt := (List.getElem?_eq_some_iff.1 hb).1
  refine ⟨hlt, Nat.le_succ_of_le h3, h.p, ?_, h.row⟩
  simp only
  have e : (S.drop k)[i - k]? = some b := by rw [List.getElem?_drop, show k + (i - k) = i by omega]; exact hb
  rw [show i + 1 - k = (i - k) + 1 by omega, take_succ_of e]
  intro hm
  rcases List.mem_append.1 hm with hm | hm
  · exact h2 hm
  · exact hn (List.mem_singleton.1 hm).symm
theorem LnS.Pr.done {c : UInt8} {S : List UInt8} {i k : Nat} {row : Option (Nat × List Value)} {l : List (List UInt8)} (h : LnS.Pr c S ⟨i, k, row, l⟩) (hi : i = S.length) : parts c S = l ++ [S.drop k] := by
  have h1 := h.p
  have h2 := h.free
  simp only at h1 h2
  rw [List.take_of_length_le (by rw [List.length_drop]; omega)] at h2
  rw [h1, parts_no h2]
theorem ext_arr (S : List UInt8) (k i : Nat) : (⟨S.toArray⟩ : ByteArray).extract k i = ⟨((S.take i).drop k).toArray⟩ := by
  apply ByteArray.ext
  apply Array.toList_inj.1
  rw [ext_list]
theorem bsV_app (l : List (List UInt8)) (p : List UInt8) : bsV (l ++ [p]) = bsV l ++ [strS p] := by simp [bsV]
theorem bsV_len (l : List (List UInt8)) : (bsV l).length = l.length := by simp [bsV]
theorem sb_arr {S : List UInt8} {i : Nat} (h : i < S.length) : S[i]? = some (sbyte ⟨S.toArray⟩ i) := sbyte_get (s := ⟨S.toArray⟩) (by rw [arr_size]; exact h)
/-- Parts in a row, and what stands behind them. -/
structure LnR where
  l : List (List UInt8)
  z : List UInt8
  row : Option (Nat × List Value)
def LnR.fit (x : LnR) : Prop := match x.row with
  | none => x.l = []
  | some (c, xs) => xs.take x.l.length = bsV x.l ∧ x.l.length ≤ c
def LnR.sl (x : LnR) : SV := match x.row with
  | none => .v (.slice none 0 0)
  | some (c, xs) => .s 0 0 x.l.length c
def LnR.h (x : LnR) : List (Nat × SObj) := match x.row with
  | none => []
  | some (c, xs) => [(0, .row xs 9)]
theorem tLines (fx : List Fact) (S : List UInt8) (hS : S.length ≤ 4000) :
    Tri Tryd.prog 97 [.v (strS S)] [] 0 fx (RetE (α := LnR) 0 (fun x => parts 10 S = x.l ++ [x.z] ∧ x.fit) (fun x => .tup [x.sl, .v (strS x.z)]) LnR.h 1 (fun _ => [])) := by
  have hSs := arr_size S
  refine Tri.of_code tok Tryd.func97 rfl rfl rfl (by decide) rfl (Nat.le_of_ble_eq_true rfl) ?_
  conv => whnf
  repeat' ((first | refine And.intro (by repeat' first | exact trivial | refine And.intro rfl ?_) (And.intro (by first | exact fun _ h => h | exact fun _ => List.mem_cons_of_mem _ | exact fun _ => List.mem_append_right _) ?_) | (refine And.intro (fun h => ?_) (fun h => ?_) <;> (try simp only [n1, n2, n3, n4, n5, n6] at h) <;> first | (exfalso; omega) | (cases h; done) | skip) | refine And.intro (by omega) ?_ | refine Exists.intro _ (And.intro (by first | exact And.intro rfl rfl | exact Pl.den (by repeat constructor) | with_reducible rfl | exact cast_succ _ | assumption | exact (Int.toNat_of_nonneg (by omega)).symm | rfl) ?_) | refine hD _ _ ?_ | refine hL _ _ ?_ | (intro h; (try simp only [n1, n2, n3, n4, n5, n6] at h); first | (exfalso; omega) | (cases h; done) | skip)) <;> (conv => whnf))
  refine loop_by tok (LnS.inv S fx) (LnS.Pr 10 S) (fun x => S.length - x.i) ⟨0, 0, none, []⟩ [] ⟨Nat.zero_le _, Nat.le_refl _, rfl, by simp, rfl⟩ ⟨rfl, ⟨fun _ _ _ => rfl, fun _ _ _ => rfl, fun _ _ _ => rfl, fun _ _ _ => rfl, trivial⟩, trivial, fun f hf => hf⟩ ?_
  rintro ⟨i, k, row, l⟩ hx
  have hi := hx.i
  have hf := hx.f
  have hp := hx.p
  have hfree := hx.free
  have hr := hx.row
  simp only at hi hf hp hfree hr
  cases row with
  | none =>
    obtain rfl : l = [] := hr
    simp only [LnS.inv, LnS.sl, strS]
    conv => whnf
    repeat' ((first | refine And.intro (by repeat' first | exact trivial | refine And.intro rfl ?_) (And.intro (by first | exact fun _ h => h | exact fun _ => List.mem_cons_of_mem _ | exact fun _ => List.mem_append_right _) ?_) | (refine And.intro (fun h => ?_) (fun h => ?_) <;> (try simp only [n1, n2, n3, n4, n5, n6] at h) <;> first | (exfalso; omega) | (cases h; done) | skip) | refine And.intro (by omega) ?_ | refine Exists.intro _ (And.intro (by first | exact And.intro rfl rfl | exact Pl.den (by repeat constructor) | with_reducible rfl | exact cast_succ _ | assumption | exact (Int.toNat_of_nonneg (by omega)).symm | rfl) ?_) | refine hD _ _ ?_ | refine hL _ _ ?_ | (intro h; (try simp only [n1, n2, n3, n4, n5, n6] at h); first | (exfalso; omega) | (cases h; done) | skip)) <;> (conv => whnf))
    · rename_i h10 _ _ m sp
      have hsp := h
      have hc : S[i]? = some 10 := by
        rw [sb_arr (by omega)]
        exact congrArg some (UInt8.toNat_inj.1 (by simpa using (by omega : (sbyte ⟨S.toArray⟩ i).toNat = 10)))
      refine ⟨⟨i + 1, i + 1, some (1 + m, [strS ((S.take i).drop k)] ++ sp), [] ++ [(S.take i).drop k]⟩, [1], ⟨⟨by simp only; omega, Nat.le_refl _, hx.hit hc, by simp, ?_⟩, by simp only; omega⟩, rfl, ⟨fun _ _ _ => rfl, SEq.ren rfl rfl, fun _ _ _ => rfl, fun _ _ _ => rfl, trivial⟩, ⟨OSub.row (by rw [strS, ← ext_arr]; rfl), trivial⟩, fun f hf => hf⟩
      exact ⟨by simp [bsV], by simp [hsp, Nat.add_comm], by simp⟩
    · have hb := sb_arr (S := S) (i := i) (by omega)
      have hne : sbyte ⟨S.toArray⟩ i ≠ 10 := fun e => h (by rw [e]; rfl)
      exact ⟨⟨i + 1, k, none, []⟩, [], ⟨hx.miss hb hne, by simp only; omega⟩, rfl, ⟨fun _ _ _ => rfl, fun _ _ _ => rfl, fun _ _ _ => rfl, fun _ _ _ => rfl, trivial⟩, trivial, fun f hf => hf⟩
    · have hd := hx.done (by omega)
      refine draw_opaque fun KD hD => ?_
      refine draw_all tok (by kernel_rfl) [.any 0, .any 1, .any 2, .any 3, .any 4, .any 5] [] (by kernel_rfl) rfl rfl (by repeat' (first | exact trivial | refine And.intro rfl ?_)) ?_
      conv => whnf
      repeat' ((first | refine And.intro (by repeat' first | exact trivial | refine And.intro rfl ?_) (And.intro (by first | exact fun _ h => h | exact fun _ => List.mem_cons_of_mem _ | exact fun _ => List.mem_append_right _) ?_) | (refine And.intro (fun h => ?_) (fun h => ?_) <;> (try simp only [n1, n2, n3, n4, n5, n6] at h) <;> first | (exfalso; omega) | (cases h; done) | skip) | refine And.intro (by omega) ?_ | refine Exists.intro _ (And.intro (by first | exact And.intro rfl rfl | exact Pl.den (by repeat constructor) | with_reducible rfl | exact cast_succ _ | assumption | exact (Int.toNat_of_nonneg (by omega)).symm | rfl) ?_) | refine hD _ _ ?_ | refine hL _ _ ?_ | (intro h; (try simp only [n1, n2, n3, n4, n5, n6] at h); first | (exfalso; omega) | (cases h; done) | skip)) <;> (conv => whnf))
      have ez : (⟨S.toArray⟩ : ByteArray).extract ((some k).getD 0) (⟨S.toArray⟩ : ByteArray).size = ⟨(S.drop k).toArray⟩ := by
        rw [ext_arr, hSs, List.take_of_length_le (Nat.le_refl _)]; rfl
      exact ⟨⟨[], S.drop k, none⟩, ⟨hd, rfl⟩, Ret.mk [] [] (Fold.refl _) rfl (fun _ _ _ => by simp only [LnR.sl, den, denL_cons, denL_nil, strS, ez]) trivial (fun _ h => by cases h)⟩
  | some r =>
    obtain ⟨c, xs⟩ := r
    simp only at hr
    obtain ⟨hr1, hr2, hr3⟩ := hr
    simp only [LnS.inv, LnS.sl, strS]
    conv => whnf
    repeat' ((first | refine And.intro (by repeat' first | exact trivial | refine And.intro rfl ?_) (And.intro (by first | exact fun _ h => h | exact fun _ => List.mem_cons_of_mem _ | exact fun _ => List.mem_append_right _) ?_) | (refine And.intro (fun h => ?_) (fun h => ?_) <;> (try simp only [n1, n2, n3, n4, n5, n6] at h) <;> first | (exfalso; omega) | (cases h; done) | skip) | refine And.intro (by omega) ?_ | refine Exists.intro _ (And.intro (by first | exact And.intro rfl rfl | exact Pl.den (by repeat constructor) | with_reducible rfl | exact cast_succ _ | assumption | exact (Int.toNat_of_nonneg (by omega)).symm | rfl) ?_) | refine hD _ _ ?_ | refine hL _ _ ?_ | (intro h; (try simp only [n1, n2, n3, n4, n5, n6] at h); first | (exfalso; omega) | (cases h; done) | skip)) <;> (conv => whnf))
    · have hc : S[i]? = some 10 := by
        rw [sb_arr (by omega)]
        exact congrArg some (UInt8.toNat_inj.1 (by simpa using (by omega : (sbyte ⟨S.toArray⟩ i).toNat = 10)))
      have hpc := List.count_le_length (a := (10 : UInt8)) (l := S)
      have hpl := parts_len 10 S
      rw [hp, List.length_append] at hpl
      refine ⟨⟨by omega, hr3, by omega, fun u hu => by obtain rfl := List.mem_singleton.1 hu; rfl⟩, fun m sp hsp => ?_⟩
      conv => whnf
      repeat' ((first | refine And.intro (by repeat' first | exact trivial | refine And.intro rfl ?_) (And.intro (by first | exact fun _ h => h | exact fun _ => List.mem_cons_of_mem _ | exact fun _ => List.mem_append_right _) ?_) | (refine And.intro (fun h => ?_) (fun h => ?_) <;> (try simp only [n1, n2, n3, n4, n5, n6] at h) <;> first | (exfalso; omega) | (cases h; done) | skip) | refine And.intro (by omega) ?_ | refine Exists.intro _ (And.intro (by first | exact And.intro rfl rfl | exact Pl.den (by repeat constructor) | with_reducible rfl | exact cast_succ _ | assumption | exact (Int.toNat_of_nonneg (by omega)).symm | rfl) ?_) | refine hD _ _ ?_ | refine hL _ _ ?_ | (intro h; (try simp only [n1, n2, n3, n4, n5, n6] at h); first | (exfalso; omega) | (cases h; done) | skip)) <;> (conv => whnf))
      refine ⟨⟨i + 1, i + 1, some (l.length + 1 + m, xs.take l.length ++ [strS ((S.take i).drop k)] ++ sp), l ++ [(S.take i).drop k]⟩, [2], ⟨⟨by simp only; omega, Nat.le_refl _, hx.hit hc, by simp, ?_⟩, by simp only; omega⟩, rfl, ⟨fun _ _ _ => rfl, SEq.ren rfl ?_, fun _ _ _ => rfl, fun _ _ _ => rfl, trivial⟩, ⟨OSub.row (by rw [strS, ← ext_arr, Nat.mul_one]; rfl), trivial⟩, fun f hf => hf⟩
      · simp only [List.length_append, List.length_singleton, bsV_app, hr1]
        refine ⟨?_, ?_, by omega⟩
        · rw [List.take_left' (by simp [bsV_len])]
        · simp only [List.length_append, bsV_len, List.length_singleton, hsp]; omega
      · simp only [ren, sg, List.length_append, List.length_singleton]
        rfl
    · have hb := sb_arr (S := S) (i := i) (by omega)
      have hne : sbyte ⟨S.toArray⟩ i ≠ 10 := fun e => h (by rw [e]; rfl)
      exact ⟨⟨i + 1, k, some (c, xs), l⟩, [0], ⟨hx.miss hb hne, by simp only; omega⟩, rfl, ⟨fun _ _ _ => rfl, SEq.ren rfl rfl, fun _ _ _ => rfl, fun _ _ _ => rfl, trivial⟩, ⟨OSub.ren rfl rfl, trivial⟩, fun f hf => hf⟩
    · have hd := hx.done (by omega)
      refine draw_opaque fun KD hD => ?_
      refine draw_all tok (by kernel_rfl) [.any 0, .any 1, .any 2, .any 3, .any 4, .any 5] [] (by kernel_rfl) rfl rfl (by repeat' (first | exact trivial | refine And.intro rfl ?_)) ?_
      conv => whnf
      repeat' ((first | refine And.intro (by repeat' first | exact trivial | refine And.intro rfl ?_) (And.intro (by first | exact fun _ h => h | exact fun _ => List.mem_cons_of_mem _ | exact fun _ => List.mem_append_right _) ?_) | (refine And.intro (fun h => ?_) (fun h => ?_) <;> (try simp only [n1, n2, n3, n4, n5, n6] at h) <;> first | (exfalso; omega) | (cases h; done) | skip) | refine And.intro (by omega) ?_ | refine Exists.intro _ (And.intro (by first | exact And.intro rfl rfl | exact Pl.den (by repeat constructor) | with_reducible rfl | exact cast_succ _ | assumption | exact (Int.toNat_of_nonneg (by omega)).symm | rfl) ?_) | refine hD _ _ ?_ | refine hL _ _ ?_ | (intro h; (try simp only [n1, n2, n3, n4, n5, n6] at h); first | (exfalso; omega) | (cases h; done) | skip)) <;> (conv => whnf))
      have ez : (⟨S.toArray⟩ : ByteArray).extract ((some k).getD 0) (⟨S.toArray⟩ : ByteArray).size = ⟨(S.drop k).toArray⟩ := by
        rw [ext_arr, hSs, List.take_of_length_le (Nat.le_refl _)]; rfl
      refine ⟨⟨l, S.drop k, some (c, xs)⟩, ⟨hd, hr1, hr3⟩, Ret.mk [0] _ (Fold.refl _) rfl (fun ρ ρ'' ha => ?_) ⟨OSub.ren rfl rfl, trivial⟩ (fun _ h => by cases h)⟩
      have e0 : ρ'' 0 = ρ 0 := ha 0 (by omega)
      simp only [LnR.sl, den, denL_cons, denL_nil, strS, ez, e0]
/-! ### The reference's words -/
def LnS.inv2 (S : List UInt8) (fx : List Fact) (x : LnS) : SS := match x.row with
  | none => ⟨[(0, .v (strS S)), (3, .v (.slice none 0 0)), (4, .v (.int .i64 x.from_)), (5, .v (.int .i64 x.i))], [], 0, fx⟩
  | some (c, xs) => ⟨[(0, .v (strS S)), (3, .s 0 0 x.l.length c), (4, .v (.int .i64 x.from_)), (5, .v (.int .i64 x.i))], [(0, .row xs 9)], 1, fx⟩
def LnS.rowOk (x : LnS) : Prop := match x.row with
  | none => x.l = []
  | some (cap, xs) => xs.take x.l.length = bsV x.l ∧ cap = xs.length ∧ x.l.length ≤ cap
def LnS.Pr2 (S : List UInt8) (x : LnS) : Prop := LnS.Pr 32 S x ∨ (x.i = S.length + 1 ∧ x.l = parts 32 S ∧ x.rowOk)
theorem tWords (fx : List Fact) (S : List UInt8) (hS : S.length ≤ 4000) :
    Tri Tryd.prog 132 [.v (strS S)] [] 0 fx (RetE (α := Nat × List Value) 0 (fun x => x.2.take (parts 32 S).length = bsV (parts 32 S) ∧ (parts 32 S).length ≤ x.1) (fun x => .s 0 0 (parts 32 S).length x.1) (fun x => [(0, .row x.2 9)]) 1 (fun _ => [])) := by
  have hSs := arr_size S
  have hcnt := parts_len 32 S
  have hcl := List.count_le_length (a := (32 : UInt8)) (l := S)
  refine Tri.of_code tok Tryd.func132 rfl rfl rfl (by decide) rfl (Nat.le_of_ble_eq_true rfl) ?_
  conv => whnf
  repeat' ((first | refine And.intro (by repeat' first | exact trivial | refine And.intro rfl ?_) (And.intro (by first | exact fun _ h => h | exact fun _ => List.mem_cons_of_mem _ | exact fun _ => List.mem_append_right _) ?_) | (refine And.intro (fun h => ?_) (fun h => ?_) <;> (try simp only [n1, n2, n3, n4, n5, n6] at h) <;> first | (exfalso; omega) | (cases h; done) | skip) | refine And.intro (by omega) ?_ | refine Exists.intro _ (And.intro (by first | exact And.intro rfl rfl | exact Pl.den (by repeat constructor) | with_reducible rfl | exact cast_succ _ | assumption | exact (Int.toNat_of_nonneg (by omega)).symm | rfl) ?_) | refine hD _ _ ?_ | refine hL _ _ ?_ | (intro h; (try simp only [n1, n2, n3, n4, n5, n6] at h); first | (exfalso; omega) | (cases h; done) | skip)) <;> (conv => whnf))
  refine loop_by tok (LnS.inv2 S fx) (LnS.Pr2 S) (fun x => S.length + 1 - x.i) ⟨0, 0, none, []⟩ [] (.inl ⟨Nat.zero_le _, Nat.le_refl _, rfl, by simp, rfl⟩) ⟨rfl, ⟨fun _ _ _ => rfl, fun _ _ _ => rfl, fun _ _ _ => rfl, fun _ _ _ => rfl, trivial⟩, trivial, fun f hf => hf⟩ ?_
  rintro ⟨i, k, row, l⟩ hx
  have hi : i ≤ S.length + 1 := by
    rcases hx with hx | hx
    · exact Nat.le_succ_of_le hx.i
    · exact Nat.le_of_eq hx.1
  have hf : i ≤ S.length → k ≤ i := fun h => by
    rcases hx with hx | hx
    · exact hx.f
    · have := hx.1; simp only at this; omega
  have hlen : l.length ≤ S.length + 1 := by
    rcases hx with hx | hx
    · have := hx.p
      simp only at this
      rw [this, List.length_append] at hcnt
      omega
    · have := hx.2.1
      simp only at this
      rw [this]; omega
  have hin : i ≤ S.length → LnS.Pr 32 S ⟨i, k, row, l⟩ := fun h => by
    rcases hx with hx | hx
    · exact hx
    · have := hx.1; simp only at this; omega
  have c32 : ∀ j, j < S.length → ((sbyte ⟨S.toArray⟩ j).toNat : Int) = 32 → S[j]? = some 32 := fun j hj e => by
    rw [sb_arr hj]
    exact congrArg some (UInt8.toNat_inj.1 (by simpa using (by omega : (sbyte ⟨S.toArray⟩ j).toNat = 32)))
  cases row with
  | none =>
    have hrow : l = [] := by
      rcases hx with hx | hx
      · exact hx.row
      · exact hx.2.2
    subst hrow
    simp only [LnS.inv2, strS]
    conv => whnf
    repeat' ((first | refine And.intro (by repeat' first | exact trivial | refine And.intro rfl ?_) (And.intro (by first | exact fun _ h => h | exact fun _ => List.mem_cons_of_mem _ | exact fun _ => List.mem_append_right _) ?_) | (refine And.intro (fun h => ?_) (fun h => ?_) <;> (try simp only [n1, n2, n3, n4, n5, n6] at h) <;> first | (exfalso; omega) | (cases h; done) | skip) | refine And.intro (by omega) ?_ | refine Exists.intro _ (And.intro (by first | exact And.intro rfl rfl | exact Pl.den (by repeat constructor) | with_reducible rfl | exact cast_succ _ | assumption | exact (Int.toNat_of_nonneg (by omega)).symm | rfl) ?_) | refine hD _ _ ?_ | refine hL _ _ ?_ | (intro h; (try simp only [n1, n2, n3, n4, n5, n6] at h); first | (exfalso; omega) | (cases h; done) | skip)) <;> (conv => whnf))
    · rename_i m sp
      have hsp := h
      have h1 := hin (by omega)
      have hd := h1.done (by omega)
      have hpc : (S.take i).drop k = S.drop k := by rw [List.take_of_length_le (by omega)]
      refine ⟨⟨i + 1, i + 1, some (1 + m, [strS ((S.take i).drop k)] ++ sp), [] ++ [(S.take i).drop k]⟩, [1], ⟨.inr ⟨by simp only; omega, by rw [hpc, hd], ?_⟩, by simp only; omega⟩, rfl, ⟨fun _ _ _ => rfl, SEq.ren rfl rfl, fun _ _ _ => rfl, fun _ _ _ => rfl, trivial⟩, ⟨OSub.row (by rw [strS, ← ext_arr]; rfl), trivial⟩, fun f hf => hf⟩
      exact ⟨by simp [bsV], by simp [hsp, Nat.add_comm], by simp⟩
    · rename_i m sp
      have hsp := h
      have h1 := hin (by omega)
      have hc : S[i]? = some 32 := c32 i (by omega) (by assumption)
      refine ⟨⟨i + 1, i + 1, some (1 + m, [strS ((S.take i).drop k)] ++ sp), [] ++ [(S.take i).drop k]⟩, [1], ⟨.inl ⟨by have := (List.getElem?_eq_some_iff.1 hc).1; simp only; omega, Nat.le_refl _, h1.hit hc, by simp, ?_⟩, by simp only; omega⟩, rfl, ⟨fun _ _ _ => rfl, SEq.ren rfl rfl, fun _ _ _ => rfl, fun _ _ _ => rfl, trivial⟩, ⟨OSub.row (by rw [strS, ← ext_arr]; rfl), trivial⟩, fun f hf => hf⟩
      exact ⟨by simp [bsV], by simp [hsp, Nat.add_comm], by simp⟩
    · have h1 := hin (by omega)
      have hb := sb_arr (S := S) (i := i) (by omega)
      have hne : sbyte ⟨S.toArray⟩ i ≠ 32 := fun e => h (by rw [e]; rfl)
      exact ⟨⟨i + 1, k, none, []⟩, [], ⟨.inl (h1.miss hb hne), by simp only; omega⟩, rfl, ⟨fun _ _ _ => rfl, fun _ _ _ => rfl, fun _ _ _ => rfl, fun _ _ _ => rfl, trivial⟩, trivial, fun f hf => hf⟩
    · exfalso
      rcases hx with hx | hx
      · have := hx.i; simp only at this; omega
      · exact parts_ne 32 S hx.2.1.symm
  | some r =>
    obtain ⟨c, xs⟩ := r
    obtain ⟨hr1, hr2, hr3⟩ : xs.take l.length = bsV l ∧ c = xs.length ∧ l.length ≤ c := by
      rcases hx with hx | hx
      · exact hx.row
      · exact hx.2.2
    simp only [LnS.inv2, strS]
    conv => whnf
    repeat' ((first | refine And.intro (by repeat' first | exact trivial | refine And.intro rfl ?_) (And.intro (by first | exact fun _ h => h | exact fun _ => List.mem_cons_of_mem _ | exact fun _ => List.mem_append_right _) ?_) | (refine And.intro (fun h => ?_) (fun h => ?_) <;> (try simp only [n1, n2, n3, n4, n5, n6] at h) <;> first | (exfalso; omega) | (cases h; done) | skip) | refine And.intro (by omega) ?_ | refine Exists.intro _ (And.intro (by first | exact And.intro rfl rfl | exact Pl.den (by repeat constructor) | with_reducible rfl | exact cast_succ _ | assumption | exact (Int.toNat_of_nonneg (by omega)).symm | rfl) ?_) | refine hD _ _ ?_ | refine hL _ _ ?_ | (intro h; (try simp only [n1, n2, n3, n4, n5, n6] at h); first | (exfalso; omega) | (cases h; done) | skip)) <;> (conv => whnf))
    · have h1 := hin (by omega)
      have hd := h1.done (by omega)
      have hpc : (S.take i).drop k = S.drop k := by rw [List.take_of_length_le (by omega)]
      refine ⟨⟨by omega, hr3, by omega, fun u hu => by obtain rfl := List.mem_singleton.1 hu; rfl⟩, fun m sp hsp => ?_⟩
      conv => whnf
      repeat' ((first | refine And.intro (by repeat' first | exact trivial | refine And.intro rfl ?_) (And.intro (by first | exact fun _ h => h | exact fun _ => List.mem_cons_of_mem _ | exact fun _ => List.mem_append_right _) ?_) | (refine And.intro (fun h => ?_) (fun h => ?_) <;> (try simp only [n1, n2, n3, n4, n5, n6] at h) <;> first | (exfalso; omega) | (cases h; done) | skip) | refine And.intro (by omega) ?_ | refine Exists.intro _ (And.intro (by first | exact And.intro rfl rfl | exact Pl.den (by repeat constructor) | with_reducible rfl | exact cast_succ _ | assumption | exact (Int.toNat_of_nonneg (by omega)).symm | rfl) ?_) | refine hD _ _ ?_ | refine hL _ _ ?_ | (intro h; (try simp only [n1, n2, n3, n4, n5, n6] at h); first | (exfalso; omega) | (cases h; done) | skip)) <;> (conv => whnf))
      refine ⟨⟨i + 1, i + 1, some (l.length + 1 + m, xs.take l.length ++ [strS ((S.take i).drop k)] ++ sp), l ++ [(S.take i).drop k]⟩, [2], ⟨.inr ⟨by simp only; omega, by rw [hpc, hd], ?_⟩, by simp only; omega⟩, rfl, ⟨fun _ _ _ => rfl, SEq.ren rfl ?_, fun _ _ _ => rfl, fun _ _ _ => rfl, trivial⟩, ⟨OSub.row (by rw [strS, ← ext_arr, Nat.mul_one]; rfl), trivial⟩, fun f hf => hf⟩
      · simp only [LnS.rowOk, List.length_append, List.length_singleton, bsV_app, hr1]
        refine ⟨?_, ?_, by omega⟩
        · rw [List.take_left' (by simp [bsV_len])]
        · simp only [List.length_append, bsV_len, List.length_singleton, hsp]; omega
      · simp only [ren, sg, List.length_append, List.length_singleton]
        rfl
    · have h1 := hin (by omega)
      have hc : S[i]? = some 32 := c32 i (by omega) (by assumption)
      refine ⟨⟨by omega, hr3, by omega, fun u hu => by obtain rfl := List.mem_singleton.1 hu; rfl⟩, fun m sp hsp => ?_⟩
      conv => whnf
      repeat' ((first | refine And.intro (by repeat' first | exact trivial | refine And.intro rfl ?_) (And.intro (by first | exact fun _ h => h | exact fun _ => List.mem_cons_of_mem _ | exact fun _ => List.mem_append_right _) ?_) | (refine And.intro (fun h => ?_) (fun h => ?_) <;> (try simp only [n1, n2, n3, n4, n5, n6] at h) <;> first | (exfalso; omega) | (cases h; done) | skip) | refine And.intro (by omega) ?_ | refine Exists.intro _ (And.intro (by first | exact And.intro rfl rfl | exact Pl.den (by repeat constructor) | with_reducible rfl | exact cast_succ _ | assumption | exact (Int.toNat_of_nonneg (by omega)).symm | rfl) ?_) | refine hD _ _ ?_ | refine hL _ _ ?_ | (intro h; (try simp only [n1, n2, n3, n4, n5, n6] at h); first | (exfalso; omega) | (cases h; done) | skip)) <;> (conv => whnf))
      refine ⟨⟨i + 1, i + 1, some (l.length + 1 + m, xs.take l.length ++ [strS ((S.take i).drop k)] ++ sp), l ++ [(S.take i).drop k]⟩, [2], ⟨.inl ⟨by have := (List.getElem?_eq_some_iff.1 hc).1; simp only; omega, Nat.le_refl _, h1.hit hc, by simp, ?_⟩, by simp only; omega⟩, rfl, ⟨fun _ _ _ => rfl, SEq.ren rfl ?_, fun _ _ _ => rfl, fun _ _ _ => rfl, trivial⟩, ⟨OSub.row (by rw [strS, ← ext_arr, Nat.mul_one]; rfl), trivial⟩, fun f hf => hf⟩
      · simp only [List.length_append, List.length_singleton, bsV_app, hr1]
        refine ⟨?_, ?_, by omega⟩
        · rw [List.take_left' (by simp [bsV_len])]
        · simp only [List.length_append, bsV_len, List.length_singleton, hsp]; omega
      · simp only [ren, sg, List.length_append, List.length_singleton]
        rfl
    · have h1 := hin (by omega)
      have hb := sb_arr (S := S) (i := i) (by omega)
      have hne : sbyte ⟨S.toArray⟩ i ≠ 32 := fun e => h (by rw [e]; rfl)
      exact ⟨⟨i + 1, k, some (c, xs), l⟩, [0], ⟨.inl (h1.miss hb hne), by simp only; omega⟩, rfl, ⟨fun _ _ _ => rfl, SEq.ren rfl rfl, fun _ _ _ => rfl, fun _ _ _ => rfl, trivial⟩, ⟨OSub.ren rfl rfl, trivial⟩, fun f hf => hf⟩
    · have hl2 : l = parts 32 S := by
        rcases hx with hx | hx
        · have := hx.i; simp only at this; omega
        · exact hx.2.1
      refine ⟨(c, xs), ⟨by rw [← hl2]; exact hr1, by rw [← hl2]; exact hr3⟩, ?_⟩
      rw [← hl2]
      exact Ret.mk [0] _ (Fold.refl _) rfl (SEq.ren rfl rfl) ⟨OSub.ren rfl rfl, trivial⟩ (fun g hg => by cases hg)
end Go.Proofs.YtekgjjanikicnaaDoor.Sx

namespace Go.Proofs.YtekgjjanikicnaaDoor.Sx
open Go Go.RowKit
set_option maxRecDepth 100000
set_option linter.unusedSimpArgs false
set_option linter.unusedVariables false
theorem SgR.ref {fx fs : List Fact} {l : List UInt8} {sg : Sg} (h : ∀ s, IsSig l s → s = sg.pl) (hf : sg.Fit (fs ++ fx)) : SgR.pr fx l ⟨sg, (rLine sg == l ++ [10]), fs⟩ := by
  refine ⟨fun e => ?_, fun e s hs => ?_⟩
  · have e1 := beq_iff_eq.1 e
    have hok : sg.ok = true := by
      cases ho : sg.ok with
      | true => rfl
      | false =>
        unfold rLine at e1
        rw [ho] at e1
        simp at e1
    unfold rLine at e1
    rw [if_pos hok] at e1
    exact ⟨⟨hok, hf.num, e1⟩, hf⟩
  · have e1 := h s hs
    obtain ⟨e2, e3⟩ := ok_pl (s := s.sg) (t := sg) (by rw [Sp.pl]; exact e1)
    have e4 := hs.ok
    rw [e2] at e4
    have e5 := hs.line
    rw [e3] at e5
    simp only at e
    unfold rLine at e
    rw [if_pos e4, e5, beq_self_eq_true] at e
    cases e
theorem tRefSig (fx : List Fact) (l : List UInt8) (hl : l.length ≤ 4000) :
    Tri Tryd.prog 99 [.v (strS l)] [] 0 fx (RetE (α := SgR) 0 (SgR.pr fx l) SgR.v (fun _ => []) 0 SgR.f) := by
  have hls := arr_size l
  have h10 : (⟨#[10]⟩ : ByteArray).size = 1 := rfl
  have el10 : ((⟨l.toArray⟩ : ByteArray) ++ ⟨#[10]⟩).data.toList = l ++ [10] := by rw [app_list]
  have T := tWords fx l hl
  by_cases h5 : (parts 32 l).length = 5
  · obtain ⟨p0, p1, p2, p3, p4, e⟩ := five_of h5
    have hsp : ∀ s, IsSig l s → p0 = [115, 105, 103] ∧ p1 = s.name ∧ p2 = [s.kind] ∧ p3 = Lib.decDigits s.num ∧ p4 = enc s.bs := fun s hs => by
      have := e.symm.trans (sig_parts hs)
      simpa using this
    have hpl : ∀ p ∈ parts 32 l, p.length ≤ l.length := parts_le 32 l
    rw [e] at hpl
    have hl3 := hpl p3 (by simp)
    have hl4 := hpl p4 (by simp)
    have hl1 := hpl p1 (by simp)
    have hs2 := arr_size p2
    have hs3 := arr_size p3
    have hs4 := arr_size p4
    rw [e] at T
    have T' : Tri Tryd.prog 132 [.v (strS l)] [] 0 fx (RetE (α := Nat × List Value) 0 (fun x => x.2.take 5 = [strS p0, strS p1, strS p2, strS p3, strS p4] ∧ 5 ≤ x.1) (fun x => .s 0 0 5 x.1) (fun x => [(0, .row x.2 9)]) 1 (fun _ => [])) := T
    refine Tri.of_code tok Tryd.func99 rfl rfl rfl (by decide) rfl (Nat.le_of_ble_eq_true rfl) ?_
    conv => whnf
    repeat' ((first | refine And.intro (by repeat' first | exact trivial | refine And.intro rfl ?_) (And.intro (by first | exact fun _ h => h | exact fun _ => List.mem_cons_of_mem _ | exact fun _ => List.mem_append_right _) ?_) | (refine And.intro (fun h => ?_) (fun h => ?_) <;> (try simp only [n1, n2, n3, n4, n5, n6] at h) <;> first | (exfalso; omega) | (cases h; done) | skip) | refine And.intro (by omega) ?_ | refine Exists.intro _ (And.intro (by first | exact And.intro rfl rfl | exact Pl.den (by repeat constructor) | with_reducible rfl | exact cast_succ _ | assumption | exact (Int.toNat_of_nonneg (by omega)).symm | rfl) ?_) | refine hD _ _ ?_ | refine hL _ _ ?_ | (intro h; (try simp only [n1, n2, n3, n4, n5, n6] at h); first | (exfalso; omega) | (cases h; done) | skip)) <;> (conv => whnf))
    refine Tri.use T' [] rfl (fun _ _ _ => rfl) trivial (fun f hf => by first | exact hf | cases hf) (fun x hx => ?_)
    obtain ⟨c0, xs⟩ := x
    obtain ⟨hx1, hx2⟩ := hx
    have hxi : ∀ (j : Nat) (v : Value), [strS p0, strS p1, strS p2, strS p3, strS p4][j]? = some v → xs[0 + j * 1]? = some v := fun j v hj => by
      rw [← hx1] at hj
      have hlt := (List.getElem?_eq_some_iff.1 hj).1
      rw [List.length_take] at hlt
      rwa [List.getElem?_take, if_pos (by omega), ← Nat.mul_one j, ← Nat.zero_add (j * 1)] at hj
    conv => whnf
    repeat' ((first | (refine Exists.intro _ (And.intro (hxi 2 _ rfl) ?_)) | (refine Exists.intro _ (And.intro (hxi 3 _ rfl) ?_)) | refine And.intro (by repeat' first | exact trivial | refine And.intro rfl ?_) (And.intro (by first | exact fun _ h => h | exact fun _ => List.mem_cons_of_mem _ | exact fun _ => List.mem_append_right _) ?_) | (refine And.intro (fun h => ?_) (fun h => ?_) <;> (try simp only [n1, n2, n3, n4, n5, n6] at h) <;> first | (exfalso; omega) | (cases h; done) | skip) | refine And.intro (by omega) ?_ | refine Exists.intro _ (And.intro (by first | exact And.intro rfl rfl | exact Pl.den (by repeat constructor) | with_reducible rfl | exact cast_succ _ | assumption | exact (Int.toNat_of_nonneg (by omega)).symm | rfl) ?_) | refine hD _ _ ?_ | refine hL _ _ ?_ | (intro h; (try simp only [n1, n2, n3, n4, n5, n6] at h); first | (exfalso; omega) | (cases h; done) | skip)) <;> (conv => whnf))
    · exact ⟨⟨nilSg, false, []⟩, ⟨fun h => (by cases h), fun _ s hs => by rw [hs2, (hsp s hs).2.2.1] at h; simp at h⟩, Ret.noneS rfl (fun _ _ => rfl) (fun g hg => by cases hg)⟩
    obtain ⟨c, hc⟩ : ∃ c, p2 = [c] := List.length_eq_one_iff.1 (by omega)
    subst hc
    have T3 := tRefNumber fx ⟨p3.toArray⟩ (by omega)
    have el3 : (⟨p3.toArray⟩ : ByteArray).data.toList = p3 := rfl
    rw [el3] at T3
    have T4 := tRefDecode fx ⟨p4.toArray⟩ (by omega)
    have el4 : (⟨p4.toArray⟩ : ByteArray).data.toList = p4 := rfl
    rw [el4] at T4
    cases hn : numOf p3 with
    | none =>
      have hnum : ∀ s, IsSig l s → s.num = 0 := fun s hs => by
        have := numOf_dec (u := s.num) (by have := hs.num; omega)
        rw [← (hsp s hs).2.2.2.1, hn] at this
        cases this
      rw [hn] at T3
      refine Tri.use (T3.one) [] rfl (fun _ _ _ => rfl) trivial (fun f hf => by first | exact hf | cases hf) (fun u hu => ?_)
      conv => whnf
      repeat' ((first | (refine Exists.intro _ (And.intro (hxi 4 _ rfl) ?_)) | refine And.intro (by repeat' first | exact trivial | refine And.intro rfl ?_) (And.intro (by first | exact fun _ h => h | exact fun _ => List.mem_cons_of_mem _ | exact fun _ => List.mem_append_right _) ?_) | (refine And.intro (fun h => ?_) (fun h => ?_) <;> (try simp only [n1, n2, n3, n4, n5, n6] at h) <;> first | (exfalso; omega) | (cases h; done) | skip) | refine And.intro (by omega) ?_ | refine Exists.intro _ (And.intro (by first | exact And.intro rfl rfl | exact Pl.den (by repeat constructor) | with_reducible rfl | exact cast_succ _ | assumption | exact (Int.toNat_of_nonneg (by omega)).symm | rfl) ?_) | refine hD _ _ ?_ | refine hL _ _ ?_ | (intro h; (try simp only [n1, n2, n3, n4, n5, n6] at h); first | (exfalso; omega) | (cases h; done) | skip)) <;> (conv => whnf))
      refine Tri.use (T4) [] rfl (fun _ _ _ => rfl) trivial (fun f hf => by first | exact hf | cases hf) (fun y hy => ?_)
      obtain ⟨A, bs, cap, okd, fs⟩ := y
      have hxno := hy.no
      have hxyes := hy.yes
      have hxat := hy.at_
      have hxcap := hy.cap
      simp only at hxno hxyes hxat hxcap
      have hbl : bs.length ≤ 4000 := by
        cases okd with
        | false => rw [(hxno rfl).1]; simp
        | true => have := enc_length bs; rw [← hxyes rfl] at this; omega
      have hbs : ∀ s, IsSig l s → bs = s.bs := fun s hs => by
        have h4 := (hsp s hs).2.2.2.2
        cases okd with
        | false => exact absurd h4 ((hxno rfl).2 s.bs)
        | true => exact enc_inj ((hxyes rfl).symm.trans h4)
      have hfit : Sg.Fit (fs ++ fx) ⟨⟨p1.toArray⟩, c, 0, A, cap, bs⟩ := ⟨by simp only [arr_size]; omega, by simp only; omega, hxat.mono fun f hf => List.mem_append_left _ hf, hxcap, by simp only; omega⟩
      have hun : ∀ s, IsSig l s → s = Sg.pl ⟨⟨p1.toArray⟩, c, 0, A, cap, bs⟩ := fun s hs => by
        obtain ⟨_, q1, q2, q3, q4⟩ := hsp s hs
        have e2 := hbs s hs
        have e3 := hnum s hs
        obtain ⟨nm, kd, nu, b⟩ := s
        simp only at q1 q2 e2 e3
        simp only [Sg.pl, Sp.mk.injEq]
        exact ⟨q1.symm, (List.cons.inj q2).1.symm, e3, e2.symm⟩
      conv => whnf
      refine appFK_in ?_
      conv => whnf
      repeat' ((first | refine And.intro (by repeat' first | exact trivial | refine And.intro rfl ?_) (And.intro (by first | exact fun _ h => h | exact fun _ => List.mem_cons_of_mem _ | exact fun _ => List.mem_append_right _) ?_) | (refine And.intro (fun h => ?_) (fun h => ?_) <;> (try simp only [n1, n2, n3, n4, n5, n6] at h) <;> first | (exfalso; omega) | (cases h; done) | skip) | refine And.intro (by omega) ?_ | refine Exists.intro _ (And.intro (by first | exact And.intro rfl rfl | exact Pl.den (by repeat constructor) | with_reducible rfl | exact cast_succ _ | assumption | exact (Int.toNat_of_nonneg (by omega)).symm | rfl) ?_) | refine hD _ _ ?_ | refine hL _ _ ?_ | (intro h; (try simp only [n1, n2, n3, n4, n5, n6] at h); first | (exfalso; omega) | (cases h; done) | skip)) <;> (conv => whnf))
      refine draw_opaque fun KD hD => ?_
      refine draw_all tok (by kernel_rfl) [.any 0, .any 1, .any 3, .any 4, .any 7, .any 8, .any 9, .any 10, .load 2, .load 5, .any 6, .any 11, .new 12, .last 13] [13] (by kernel_rfl) rfl rfl (by repeat' (first | exact trivial | refine And.intro rfl ?_)) ?_
      conv => whnf
      repeat' ((first | (refine Exists.intro _ (And.intro (hxi 1 _ rfl) ?_)) | (refine Exists.intro _ (And.intro (hxi 2 _ rfl) ?_)) | refine And.intro (by repeat' first | exact trivial | refine And.intro rfl ?_) (And.intro (by first | exact fun _ h => h | exact fun _ => List.mem_cons_of_mem _ | exact fun _ => List.mem_append_right _) ?_) | (refine And.intro (fun h => ?_) (fun h => ?_) <;> (try simp only [n1, n2, n3, n4, n5, n6] at h) <;> first | (exfalso; omega) | (cases h; done) | skip) | refine And.intro (by omega) ?_ | refine Exists.intro _ (And.intro (by first | exact And.intro rfl rfl | exact Pl.den (by repeat constructor) | with_reducible rfl | exact cast_succ _ | assumption | exact (Int.toNat_of_nonneg (by omega)).symm | rfl) ?_) | refine hD _ _ ?_ | refine hL _ _ ?_ | (intro h; (try simp only [n1, n2, n3, n4, n5, n6] at h); first | (exfalso; omega) | (cases h; done) | skip)) <;> (conv => whnf))
      refine draw_opaque fun KD hD => ?_
      refine draw_all tok (by kernel_rfl) [.any 3, .any 4, .load 0, .one 1, .one 2, .any 5, .last 6, .any 7] [6] (by kernel_rfl) rfl rfl (by repeat' (first | exact trivial | refine And.intro rfl ?_)) ?_
      conv => whnf
      repeat' ((first | refine And.intro (by repeat' first | exact trivial | refine And.intro rfl ?_) (And.intro (by first | exact fun _ h => h | exact fun _ => List.mem_cons_of_mem _ | exact fun _ => List.mem_append_right _) ?_) | (refine And.intro (fun h => ?_) (fun h => ?_) <;> (try simp only [n1, n2, n3, n4, n5, n6] at h) <;> first | (exfalso; omega) | (cases h; done) | skip) | refine And.intro (by omega) ?_ | refine Exists.intro _ (And.intro (by first | exact And.intro rfl rfl | exact Pl.den (by repeat constructor) | with_reducible rfl | exact cast_succ _ | assumption | exact (Int.toNat_of_nonneg (by omega)).symm | rfl) ?_) | refine hD _ _ ?_ | refine hL _ _ ?_ | (intro h; (try simp only [n1, n2, n3, n4, n5, n6] at h); first | (exfalso; omega) | (cases h; done) | skip)) <;> (conv => whnf))
      have T2 : Tri Tryd.prog 84 [.v (Sg.v ⟨⟨p1.toArray⟩, c, 0, A, cap, bs⟩)] [] 0 (fs ++ fx) (Ret 0 (.v (strS (rLine ⟨⟨p1.toArray⟩, c, 0, A, cap, bs⟩))) [] 0 []) := tRefLine (fs ++ fx) _ hfit
      refine Tri.use (T2.one) [] rfl (fun _ _ _ => by simp only [denL_cons, denL_nil, den, el10]; try rfl) trivial (fun f hf => by first | exact hf | cases hf) (fun v hv => ?_)
      conv => whnf
      repeat' ((first | (refine And.intro (by rw [hls, h10]; omega) ?_) | refine And.intro (by repeat' first | exact trivial | refine And.intro rfl ?_) (And.intro (by first | exact fun _ h => h | exact fun _ => List.mem_cons_of_mem _ | exact fun _ => List.mem_append_right _) ?_) | (refine And.intro (fun h => ?_) (fun h => ?_) <;> (try simp only [n1, n2, n3, n4, n5, n6] at h) <;> first | (exfalso; omega) | (cases h; done) | skip) | refine And.intro (by omega) ?_ | refine Exists.intro _ (And.intro (by first | exact And.intro rfl rfl | exact Pl.den (by repeat constructor) | with_reducible rfl | exact cast_succ _ | assumption | exact (Int.toNat_of_nonneg (by omega)).symm | rfl) ?_) | refine hD _ _ ?_ | refine hL _ _ ?_ | (intro h; (try simp only [n1, n2, n3, n4, n5, n6] at h); first | (exfalso; omega) | (cases h; done) | skip)) <;> (conv => whnf))
      exact ⟨⟨⟨⟨p1.toArray⟩, c, 0, A, cap, bs⟩, _, fs⟩, SgR.ref hun hfit, Ret.noneS rfl (fun _ _ => by simp only [SgR.v, Sg.v, Sg.cells, den, denL_cons, denL_nil, el10]; rfl) (fun g hg => List.mem_append_left _ hg)⟩
    | some n =>
      obtain ⟨hn64, hdn⟩ := numOf_some hn
      have ew : IntKind.u32.wrap ((n : Int) % 4294967296) = ((n % 4294967296 : Nat) : Int) := by
        have := wrap_u32_nat (n % 4294967296)
        rw [Nat.mod_mod] at this
        exact this
      have hnum : ∀ s, IsSig l s → s.num = n % 4294967296 := fun s hs => by
        have h1 := hs.num
        have e1 := dec_inj (by omega) hn64 ((hsp s hs).2.2.2.1.symm.trans hdn.symm)
        omega
      rw [hn] at T3
      refine Tri.use (T3.one) [] rfl (fun _ _ _ => rfl) trivial (fun f hf => by first | exact hf | cases hf) (fun u hu => ?_)
      conv => whnf
      repeat' ((first | (refine Exists.intro _ (And.intro (hxi 4 _ rfl) ?_)) | refine And.intro (by repeat' first | exact trivial | refine And.intro rfl ?_) (And.intro (by first | exact fun _ h => h | exact fun _ => List.mem_cons_of_mem _ | exact fun _ => List.mem_append_right _) ?_) | (refine And.intro (fun h => ?_) (fun h => ?_) <;> (try simp only [n1, n2, n3, n4, n5, n6] at h) <;> first | (exfalso; omega) | (cases h; done) | skip) | refine And.intro (by omega) ?_ | refine Exists.intro _ (And.intro (by first | exact And.intro rfl rfl | exact Pl.den (by repeat constructor) | with_reducible rfl | exact cast_succ _ | assumption | exact (Int.toNat_of_nonneg (by omega)).symm | rfl) ?_) | refine hD _ _ ?_ | refine hL _ _ ?_ | (intro h; (try simp only [n1, n2, n3, n4, n5, n6] at h); first | (exfalso; omega) | (cases h; done) | skip)) <;> (conv => whnf))
      refine Tri.use (T4) [] rfl (fun _ _ _ => rfl) trivial (fun f hf => by first | exact hf | cases hf) (fun y hy => ?_)
      obtain ⟨A, bs, cap, okd, fs⟩ := y
      have hxno := hy.no
      have hxyes := hy.yes
      have hxat := hy.at_
      have hxcap := hy.cap
      simp only at hxno hxyes hxat hxcap
      have hbl : bs.length ≤ 4000 := by
        cases okd with
        | false => rw [(hxno rfl).1]; simp
        | true => have := enc_length bs; rw [← hxyes rfl] at this; omega
      have hbs : ∀ s, IsSig l s → bs = s.bs := fun s hs => by
        have h4 := (hsp s hs).2.2.2.2
        cases okd with
        | false => exact absurd h4 ((hxno rfl).2 s.bs)
        | true => exact enc_inj ((hxyes rfl).symm.trans h4)
      have hfit : Sg.Fit (fs ++ fx) ⟨⟨p1.toArray⟩, c, n % 4294967296, A, cap, bs⟩ := ⟨by simp only [arr_size]; omega, Nat.mod_lt _ (by omega), hxat.mono fun f hf => List.mem_append_left _ hf, hxcap, by simp only; omega⟩
      have hun : ∀ s, IsSig l s → s = Sg.pl ⟨⟨p1.toArray⟩, c, n % 4294967296, A, cap, bs⟩ := fun s hs => by
        obtain ⟨_, q1, q2, q3, q4⟩ := hsp s hs
        have e2 := hbs s hs
        have e3 := hnum s hs
        obtain ⟨nm, kd, nu, b⟩ := s
        simp only at q1 q2 e2 e3
        simp only [Sg.pl, Sp.mk.injEq]
        exact ⟨q1.symm, (List.cons.inj q2).1.symm, e3, e2.symm⟩
      conv => whnf
      refine appFK_in ?_
      conv => whnf
      repeat' ((first | refine And.intro (by repeat' first | exact trivial | refine And.intro rfl ?_) (And.intro (by first | exact fun _ h => h | exact fun _ => List.mem_cons_of_mem _ | exact fun _ => List.mem_append_right _) ?_) | (refine And.intro (fun h => ?_) (fun h => ?_) <;> (try simp only [n1, n2, n3, n4, n5, n6] at h) <;> first | (exfalso; omega) | (cases h; done) | skip) | refine And.intro (by omega) ?_ | refine Exists.intro _ (And.intro (by first | exact And.intro rfl rfl | exact Pl.den (by repeat constructor) | with_reducible rfl | exact cast_succ _ | assumption | exact (Int.toNat_of_nonneg (by omega)).symm | rfl) ?_) | refine hD _ _ ?_ | refine hL _ _ ?_ | (intro h; (try simp only [n1, n2, n3, n4, n5, n6] at h); first | (exfalso; omega) | (cases h; done) | skip)) <;> (conv => whnf))
      refine draw_opaque fun KD hD => ?_
      refine draw_all tok (by kernel_rfl) [.any 0, .any 1, .any 3, .any 4, .any 7, .any 8, .any 9, .any 10, .load 2, .load 5, .any 6, .any 11, .new 12, .last 13] [13] (by kernel_rfl) rfl rfl (by repeat' (first | exact trivial | refine And.intro rfl ?_)) ?_
      conv => whnf
      repeat' ((first | (refine Exists.intro _ (And.intro (hxi 1 _ rfl) ?_)) | (refine Exists.intro _ (And.intro (hxi 2 _ rfl) ?_)) | refine And.intro (by repeat' first | exact trivial | refine And.intro rfl ?_) (And.intro (by first | exact fun _ h => h | exact fun _ => List.mem_cons_of_mem _ | exact fun _ => List.mem_append_right _) ?_) | (refine And.intro (fun h => ?_) (fun h => ?_) <;> (try simp only [n1, n2, n3, n4, n5, n6] at h) <;> first | (exfalso; omega) | (cases h; done) | skip) | refine And.intro (by omega) ?_ | refine Exists.intro _ (And.intro (by first | exact And.intro rfl rfl | exact Pl.den (by repeat constructor) | with_reducible rfl | exact cast_succ _ | assumption | exact (Int.toNat_of_nonneg (by omega)).symm | rfl) ?_) | refine hD _ _ ?_ | refine hL _ _ ?_ | (intro h; (try simp only [n1, n2, n3, n4, n5, n6] at h); first | (exfalso; omega) | (cases h; done) | skip)) <;> (conv => whnf))
      refine draw_opaque fun KD hD => ?_
      refine draw_all tok (by kernel_rfl) [.any 3, .any 4, .load 0, .one 1, .one 2, .any 5, .last 6, .any 7] [6] (by kernel_rfl) rfl rfl (by repeat' (first | exact trivial | refine And.intro rfl ?_)) ?_
      conv => whnf
      repeat' ((first | refine And.intro (by repeat' first | exact trivial | refine And.intro rfl ?_) (And.intro (by first | exact fun _ h => h | exact fun _ => List.mem_cons_of_mem _ | exact fun _ => List.mem_append_right _) ?_) | (refine And.intro (fun h => ?_) (fun h => ?_) <;> (try simp only [n1, n2, n3, n4, n5, n6] at h) <;> first | (exfalso; omega) | (cases h; done) | skip) | refine And.intro (by omega) ?_ | refine Exists.intro _ (And.intro (by first | exact And.intro rfl rfl | exact Pl.den (by repeat constructor) | with_reducible rfl | exact cast_succ _ | assumption | exact (Int.toNat_of_nonneg (by omega)).symm | rfl) ?_) | refine hD _ _ ?_ | refine hL _ _ ?_ | (intro h; (try simp only [n1, n2, n3, n4, n5, n6] at h); first | (exfalso; omega) | (cases h; done) | skip)) <;> (conv => whnf))
      have T2 : Tri Tryd.prog 84 [.v (Sg.v ⟨⟨p1.toArray⟩, c, n % 4294967296, A, cap, bs⟩)] [] 0 (fs ++ fx) (Ret 0 (.v (strS (rLine ⟨⟨p1.toArray⟩, c, n % 4294967296, A, cap, bs⟩))) [] 0 []) := tRefLine (fs ++ fx) _ hfit
      refine Tri.use (T2.one) [] rfl (fun _ _ _ => by simp only [denL_cons, denL_nil, den, ew]; try rfl) trivial (fun f hf => by first | exact hf | cases hf) (fun v hv => ?_)
      conv => whnf
      repeat' ((first | (refine And.intro (by rw [hls, h10]; omega) ?_) | refine And.intro (by repeat' first | exact trivial | refine And.intro rfl ?_) (And.intro (by first | exact fun _ h => h | exact fun _ => List.mem_cons_of_mem _ | exact fun _ => List.mem_append_right _) ?_) | (refine And.intro (fun h => ?_) (fun h => ?_) <;> (try simp only [n1, n2, n3, n4, n5, n6] at h) <;> first | (exfalso; omega) | (cases h; done) | skip) | refine And.intro (by omega) ?_ | refine Exists.intro _ (And.intro (by first | exact And.intro rfl rfl | exact Pl.den (by repeat constructor) | with_reducible rfl | exact cast_succ _ | assumption | exact (Int.toNat_of_nonneg (by omega)).symm | rfl) ?_) | refine hD _ _ ?_ | refine hL _ _ ?_ | (intro h; (try simp only [n1, n2, n3, n4, n5, n6] at h); first | (exfalso; omega) | (cases h; done) | skip)) <;> (conv => whnf))
      exact ⟨⟨⟨⟨p1.toArray⟩, c, n % 4294967296, A, cap, bs⟩, _, fs⟩, SgR.ref hun hfit, Ret.noneS rfl (fun _ _ => by simp only [SgR.v, Sg.v, Sg.cells, den, denL_cons, denL_nil, ew, el10]; rfl) (fun g hg => List.mem_append_left _ hg)⟩
  · have hno : ∀ s, ¬ IsSig l s := fun s hs => h5 (by rw [sig_parts hs]; rfl)
    refine Tri.of_code tok Tryd.func99 rfl rfl rfl (by decide) rfl (Nat.le_of_ble_eq_true rfl) ?_
    conv => whnf
    repeat' ((first | refine And.intro (by repeat' first | exact trivial | refine And.intro rfl ?_) (And.intro (by first | exact fun _ h => h | exact fun _ => List.mem_cons_of_mem _ | exact fun _ => List.mem_append_right _) ?_) | (refine And.intro (fun h => ?_) (fun h => ?_) <;> (try simp only [n1, n2, n3, n4, n5, n6] at h) <;> first | (exfalso; omega) | (cases h; done) | skip) | refine And.intro (by omega) ?_ | refine Exists.intro _ (And.intro (by first | exact And.intro rfl rfl | exact Pl.den (by repeat constructor) | with_reducible rfl | exact cast_succ _ | assumption | exact (Int.toNat_of_nonneg (by omega)).symm | rfl) ?_) | refine hD _ _ ?_ | refine hL _ _ ?_ | (intro h; (try simp only [n1, n2, n3, n4, n5, n6] at h); first | (exfalso; omega) | (cases h; done) | skip)) <;> (conv => whnf))
    refine Tri.use T [] rfl (fun _ _ _ => rfl) trivial (fun f hf => by first | exact hf | cases hf) (fun x hx => ?_)
    conv => whnf
    repeat' ((first | refine And.intro (by repeat' first | exact trivial | refine And.intro rfl ?_) (And.intro (by first | exact fun _ h => h | exact fun _ => List.mem_cons_of_mem _ | exact fun _ => List.mem_append_right _) ?_) | (refine And.intro (fun h => ?_) (fun h => ?_) <;> (try simp only [n1, n2, n3, n4, n5, n6] at h) <;> first | (exfalso; omega) | (cases h; done) | skip) | refine And.intro (by omega) ?_ | refine Exists.intro _ (And.intro (by first | exact And.intro rfl rfl | exact Pl.den (by repeat constructor) | with_reducible rfl | exact cast_succ _ | assumption | exact (Int.toNat_of_nonneg (by omega)).symm | rfl) ?_) | refine hD _ _ ?_ | refine hL _ _ ?_ | (intro h; (try simp only [n1, n2, n3, n4, n5, n6] at h); first | (exfalso; omega) | (cases h; done) | skip)) <;> (conv => whnf))
    exact ⟨⟨nilSg, false, []⟩, ⟨fun h => (by cases h), fun _ => hno⟩, Ret.noneS rfl (fun _ _ => rfl) (fun g hg => by cases hg)⟩
end Go.Proofs.YtekgjjanikicnaaDoor.Sx

namespace Go.Proofs.YtekgjjanikicnaaDoor.Sx
open Go Go.RowKit
set_option maxRecDepth 100000
set_option linter.unusedSimpArgs false
set_option linter.unusedVariables false
structure WmI where
  i : Nat
  o : List UInt8
  b : Bool
theorem tRefWriteMany (fx : List Fact) (d : Hd) (hf : d.Fit) (A : Option Addr) (l : List Sg) (cap : Nat) (hS : SgsAt fx A l) (hl : 8 < l.length) (hl2 : l.length ≤ 4000) :
    Tri Tryd.prog 38 [.v d.v, .v (.slice A l.length cap)] [] 0 fx (RetE (α := List UInt8 × Nat) 0 (fun x => x.2 ≠ 0) (fun x => .tup [.v (strS x.1), .v (.int .i64 (x.2 : Nat))]) (fun _ => []) 0 (fun _ => [])) := by
  refine Tri.of_code tok Tryd.func38 rfl rfl rfl (by decide) rfl (Nat.le_of_ble_eq_true rfl) ?_
  conv => whnf
  repeat' ((first | refine And.intro (by repeat' first | exact trivial | refine And.intro rfl ?_) (And.intro (by first | exact fun _ h => h | exact fun _ => List.mem_cons_of_mem _ | exact fun _ => List.mem_append_right _) ?_) | (refine And.intro (fun h => ?_) (fun h => ?_) <;> (try simp only [n1, n2, n3, n4, n5, n6] at h) <;> first | (exfalso; omega) | (cases h; done) | skip) | refine And.intro (by omega) ?_ | refine Exists.intro _ (And.intro (by first | exact And.intro rfl rfl | exact Pl.den (by repeat constructor) | with_reducible rfl | exact cast_succ _ | assumption | exact (Int.toNat_of_nonneg (by omega)).symm | rfl) ?_) | refine hD _ _ ?_ | refine hL _ _ ?_ | (intro h; (try simp only [n1, n2, n3, n4, n5, n6] at h); first | (exfalso; omega) | (cases h; done) | skip)) <;> (conv => whnf))
  refine And.intro Hd.one ?_
  conv => whnf
  repeat' ((first | (refine Exists.intro d.cells (And.intro (Hd.all hf) ?_)) | refine And.intro (by repeat' first | exact trivial | refine And.intro rfl ?_) (And.intro (by first | exact fun _ h => h | exact fun _ => List.mem_cons_of_mem _ | exact fun _ => List.mem_append_right _) ?_) | (refine And.intro (fun h => ?_) (fun h => ?_) <;> (try simp only [n1, n2, n3, n4, n5, n6] at h) <;> first | (exfalso; omega) | (cases h; done) | skip) | refine And.intro (by omega) ?_ | refine Exists.intro _ (And.intro (by first | exact And.intro rfl rfl | exact Pl.den (by repeat constructor) | with_reducible rfl | exact cast_succ _ | assumption | exact (Int.toNat_of_nonneg (by omega)).symm | rfl) ?_) | refine hD _ _ ?_ | refine hL _ _ ?_ | (intro h; (try simp only [n1, n2, n3, n4, n5, n6] at h); first | (exfalso; omega) | (cases h; done) | skip)) <;> (conv => whnf))
  have T := tRefText fx d hf
  refine Tri.use ((T.one.reval (v' := .tup [.v (strS (rText d)), .v (.bool d.ok)]) (fun ρ => by unfold Hd.res rText; cases d.ok <;> rfl))) [] rfl (fun _ _ _ => rfl) trivial (fun f hf => by first | exact hf | cases hf) (fun u hu => ?_)
  have htl := rText_len hf.root
  have hts := arr_size (rText d)
  have h10 : (⟨#[10]⟩ : ByteArray).size = 1 := rfl
  conv => whnf
  repeat' ((first | (refine And.intro (by rw [hts, h10]; omega) ?_) | refine And.intro (by repeat' first | exact trivial | refine And.intro rfl ?_) (And.intro (by first | exact fun _ h => h | exact fun _ => List.mem_cons_of_mem _ | exact fun _ => List.mem_append_right _) ?_) | (refine And.intro (fun h => ?_) (fun h => ?_) <;> (try simp only [n1, n2, n3, n4, n5, n6] at h) <;> first | (exfalso; omega) | (cases h; done) | skip) | refine And.intro (by omega) ?_ | refine Exists.intro _ (And.intro (by first | exact And.intro rfl rfl | exact Pl.den (by repeat constructor) | with_reducible rfl | exact cast_succ _ | assumption | exact (Int.toNat_of_nonneg (by omega)).symm | rfl) ?_) | refine hD _ _ ?_ | refine hL _ _ ?_ | (intro h; (try simp only [n1, n2, n3, n4, n5, n6] at h); first | (exfalso; omega) | (cases h; done) | skip)) <;> (conv => whnf))
  have e0 : (⟨(rText d).toArray⟩ ++ ⟨#[10]⟩ : ByteArray) = ⟨(rText d ++ [10]).toArray⟩ := by
    have e10 : (⟨#[10]⟩ : ByteArray) = ⟨([10] : List UInt8).toArray⟩ := rfl
    rw [e10, ba_app]
  refine loop_by tok (α := WmI) (fun x => match x with | ⟨i, o, b⟩ => ⟨[(1, .v (.slice A l.length cap)), (6, .v (strS o)), (7, .v (.bool b)), (8, .v (.int .i64 i))], [], 0, fx⟩) (fun x => x.i ≤ l.length ∧ x.o.length ≤ 4167) (fun x => l.length - x.i) ⟨0, rText d ++ [10], d.ok⟩ [] ⟨by simp, by simp only [List.length_append, List.length_cons, List.length_nil]; omega⟩ ⟨rfl, ⟨fun _ _ _ => rfl, fun _ _ _ => by simp only [den, strS, e0], fun _ _ _ => rfl, fun _ _ _ => rfl, trivial⟩, trivial, fun f hf => hf⟩ ?_
  rintro ⟨i, o, b⟩ ⟨hi, ho⟩
  simp only at hi ho
  have hos := arr_size o
  simp only [strS]
  conv => whnf
  repeat' ((first | refine And.intro (by repeat' first | exact trivial | refine And.intro rfl ?_) (And.intro (by first | exact fun _ h => h | exact fun _ => List.mem_cons_of_mem _ | exact fun _ => List.mem_append_right _) ?_) | (refine And.intro (fun h => ?_) (fun h => ?_) <;> (try simp only [n1, n2, n3, n4, n5, n6] at h) <;> first | (exfalso; omega) | (cases h; done) | skip) | refine And.intro (by omega) ?_ | refine Exists.intro _ (And.intro (by first | exact And.intro rfl rfl | exact Pl.den (by repeat constructor) | with_reducible rfl | exact cast_succ _ | assumption | exact (Int.toNat_of_nonneg (by omega)).symm | rfl) ?_) | refine hD _ _ ?_ | refine hL _ _ ?_ | (intro h; (try simp only [n1, n2, n3, n4, n5, n6] at h); first | (exfalso; omega) | (cases h; done) | skip)) <;> (conv => whnf))
  · have hlt : i < l.length := by omega
    obtain ⟨ad, hA⟩ := hS.adr hlt
    obtain ⟨s, hs⟩ : ∃ s, l[i]? = some s := ⟨l[i], List.getElem?_eq_getElem hlt⟩
    have hsf := hS.fit s (List.mem_of_getElem? hs)
    have hll := rLine_len hsf.num
    refine ⟨ad, hA, ?_⟩
    conv => whnf
    repeat' ((first | (refine Exists.intro s.cells (And.intro ⟨rfl, fun j y hj => hS.field hs hA j hj⟩ ?_)) | refine And.intro (by repeat' first | exact trivial | refine And.intro rfl ?_) (And.intro (by first | exact fun _ h => h | exact fun _ => List.mem_cons_of_mem _ | exact fun _ => List.mem_append_right _) ?_) | (refine And.intro (fun h => ?_) (fun h => ?_) <;> (try simp only [n1, n2, n3, n4, n5, n6] at h) <;> first | (exfalso; omega) | (cases h; done) | skip) | refine And.intro (by omega) ?_ | refine Exists.intro _ (And.intro (by first | exact And.intro rfl rfl | exact Pl.den (by repeat constructor) | with_reducible rfl | exact cast_succ _ | assumption | exact (Int.toNat_of_nonneg (by omega)).symm | rfl) ?_) | refine hD _ _ ?_ | refine hL _ _ ?_ | (intro h; (try simp only [n1, n2, n3, n4, n5, n6] at h); first | (exfalso; omega) | (cases h; done) | skip)) <;> (conv => whnf))
    have T2 : Tri Tryd.prog 84 [.v s.v] [] 0 fx (Ret 0 (.v (strS (rLine s))) [] 0 []) := tRefLine fx s hsf
    refine Tri.use (T2.one) [] rfl (fun _ _ _ => rfl) trivial (fun f hf => by first | exact hf | cases hf) (fun u hu => ?_)
    have hrs := arr_size (rLine s)
    have e6 : (⟨o.toArray⟩ ++ ⟨(rLine s).toArray⟩ : ByteArray) = ⟨(o ++ rLine s).toArray⟩ := ba_app ..
    conv => whnf
    repeat' ((first | (refine And.intro (by rw [hrs]; omega) ?_) | refine And.intro (by repeat' first | exact trivial | refine And.intro rfl ?_) (And.intro (by first | exact fun _ h => h | exact fun _ => List.mem_cons_of_mem _ | exact fun _ => List.mem_append_right _) ?_) | (refine And.intro (fun h => ?_) (fun h => ?_) <;> (try simp only [n1, n2, n3, n4, n5, n6] at h) <;> first | (exfalso; omega) | (cases h; done) | skip) | refine And.intro (by omega) ?_ | refine Exists.intro _ (And.intro (by first | exact And.intro rfl rfl | exact Pl.den (by repeat constructor) | with_reducible rfl | exact cast_succ _ | assumption | exact (Int.toNat_of_nonneg (by omega)).symm | rfl) ?_) | refine hD _ _ ?_ | refine hL _ _ ?_ | (intro h; (try simp only [n1, n2, n3, n4, n5, n6] at h); first | (exfalso; omega) | (cases h; done) | skip)) <;> (conv => whnf))
    · exact ⟨⟨i + 1, o ++ rLine s, (!(rLine s == []))⟩, [], ⟨⟨by simp only; omega, by simp only [List.length_append]; omega⟩, by simp only; omega⟩, rfl, ⟨fun _ _ _ => rfl, fun _ _ _ => by simp only [den, e6], fun _ _ _ => rfl, fun _ _ _ => rfl, trivial⟩, trivial, fun f hf => hf⟩
    · exact ⟨⟨i + 1, o, (!(rLine s == []))⟩, [], ⟨⟨by simp only; omega, by simp only; omega⟩, by simp only; omega⟩, rfl, ⟨fun _ _ _ => rfl, fun _ _ _ => rfl, fun _ _ _ => rfl, fun _ _ _ => rfl, trivial⟩, trivial, fun f hf => hf⟩
    · exact ⟨⟨i + 1, o ++ rLine s, false⟩, [], ⟨⟨by simp only; omega, by simp only [List.length_append]; omega⟩, by simp only; omega⟩, rfl, ⟨fun _ _ _ => rfl, fun _ _ _ => by simp only [den, e6], fun _ _ _ => rfl, fun _ _ _ => rfl, trivial⟩, trivial, fun f hf => hf⟩
    · exact ⟨⟨i + 1, o, false⟩, [], ⟨⟨by simp only; omega, by simp only; omega⟩, by simp only; omega⟩, rfl, ⟨fun _ _ _ => rfl, fun _ _ _ => rfl, fun _ _ _ => rfl, fun _ _ _ => rfl, trivial⟩, trivial, fun f hf => hf⟩
  · exact ⟨([], 1), by simp, Ret.noneS rfl (fun _ _ => rfl) (fun g hg => by cases hg)⟩
  · exact ⟨([], 4), by simp, Ret.noneS rfl (fun _ _ => rfl) (fun g hg => by cases hg)⟩
structure WrP (d : Hd) (l : List Sg) (x : List UInt8 × Nat) : Prop where
  yes : x.2 = 0 → x.1 = noteL d l ∧ d.ok = true ∧ l.length ≤ 8
  ok : d.ok = true → (∀ s ∈ l, s.ok = true) → l.length ≤ 8 → x.2 = 0
theorem tRefWrite (fx : List Fact) (d : Hd) (hf : d.Fit) (A : Option Addr) (l : List Sg) (cap : Nat) (hS : SgsAt fx A l) (hl2 : l.length ≤ 4000) :
    Tri Tryd.prog 38 [.v d.v, .v (.slice A l.length cap)] [] 0 fx (RetE (α := List UInt8 × Nat) 0 (WrP d l) (fun x => .tup [.v (strS x.1), .v (.int .i64 (x.2 : Nat))]) (fun _ => []) 0 (fun _ => [])) := by
  by_cases h8 : 8 < l.length
  · exact (tRefWriteMany fx d hf A l cap hS h8 hl2).mono fun y h m f ⟨a, hp, hR⟩ => ⟨a, ⟨fun e => absurd e hp, fun _ _ h => absurd h (by omega)⟩, hR⟩
  · refine (tRefWrite21 fx d hf A l cap hS (by omega)).mono fun y h m f hR => ⟨(wOut d l, wErr d l), ⟨fun e => ?_, fun h1 h2 _ => ?_⟩, hR⟩
    · simp only at e
      refine ⟨by simp only [wOut]; rw [if_pos e], ?_, by omega⟩
      unfold wErr at e
      cases hd : d.ok with
      | true => rfl
      | false => rw [hd] at e; simp at e
    · simp only [wErr]
      have h3 : l.all Sg.ok = true := List.all_eq_true.2 h2
      rw [h1, h3, if_neg (by simp), if_neg h8]
end Go.Proofs.YtekgjjanikicnaaDoor.Sx
