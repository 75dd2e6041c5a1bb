/- What the text laws' callees do, part 9: the reference's decoding. -/
import Derived.Test.YtekgjjanikicnaaTx9
namespace Go.Proofs.Ytekgjjanikicnaa.Sx
open Go
set_option maxRecDepth 100000
set_option linter.unusedSimpArgs false
set_option linter.unusedVariables false

theorem rdec_append : ∀ (a b : List UInt8), a.length % 4 = 0 → rdec (a ++ b) = rdec a ++ rdec b
  | [], b, _ => by simp [rdec]
  | [_], _, h => by simp at h
  | [_, _], _, h => by simp at h
  | [_, _, _], _, h => by simp at h
  | x :: y :: z :: w :: r, b, h => by
    simp only [List.length_cons] at h
    simp only [List.cons_append, rdec]
    rw [rdec_append r b (by omega)]
/-- The number of the signs from i on, j of them. -/
def nacc (s : ByteArray) (i : Nat) : Nat → Nat
  | 0 => 0
  | j + 1 => nacc s i j * 64 + val0 (sbyte s (i + j))
theorem nacc_lt (s : ByteArray) (i : Nat) : ∀ j, nacc s i j < 64 ^ j
  | 0 => Nat.zero_lt_one
  | j + 1 => by
    have := nacc_lt s i j
    have := val0_lt (sbyte s (i + j))
    rw [Nat.pow_succ]
    simp only [nacc]
    omega
theorem rdec_four {s : ByteArray} {i : Nat} (hi : i + 4 ≤ s.size) (h4 : i % 4 = 0) : rdec (s.data.toList.take (i + 4)) = rdec (s.data.toList.take i) ++ [UInt8.ofNat (nacc s i 4 / 65536), UInt8.ofNat (nacc s i 4 / 256 % 256), UInt8.ofNat (nacc s i 4 % 256)] := by
  have e : s.data.toList.take (i + 4) = s.data.toList.take i ++ [sbyte s i, sbyte s (i + 1), sbyte s (i + 2), sbyte s (i + 3)] := by
    rw [show i + 4 = (i + 1) + 3 by omega, take3 (i := i + 1) (sbyte_get (by omega)) (sbyte_get (by omega)) (sbyte_get (by omega)), take1 (sbyte_get (by omega)), List.append_assoc]
    rfl
  rw [e, rdec_append _ _ (by rw [List.length_take, list_size, Nat.min_eq_left (by omega)]; exact h4)]
  simp only [rdec, nacc, Nat.zero_mul, Nat.zero_add, Nat.add_zero]
theorem ofn (v : Nat) : IntKind.u8.wrap (v : Int) = ((UInt8.ofNat v).toNat : Int) := by
  rw [wrap_u8_nat]
  simp
theorem ofn3 (v : Nat) : Value.int IntKind.u8 (IntKind.u8.wrap ((v : Int) / 65536)) = bv (UInt8.ofNat (v / 65536)) ∧ Value.int IntKind.u8 (IntKind.u8.wrap ((v : Int) / 256 % 256)) = bv (UInt8.ofNat (v / 256 % 256)) ∧
    Value.int IntKind.u8 (IntKind.u8.wrap ((v : Int) % 256)) = bv (UInt8.ofNat (v % 256)) := by
  have e1 : ((v : Int) / 65536) = ((v / 65536 : Nat) : Int) := by omega
  have e2 : ((v : Int) / 256 % 256) = ((v / 256 % 256 : Nat) : Int) := by omega
  have e3 : ((v : Int) % 256) = ((v % 256 : Nat) : Int) := by omega
  rw [e1, e2, e3, ofn, ofn, ofn]
  exact ⟨rfl, rfl, rfl⟩
theorem rcut_is {s o : List UInt8} {k : Nat} (hk : k ≤ 2) (hkL : k ≤ o.length) (h1 : 1 ≤ k → s[s.length - 1]? = some 61) (h2 : k = 2 → s[s.length - 2]? = some 61) (he : k = 2 ∨ k = o.length ∨ s[s.length - 1 - k]? ≠ some 61) : rcut s o = k := by
  unfold rcut
  rcases (show k = 0 ∨ k = 1 ∨ k = 2 by omega) with rfl | rfl | rfl
  · rw [if_neg]
    rintro ⟨h3, h4⟩
    rcases he with he | he | he
    · omega
    · omega
    · exact he h4
  · rw [if_pos ⟨by omega, h1 (by omega)⟩, if_neg]
    rintro ⟨h3, h4⟩
    rcases he with he | he | he
    · omega
    · omega
    · exact he h4
  · rw [if_pos ⟨by omega, h1 (by omega)⟩, if_pos ⟨by omega, h2 rfl⟩]
/-- Two rows of the caller's own, compared. -/
theorem tSameRows (fx : List Fact) (l m : List UInt8) (xs ys : List Value) (c d : Nat) (hl : l.length < 9223372036854775808) :
    Tri Try.prog 23 [.s 0 0 l.length c, .s 1 0 m.length d] [(0, .row (l.map bv ++ xs) 5), (1, .row (m.map bv ++ ys) 5)] 2 fx (RetE (α := Unit) 2 (fun _ => True) (fun _ => .v (.bool (decide (l = m)))) (fun _ => [(0, .row (l.map bv ++ xs) 5), (1, .row (m.map bv ++ ys) 5)]) 2 (fun _ => [])) := by
  refine Tri.lend 0 (xs := l.map bv ++ xs) (T := 5) (fun b => [.v (.slice (some ⟨b, 0, none⟩) l.length c), .s 1 0 m.length d]) (List.mem_cons_self ..) rowOf.row (fun _ => rfl) fun b1 => ?_
  refine Tri.lend 1 (xs := m.map bv ++ ys) (T := 5) (fun b => [.v (.slice (some ⟨b1, 0, none⟩) l.length c), .v (.slice (some ⟨b, 0, none⟩) m.length d)]) (List.mem_cons_self ..) rowOf.row (fun _ => rfl) fun b2 => ?_
  refine Tri.use (tSame _ (some ⟨b1, 0, none⟩) (some ⟨b2, 0, none⟩) c d l m (BytesAt.row (List.mem_cons_of_mem _ (List.mem_cons_self ..)) (by rw [List.drop_zero, List.take_left' (by simp)])) (BytesAt.row (List.mem_cons_self ..) (by rw [List.drop_zero, List.take_left' (by simp)])) hl).one [] rfl (fun _ _ _ => rfl) trivial (fun f hf => hf) fun u hu => ?_
  conv => whnf
  refine And.intro rfl ?_
  conv => whnf
  refine And.intro rfl ?_
  exact ⟨(), trivial, Ret.mk [0, 1] _ (Fold.refl _) rfl (fun _ _ _ => rfl) ⟨OSub.ren rfl rfl, OSub.ren rfl rfl, trivial⟩ (fun _ h => nomatch h)⟩
structure RdS where
  i : Nat
  row : Option (List Value)
def RdS.out (s : ByteArray) (d : RdS) : SV := match d.row with
  | none => .v (.slice none 0 0)
  | some xs => .s 0 0 (d.i / 4 * 3) xs.length
def RdS.hp (d : RdS) : List (Nat × SObj) := match d.row with
  | none => []
  | some xs => [(0, .row xs 5)]
def RdS.nx (d : RdS) : Nat := match d.row with
  | none => 0
  | some _ => 1
def RdS.inv (s : ByteArray) (fx : List Fact) (d : RdS) : SS := match d.row with
  | none => ⟨[(0, .v (.string s)), (4, .v (.slice none 0 0)), (5, .v (.int .i64 d.i))], [], 0, fx⟩
  | some xs => ⟨[(0, .v (.string s)), (4, .s 0 0 (d.i / 4 * 3) xs.length), (5, .v (.int .i64 d.i))], [(0, .row xs 5)], 1, fx⟩
structure RdS.Pr (s : ByteArray) (d : RdS) : Prop where
  i : d.i ≤ s.size
  four : d.i % 4 = 0
  row : match d.row with
    | none => d.i = 0
    | some xs => xs.take (d.i / 4 * 3) = (rdec (s.data.toList.take d.i)).map bv ∧ d.i / 4 * 3 ≤ xs.length
theorem tRefDecode0 (fx : List Fact) (s : ByteArray) (hs : s.size ≤ 1000000000) :
    Tri Try.prog 32 [.v (.string s)] [] 0 fx (RetE (α := DecO) 0 (DecO.pr s.data.toList) DecO.v DecO.h 1 (fun _ => [])) := by
  refine Tri.of_code tok Try.func32 rfl rfl rfl (by decide) rfl (Nat.le_of_ble_eq_true rfl) ?_
  conv => whnf
  repeat' (first
    | (refine And.intro (by first | exact trivial | exact And.intro rfl trivial | exact And.intro rfl (And.intro rfl trivial) | exact And.intro rfl (And.intro rfl (And.intro rfl trivial))) (And.intro (fun _ h => h) ?_); (conv => whnf))
    | (refine And.intro (fun h => ?_) (fun h => ?_) <;> (try simp only [decide_eq_true_eq, decide_eq_false_iff_not, Bool.not_eq_true', Bool.not_eq_false', Bool.not_true, Bool.not_false] at h) <;> first | (exfalso; omega) | (conv => whnf))
    | (refine And.intro ?_ ?_; (omega); (conv => whnf))
    | (refine Exists.intro _ (And.intro (And.intro rfl rfl) ?_); (conv => whnf))
    | (refine Exists.intro ?w (And.intro (Pl.den ?p) ?k); (case p => repeat constructor); (conv => whnf))
    | (refine Exists.intro _ (And.intro (by with_reducible rfl) ?_); (conv => whnf))
    | (refine Exists.intro _ (And.intro (cast_succ _) ?_); (conv => whnf))
    | (refine Exists.intro _ (And.intro (by assumption) ?_); (conv => whnf))
    | (refine Exists.intro _ (And.intro (Int.toNat_of_nonneg ?_).symm ?_); (omega); (conv => whnf))
    | (refine Exists.intro _ (And.intro rfl ?_); (conv => whnf))
    | (intro h; (try simp only [decide_eq_true_eq, decide_eq_false_iff_not, Bool.not_eq_true', Bool.not_eq_false', Bool.not_true, Bool.not_false] at h); first | (exfalso; omega) | (conv => whnf)))
  · refine ⟨.nil false, ⟨fun h => (by cases h), fun _ b e => ?_⟩, Ret.mk [] [] (Fold.refl _) rfl (fun _ _ _ => rfl) trivial (fun _ h => by cases h)⟩
    have := enc_length b
    rw [← e, list_size] at this
    omega
  refine loop_by tok (RdS.inv s fx) (RdS.Pr s) (fun d => s.size - d.i) ⟨0, none⟩ [] ⟨Nat.zero_le _, rfl, rfl⟩ ⟨rfl, ?_, trivial, fun f hf => hf⟩ ?_
  · exact ⟨fun _ _ _ => rfl, fun _ _ _ => rfl, fun _ _ _ => rfl, trivial⟩
  rintro ⟨i, row⟩ hd
  have hi := hd.i
  have h4 := hd.four
  have hr := hd.row
  simp only at hi h4 hr
  cases row with
  | none =>
    obtain rfl : i = 0 := hr
    simp only [RdS.inv]
    conv => whnf
    repeat' (first
      | (refine And.intro (by first | exact trivial | exact And.intro rfl trivial | exact And.intro rfl (And.intro rfl trivial) | exact And.intro rfl (And.intro rfl (And.intro rfl trivial))) (And.intro (fun _ h => h) ?_); (conv => whnf))
      | (refine And.intro (fun h => ?_) (fun h => ?_) <;> (try simp only [decide_eq_true_eq, decide_eq_false_iff_not, Bool.not_eq_true', Bool.not_eq_false', Bool.not_true, Bool.not_false] at h) <;> first | (exfalso; omega) | (conv => whnf))
      | (refine And.intro ?_ ?_; (omega); (conv => whnf))
      | (refine Exists.intro _ (And.intro (And.intro rfl rfl) ?_); (conv => whnf))
      | (refine Exists.intro ?w (And.intro (Pl.den ?p) ?k); (case p => repeat constructor); (conv => whnf))
      | (refine Exists.intro _ (And.intro (by with_reducible rfl) ?_); (conv => whnf))
      | (refine Exists.intro _ (And.intro (cast_succ _) ?_); (conv => whnf))
      | (refine Exists.intro _ (And.intro (by assumption) ?_); (conv => whnf))
      | (refine Exists.intro _ (And.intro (Int.toNat_of_nonneg ?_).symm ?_); (omega); (conv => whnf))
      | (refine Exists.intro _ (And.intro rfl ?_); (conv => whnf))
      | (intro h; (try simp only [decide_eq_true_eq, decide_eq_false_iff_not, Bool.not_eq_true', Bool.not_eq_false', Bool.not_true, Bool.not_false] at h); first | (exfalso; omega) | (conv => whnf)))
    · refine loop_by tok (α := Nat) (fun j => ⟨[(0, .v (.string s)), (4, .v (.slice none 0 0)), (5, .v (.int .i64 (0 : Nat))), (6, .v (.int .i64 (nacc s 0 j))), (7, .v (.int .i64 (0 + j : Nat)))], [], 0, fx⟩) (fun j => j ≤ 4) (fun j => 4 - j) 0 [] (by omega) ⟨rfl, ?_, trivial, fun f hf => hf⟩ ?_
      · exact ⟨fun _ _ _ => rfl, fun _ _ _ => rfl, fun _ _ _ => rfl, fun _ _ _ => rfl, fun _ _ _ => rfl, trivial⟩
      rintro j hj
      have hna := nacc_lt s 0 j
      have hnb : nacc s 0 j < 16777216 := by
        have : (64 : Nat) ^ j ≤ 64 ^ 4 := Nat.pow_le_pow_right (by decide) hj
        omega
      by_cases hj4 : j < 4
      · have hk := val0_lt (sbyte s (0 + j))
        conv => whnf
        repeat' (first
          | (refine And.intro (by first | exact trivial | exact And.intro rfl trivial | exact And.intro rfl (And.intro rfl trivial) | exact And.intro rfl (And.intro rfl (And.intro rfl trivial))) (And.intro (fun _ h => h) ?_); (conv => whnf))
          | (refine And.intro (fun h => ?_) (fun h => ?_) <;> (try simp only [decide_eq_true_eq, decide_eq_false_iff_not, Bool.not_eq_true', Bool.not_eq_false', Bool.not_true, Bool.not_false] at h) <;> first | (exfalso; omega) | (conv => whnf))
          | (refine And.intro ?_ ?_; (omega); (conv => whnf))
          | (refine Exists.intro _ (And.intro (And.intro rfl rfl) ?_); (conv => whnf))
          | (refine Exists.intro ?w (And.intro (Pl.den ?p) ?k); (case p => repeat constructor); (conv => whnf))
          | (refine Exists.intro _ (And.intro (by with_reducible rfl) ?_); (conv => whnf))
          | (refine Exists.intro _ (And.intro (cast_succ _) ?_); (conv => whnf))
          | (refine Exists.intro _ (And.intro (by assumption) ?_); (conv => whnf))
          | (refine Exists.intro _ (And.intro (Int.toNat_of_nonneg ?_).symm ?_); (omega); (conv => whnf))
          | (refine Exists.intro _ (And.intro rfl ?_); (conv => whnf))
          | (intro h; (try simp only [decide_eq_true_eq, decide_eq_false_iff_not, Bool.not_eq_true', Bool.not_eq_false', Bool.not_true, Bool.not_false] at h); first | (exfalso; omega) | (conv => whnf)))
        by_cases hv : val6 (sbyte s (0 + j)) = 64
        · have hv0 : val0 (sbyte s (0 + j)) = 0 := by unfold val0; rw [if_pos hv]
          refine Tri.use ((tValue fx (sbyte s (0 + j))).one.reval (v' := .k .i64 (-1)) (fun _ => by rw [if_pos hv]; rfl)) [] rfl (args_ren rfl rfl) trivial (fun f hf => by first | exact hf | cases hf | simp_all) (fun u hu => ?_)
          conv => whnf
          repeat' (first
            | (refine And.intro (by first | exact trivial | exact And.intro rfl trivial | exact And.intro rfl (And.intro rfl trivial) | exact And.intro rfl (And.intro rfl (And.intro rfl trivial))) (And.intro (fun _ h => h) ?_); (conv => whnf))
            | (refine And.intro (fun h => ?_) (fun h => ?_) <;> (try simp only [decide_eq_true_eq, decide_eq_false_iff_not, Bool.not_eq_true', Bool.not_eq_false', Bool.not_true, Bool.not_false] at h) <;> first | (exfalso; omega) | (conv => whnf))
            | (refine And.intro ?_ ?_; (omega); (conv => whnf))
            | (refine Exists.intro _ (And.intro (And.intro rfl rfl) ?_); (conv => whnf))
            | (refine Exists.intro ?w (And.intro (Pl.den ?p) ?k); (case p => repeat constructor); (conv => whnf))
            | (refine Exists.intro _ (And.intro (by with_reducible rfl) ?_); (conv => whnf))
            | (refine Exists.intro _ (And.intro (cast_succ _) ?_); (conv => whnf))
            | (refine Exists.intro _ (And.intro (by assumption) ?_); (conv => whnf))
            | (refine Exists.intro _ (And.intro (Int.toNat_of_nonneg ?_).symm ?_); (omega); (conv => whnf))
            | (refine Exists.intro _ (And.intro rfl ?_); (conv => whnf))
            | (intro h; (try simp only [decide_eq_true_eq, decide_eq_false_iff_not, Bool.not_eq_true', Bool.not_eq_false', Bool.not_true, Bool.not_false] at h); first | (exfalso; omega) | (conv => whnf)))
          refine ⟨j + 1, [], ⟨by omega, by omega⟩, rfl, ⟨fun _ _ _ => rfl, fun _ _ _ => rfl, fun _ _ _ => rfl, SEq.eq (congrArg (Value.int .i64) ?_), fun _ _ _ => rfl, trivial⟩, trivial, fun f hf => hf⟩
          simp only [nacc, hv0]
          omega
        · have hv0 : val0 (sbyte s (0 + j)) = val6 (sbyte s (0 + j)) := by unfold val0; rw [if_neg hv]
          refine Tri.use ((tValue fx (sbyte s (0 + j))).one.reval (v' := .v (.int .i64 (val0 (sbyte s (0 + j))))) (fun _ => by rw [if_neg hv, hv0])) [] rfl (args_ren rfl rfl) trivial (fun f hf => by first | exact hf | cases hf | simp_all) (fun u hu => ?_)
          conv => whnf
          repeat' (first
            | (refine And.intro (by first | exact trivial | exact And.intro rfl trivial | exact And.intro rfl (And.intro rfl trivial) | exact And.intro rfl (And.intro rfl (And.intro rfl trivial))) (And.intro (fun _ h => h) ?_); (conv => whnf))
            | (refine And.intro (fun h => ?_) (fun h => ?_) <;> (try simp only [decide_eq_true_eq, decide_eq_false_iff_not, Bool.not_eq_true', Bool.not_eq_false', Bool.not_true, Bool.not_false] at h) <;> first | (exfalso; omega) | (conv => whnf))
            | (refine And.intro ?_ ?_; (omega); (conv => whnf))
            | (refine Exists.intro _ (And.intro (And.intro rfl rfl) ?_); (conv => whnf))
            | (refine Exists.intro ?w (And.intro (Pl.den ?p) ?k); (case p => repeat constructor); (conv => whnf))
            | (refine Exists.intro _ (And.intro (by with_reducible rfl) ?_); (conv => whnf))
            | (refine Exists.intro _ (And.intro (cast_succ _) ?_); (conv => whnf))
            | (refine Exists.intro _ (And.intro (by assumption) ?_); (conv => whnf))
            | (refine Exists.intro _ (And.intro (Int.toNat_of_nonneg ?_).symm ?_); (omega); (conv => whnf))
            | (refine Exists.intro _ (And.intro rfl ?_); (conv => whnf))
            | (intro h; (try simp only [decide_eq_true_eq, decide_eq_false_iff_not, Bool.not_eq_true', Bool.not_eq_false', Bool.not_true, Bool.not_false] at h); first | (exfalso; omega) | (conv => whnf)))
          refine ⟨j + 1, [], ⟨by omega, by omega⟩, rfl, ⟨fun _ _ _ => rfl, fun _ _ _ => rfl, fun _ _ _ => rfl, SEq.eq (congrArg (Value.int .i64) ?_), fun _ _ _ => rfl, trivial⟩, trivial, fun f hf => hf⟩
          simp only [nacc]
          omega
      · obtain rfl : j = 4 := by omega
        conv => whnf
        repeat' (first
          | (refine And.intro (by first | exact trivial | exact And.intro rfl trivial | exact And.intro rfl (And.intro rfl trivial) | exact And.intro rfl (And.intro rfl (And.intro rfl trivial))) (And.intro (fun _ h => h) ?_); (conv => whnf))
          | (refine And.intro (fun h => ?_) (fun h => ?_) <;> (try simp only [decide_eq_true_eq, decide_eq_false_iff_not, Bool.not_eq_true', Bool.not_eq_false', Bool.not_true, Bool.not_false] at h) <;> first | (exfalso; omega) | (conv => whnf))
          | (refine And.intro ?_ ?_; (omega); (conv => whnf))
          | (refine Exists.intro _ (And.intro (And.intro rfl rfl) ?_); (conv => whnf))
          | (refine Exists.intro ?w (And.intro (Pl.den ?p) ?k); (case p => repeat constructor); (conv => whnf))
          | (refine Exists.intro _ (And.intro (by with_reducible rfl) ?_); (conv => whnf))
          | (refine Exists.intro _ (And.intro (cast_succ _) ?_); (conv => whnf))
          | (refine Exists.intro _ (And.intro (by assumption) ?_); (conv => whnf))
          | (refine Exists.intro _ (And.intro (Int.toNat_of_nonneg ?_).symm ?_); (omega); (conv => whnf))
          | (refine Exists.intro _ (And.intro rfl ?_); (conv => whnf))
          | (intro h; (try simp only [decide_eq_true_eq, decide_eq_false_iff_not, Bool.not_eq_true', Bool.not_eq_false', Bool.not_true, Bool.not_false] at h); first | (exfalso; omega) | (conv => whnf)))
        rename_i _ m sp
        have hsp := h
        obtain ⟨b1, b2, b3⟩ := ofn3 (nacc s 0 4)
        have hr4 := rdec_four (s := s) (i := 0) (by omega) rfl
        refine ⟨⟨0 + 4, some ([bv (UInt8.ofNat (nacc s 0 4 / 65536)), bv (UInt8.ofNat (nacc s 0 4 / 256 % 256)), bv (UInt8.ofNat (nacc s 0 4 % 256))] ++ sp)⟩, [1], ⟨⟨by simp only; omega, show (0 + 4) % 4 = 0 from rfl, ⟨?_, by simp⟩⟩, by simp only; omega⟩, rfl, ⟨fun _ _ _ => rfl, SEq.ren rfl ?_, fun _ _ _ => rfl, trivial⟩, ⟨OSub.ren rfl ?_, trivial⟩, fun f hf => hf⟩
        · rw [hr4]; simp [rdec]
        · simp [ren, sg, hsp]; omega
        · simp only [renO, b1, b2, b3]
    · refine loop_rounds 1 (round_next tok ?_)
      conv => whnf
      repeat' (first
        | (refine And.intro (by first | exact trivial | exact And.intro rfl trivial | exact And.intro rfl (And.intro rfl trivial) | exact And.intro rfl (And.intro rfl (And.intro rfl trivial))) (And.intro (fun _ h => h) ?_); (conv => whnf))
        | (refine And.intro (fun h => ?_) (fun h => ?_) <;> (try simp only [decide_eq_true_eq, decide_eq_false_iff_not, Bool.not_eq_true', Bool.not_eq_false', Bool.not_true, Bool.not_false] at h) <;> first | (exfalso; omega) | (conv => whnf))
        | (refine And.intro ?_ ?_; (omega); (conv => whnf))
        | (refine Exists.intro _ (And.intro (And.intro rfl rfl) ?_); (conv => whnf))
        | (refine Exists.intro ?w (And.intro (Pl.den ?p) ?k); (case p => repeat constructor); (conv => whnf))
        | (refine Exists.intro _ (And.intro (by with_reducible rfl) ?_); (conv => whnf))
        | (refine Exists.intro _ (And.intro (cast_succ _) ?_); (conv => whnf))
        | (refine Exists.intro _ (And.intro (by assumption) ?_); (conv => whnf))
        | (refine Exists.intro _ (And.intro (Int.toNat_of_nonneg ?_).symm ?_); (omega); (conv => whnf))
        | (refine Exists.intro _ (And.intro rfl ?_); (conv => whnf))
        | (intro h; (try simp only [decide_eq_true_eq, decide_eq_false_iff_not, Bool.not_eq_true', Bool.not_eq_false', Bool.not_true, Bool.not_false] at h); first | (exfalso; omega) | (conv => whnf)))
      refine Tri.use (tRefEncode fx none 0 [] (by simp) ⟨fun _ => rfl, fun ad e => by cases e⟩).one [] rfl (args_ren rfl rfl) trivial (fun f hf => by first | exact hf | cases hf | simp_all) (fun u hu => ?_)
      conv => whnf
      repeat' (first
        | (refine And.intro (by first | exact trivial | exact And.intro rfl trivial | exact And.intro rfl (And.intro rfl trivial) | exact And.intro rfl (And.intro rfl (And.intro rfl trivial))) (And.intro (fun _ h => h) ?_); (conv => whnf))
        | (refine And.intro (fun h => ?_) (fun h => ?_) <;> (try simp only [decide_eq_true_eq, decide_eq_false_iff_not, Bool.not_eq_true', Bool.not_eq_false', Bool.not_true, Bool.not_false] at h) <;> first | (exfalso; omega) | (conv => whnf))
        | (refine And.intro ?_ ?_; (omega); (conv => whnf))
        | (refine Exists.intro _ (And.intro (And.intro rfl rfl) ?_); (conv => whnf))
        | (refine Exists.intro ?w (And.intro (Pl.den ?p) ?k); (case p => repeat constructor); (conv => whnf))
        | (refine Exists.intro _ (And.intro (by with_reducible rfl) ?_); (conv => whnf))
        | (refine Exists.intro _ (And.intro (cast_succ _) ?_); (conv => whnf))
        | (refine Exists.intro _ (And.intro (by assumption) ?_); (conv => whnf))
        | (refine Exists.intro _ (And.intro (Int.toNat_of_nonneg ?_).symm ?_); (omega); (conv => whnf))
        | (refine Exists.intro _ (And.intro rfl ?_); (conv => whnf))
        | (intro h; (try simp only [decide_eq_true_eq, decide_eq_false_iff_not, Bool.not_eq_true', Bool.not_eq_false', Bool.not_true, Bool.not_false] at h); first | (exfalso; omega) | (conv => whnf)))
      refine Tri.use (tSameRows fx (enc []) s.data.toList _ _ _ _ (show 0 < 9223372036854775808 by omega)) [0,1] rfl (args_ren rfl rfl) ⟨OSub.ren rfl rfl, OSub.ren rfl rfl, trivial⟩ (fun f hf => by first | exact hf | cases hf | simp_all) (fun u hu => ?_)
      conv => whnf
      repeat' (first
        | (refine And.intro (by first | exact trivial | exact And.intro rfl trivial | exact And.intro rfl (And.intro rfl trivial) | exact And.intro rfl (And.intro rfl (And.intro rfl trivial))) (And.intro (fun _ h => h) ?_); (conv => whnf))
        | (refine And.intro (fun h => ?_) (fun h => ?_) <;> (try simp only [decide_eq_true_eq, decide_eq_false_iff_not, Bool.not_eq_true', Bool.not_eq_false', Bool.not_true, Bool.not_false] at h) <;> first | (exfalso; omega) | (conv => whnf))
        | (refine And.intro ?_ ?_; (omega); (conv => whnf))
        | (refine Exists.intro _ (And.intro (And.intro rfl rfl) ?_); (conv => whnf))
        | (refine Exists.intro ?w (And.intro (Pl.den ?p) ?k); (case p => repeat constructor); (conv => whnf))
        | (refine Exists.intro _ (And.intro (by with_reducible rfl) ?_); (conv => whnf))
        | (refine Exists.intro _ (And.intro (cast_succ _) ?_); (conv => whnf))
        | (refine Exists.intro _ (And.intro (by assumption) ?_); (conv => whnf))
        | (refine Exists.intro _ (And.intro (Int.toNat_of_nonneg ?_).symm ?_); (omega); (conv => whnf))
        | (refine Exists.intro _ (And.intro rfl ?_); (conv => whnf))
        | (intro h; (try simp only [decide_eq_true_eq, decide_eq_false_iff_not, Bool.not_eq_true', Bool.not_eq_false', Bool.not_true, Bool.not_false] at h); first | (exfalso; omega) | (conv => whnf)))
      · exact ⟨.nil false, ⟨fun h => (by cases h), fun _ b e => by
          have h0 := rcut_enc b
          rw [← e] at h0
          have h1 := rdec_length s.data.toList
          rw [list_size, show s.size / 4 * 3 = 0 by omega] at h1
          rw [List.length_eq_zero_iff.1 h1] at h0
          simp only [List.take_nil] at h0
          subst h0
          exact absurd e.symm h⟩, Ret.mk [] [] (Fold.drop (by simp)) rfl (fun _ _ _ => rfl) trivial (fun _ h => by cases h)⟩
      · exact ⟨.nil true, ⟨fun _ => h.symm, fun h => (by cases h)⟩, Ret.mk [] [] (Fold.drop (by simp)) rfl (fun _ _ _ => rfl) trivial (fun _ h => by cases h)⟩
  | some xs =>
    obtain ⟨hr1, hr2⟩ := hr
    simp only [RdS.inv]
    conv => whnf
    repeat' (first
      | (refine And.intro (by first | exact trivial | exact And.intro rfl trivial | exact And.intro rfl (And.intro rfl trivial) | exact And.intro rfl (And.intro rfl (And.intro rfl trivial))) (And.intro (fun _ h => h) ?_); (conv => whnf))
      | (refine And.intro (fun h => ?_) (fun h => ?_) <;> (try simp only [decide_eq_true_eq, decide_eq_false_iff_not, Bool.not_eq_true', Bool.not_eq_false', Bool.not_true, Bool.not_false] at h) <;> first | (exfalso; omega) | (conv => whnf))
      | (refine And.intro ?_ ?_; (omega); (conv => whnf))
      | (refine Exists.intro _ (And.intro (And.intro rfl rfl) ?_); (conv => whnf))
      | (refine Exists.intro ?w (And.intro (Pl.den ?p) ?k); (case p => repeat constructor); (conv => whnf))
      | (refine Exists.intro _ (And.intro (by with_reducible rfl) ?_); (conv => whnf))
      | (refine Exists.intro _ (And.intro (cast_succ _) ?_); (conv => whnf))
      | (refine Exists.intro _ (And.intro (by assumption) ?_); (conv => whnf))
      | (refine Exists.intro _ (And.intro (Int.toNat_of_nonneg ?_).symm ?_); (omega); (conv => whnf))
      | (refine Exists.intro _ (And.intro rfl ?_); (conv => whnf))
      | (intro h; (try simp only [decide_eq_true_eq, decide_eq_false_iff_not, Bool.not_eq_true', Bool.not_eq_false', Bool.not_true, Bool.not_false] at h); first | (exfalso; omega) | (conv => whnf)))
    · refine loop_by tok (α := Nat) (fun j => ⟨[(0, .v (.string s)), (4, .s 0 0 (i / 4 * 3) xs.length), (5, .v (.int .i64 (i : Nat))), (6, .v (.int .i64 (nacc s i j))), (7, .v (.int .i64 (i + j : Nat)))], [(0, .row xs 5)], 1, fx⟩) (fun j => j ≤ 4) (fun j => 4 - j) 0 [0] (by omega) ⟨rfl, ?_, ⟨OSub.ren rfl rfl, trivial⟩, fun f hf => hf⟩ ?_
      · exact ⟨fun _ _ _ => rfl, SEq.ren rfl rfl, fun _ _ _ => rfl, fun _ _ _ => rfl, fun _ _ _ => rfl, trivial⟩
      rintro j hj
      have hna := nacc_lt s i j
      have hnb : nacc s i j < 16777216 := by
        have : (64 : Nat) ^ j ≤ 64 ^ 4 := Nat.pow_le_pow_right (by decide) hj
        omega
      by_cases hj4 : j < 4
      · have hk := val0_lt (sbyte s (i + j))
        conv => whnf
        repeat' (first
          | (refine And.intro (by first | exact trivial | exact And.intro rfl trivial | exact And.intro rfl (And.intro rfl trivial) | exact And.intro rfl (And.intro rfl (And.intro rfl trivial))) (And.intro (fun _ h => h) ?_); (conv => whnf))
          | (refine And.intro (fun h => ?_) (fun h => ?_) <;> (try simp only [decide_eq_true_eq, decide_eq_false_iff_not, Bool.not_eq_true', Bool.not_eq_false', Bool.not_true, Bool.not_false] at h) <;> first | (exfalso; omega) | (conv => whnf))
          | (refine And.intro ?_ ?_; (omega); (conv => whnf))
          | (refine Exists.intro _ (And.intro (And.intro rfl rfl) ?_); (conv => whnf))
          | (refine Exists.intro ?w (And.intro (Pl.den ?p) ?k); (case p => repeat constructor); (conv => whnf))
          | (refine Exists.intro _ (And.intro (by with_reducible rfl) ?_); (conv => whnf))
          | (refine Exists.intro _ (And.intro (cast_succ _) ?_); (conv => whnf))
          | (refine Exists.intro _ (And.intro (by assumption) ?_); (conv => whnf))
          | (refine Exists.intro _ (And.intro (Int.toNat_of_nonneg ?_).symm ?_); (omega); (conv => whnf))
          | (refine Exists.intro _ (And.intro rfl ?_); (conv => whnf))
          | (intro h; (try simp only [decide_eq_true_eq, decide_eq_false_iff_not, Bool.not_eq_true', Bool.not_eq_false', Bool.not_true, Bool.not_false] at h); first | (exfalso; omega) | (conv => whnf)))
        by_cases hv : val6 (sbyte s (i + j)) = 64
        · have hv0 : val0 (sbyte s (i + j)) = 0 := by unfold val0; rw [if_pos hv]
          refine Tri.use ((tValue fx (sbyte s (i + j))).one.reval (v' := .k .i64 (-1)) (fun _ => by rw [if_pos hv]; rfl)) [] rfl (args_ren rfl rfl) trivial (fun f hf => by first | exact hf | cases hf | simp_all) (fun u hu => ?_)
          conv => whnf
          repeat' (first
            | (refine And.intro (by first | exact trivial | exact And.intro rfl trivial | exact And.intro rfl (And.intro rfl trivial) | exact And.intro rfl (And.intro rfl (And.intro rfl trivial))) (And.intro (fun _ h => h) ?_); (conv => whnf))
            | (refine And.intro (fun h => ?_) (fun h => ?_) <;> (try simp only [decide_eq_true_eq, decide_eq_false_iff_not, Bool.not_eq_true', Bool.not_eq_false', Bool.not_true, Bool.not_false] at h) <;> first | (exfalso; omega) | (conv => whnf))
            | (refine And.intro ?_ ?_; (omega); (conv => whnf))
            | (refine Exists.intro _ (And.intro (And.intro rfl rfl) ?_); (conv => whnf))
            | (refine Exists.intro ?w (And.intro (Pl.den ?p) ?k); (case p => repeat constructor); (conv => whnf))
            | (refine Exists.intro _ (And.intro (by with_reducible rfl) ?_); (conv => whnf))
            | (refine Exists.intro _ (And.intro (cast_succ _) ?_); (conv => whnf))
            | (refine Exists.intro _ (And.intro (by assumption) ?_); (conv => whnf))
            | (refine Exists.intro _ (And.intro (Int.toNat_of_nonneg ?_).symm ?_); (omega); (conv => whnf))
            | (refine Exists.intro _ (And.intro rfl ?_); (conv => whnf))
            | (intro h; (try simp only [decide_eq_true_eq, decide_eq_false_iff_not, Bool.not_eq_true', Bool.not_eq_false', Bool.not_true, Bool.not_false] at h); first | (exfalso; omega) | (conv => whnf)))
          refine ⟨j + 1, [0], ⟨by omega, by omega⟩, rfl, ⟨fun _ _ _ => rfl, SEq.ren rfl rfl, fun _ _ _ => rfl, SEq.eq (congrArg (Value.int .i64) ?_), fun _ _ _ => rfl, trivial⟩, ⟨OSub.ren rfl rfl, trivial⟩, fun f hf => hf⟩
          simp only [nacc, hv0]
          omega
        · have hv0 : val0 (sbyte s (i + j)) = val6 (sbyte s (i + j)) := by unfold val0; rw [if_neg hv]
          refine Tri.use ((tValue fx (sbyte s (i + j))).one.reval (v' := .v (.int .i64 (val0 (sbyte s (i + j))))) (fun _ => by rw [if_neg hv, hv0])) [] rfl (args_ren rfl rfl) trivial (fun f hf => by first | exact hf | cases hf | simp_all) (fun u hu => ?_)
          conv => whnf
          repeat' (first
            | (refine And.intro (by first | exact trivial | exact And.intro rfl trivial | exact And.intro rfl (And.intro rfl trivial) | exact And.intro rfl (And.intro rfl (And.intro rfl trivial))) (And.intro (fun _ h => h) ?_); (conv => whnf))
            | (refine And.intro (fun h => ?_) (fun h => ?_) <;> (try simp only [decide_eq_true_eq, decide_eq_false_iff_not, Bool.not_eq_true', Bool.not_eq_false', Bool.not_true, Bool.not_false] at h) <;> first | (exfalso; omega) | (conv => whnf))
            | (refine And.intro ?_ ?_; (omega); (conv => whnf))
            | (refine Exists.intro _ (And.intro (And.intro rfl rfl) ?_); (conv => whnf))
            | (refine Exists.intro ?w (And.intro (Pl.den ?p) ?k); (case p => repeat constructor); (conv => whnf))
            | (refine Exists.intro _ (And.intro (by with_reducible rfl) ?_); (conv => whnf))
            | (refine Exists.intro _ (And.intro (cast_succ _) ?_); (conv => whnf))
            | (refine Exists.intro _ (And.intro (by assumption) ?_); (conv => whnf))
            | (refine Exists.intro _ (And.intro (Int.toNat_of_nonneg ?_).symm ?_); (omega); (conv => whnf))
            | (refine Exists.intro _ (And.intro rfl ?_); (conv => whnf))
            | (intro h; (try simp only [decide_eq_true_eq, decide_eq_false_iff_not, Bool.not_eq_true', Bool.not_eq_false', Bool.not_true, Bool.not_false] at h); first | (exfalso; omega) | (conv => whnf)))
          refine ⟨j + 1, [0], ⟨by omega, by omega⟩, rfl, ⟨fun _ _ _ => rfl, SEq.ren rfl rfl, fun _ _ _ => rfl, SEq.eq (congrArg (Value.int .i64) ?_), fun _ _ _ => rfl, trivial⟩, ⟨OSub.ren rfl rfl, trivial⟩, fun f hf => hf⟩
          simp only [nacc]
          omega
      · obtain rfl : j = 4 := by omega
        conv => whnf
        repeat' (first
          | (refine And.intro (by first | exact trivial | exact And.intro rfl trivial | exact And.intro rfl (And.intro rfl trivial) | exact And.intro rfl (And.intro rfl (And.intro rfl trivial))) (And.intro (fun _ h => h) ?_); (conv => whnf))
          | (refine And.intro (fun h => ?_) (fun h => ?_) <;> (try simp only [decide_eq_true_eq, decide_eq_false_iff_not, Bool.not_eq_true', Bool.not_eq_false', Bool.not_true, Bool.not_false] at h) <;> first | (exfalso; omega) | (conv => whnf))
          | (refine And.intro ?_ ?_; (omega); (conv => whnf))
          | (refine Exists.intro _ (And.intro (And.intro rfl rfl) ?_); (conv => whnf))
          | (refine Exists.intro ?w (And.intro (Pl.den ?p) ?k); (case p => repeat constructor); (conv => whnf))
          | (refine Exists.intro _ (And.intro (by with_reducible rfl) ?_); (conv => whnf))
          | (refine Exists.intro _ (And.intro (cast_succ _) ?_); (conv => whnf))
          | (refine Exists.intro _ (And.intro (by assumption) ?_); (conv => whnf))
          | (refine Exists.intro _ (And.intro (Int.toNat_of_nonneg ?_).symm ?_); (omega); (conv => whnf))
          | (refine Exists.intro _ (And.intro rfl ?_); (conv => whnf))
          | (intro h; (try simp only [decide_eq_true_eq, decide_eq_false_iff_not, Bool.not_eq_true', Bool.not_eq_false', Bool.not_true, Bool.not_false] at h); first | (exfalso; omega) | (conv => whnf)))
        refine ⟨⟨by omega, hr2, by omega, by simp [Value.oneCell']⟩, fun m sp hsp => ?_⟩
        conv => whnf
        repeat' (first
          | (refine And.intro (by first | exact trivial | exact And.intro rfl trivial | exact And.intro rfl (And.intro rfl trivial) | exact And.intro rfl (And.intro rfl (And.intro rfl trivial))) (And.intro (fun _ h => h) ?_); (conv => whnf))
          | (refine And.intro (fun h => ?_) (fun h => ?_) <;> (try simp only [decide_eq_true_eq, decide_eq_false_iff_not, Bool.not_eq_true', Bool.not_eq_false', Bool.not_true, Bool.not_false] at h) <;> first | (exfalso; omega) | (conv => whnf))
          | (refine And.intro ?_ ?_; (omega); (conv => whnf))
          | (refine Exists.intro _ (And.intro (And.intro rfl rfl) ?_); (conv => whnf))
          | (refine Exists.intro ?w (And.intro (Pl.den ?p) ?k); (case p => repeat constructor); (conv => whnf))
          | (refine Exists.intro _ (And.intro (by with_reducible rfl) ?_); (conv => whnf))
          | (refine Exists.intro _ (And.intro (cast_succ _) ?_); (conv => whnf))
          | (refine Exists.intro _ (And.intro (by assumption) ?_); (conv => whnf))
          | (refine Exists.intro _ (And.intro (Int.toNat_of_nonneg ?_).symm ?_); (omega); (conv => whnf))
          | (refine Exists.intro _ (And.intro rfl ?_); (conv => whnf))
          | (intro h; (try simp only [decide_eq_true_eq, decide_eq_false_iff_not, Bool.not_eq_true', Bool.not_eq_false', Bool.not_true, Bool.not_false] at h); first | (exfalso; omega) | (conv => whnf)))
        obtain ⟨b1, b2, b3⟩ := ofn3 (nacc s i 4)
        have hr4 := rdec_four (s := s) (i := i) (by omega) h4
        have hl1 := rdec_length (s.data.toList.take i)
        rw [List.length_take, list_size, Nat.min_eq_left (by omega)] at hl1
        have e0 : (i + 4) / 4 * 3 = i / 4 * 3 + 3 := by omega
        have e1 : (xs.take (i / 4 * 3 * 1) ++ [bv (UInt8.ofNat (nacc s i 4 / 65536)), bv (UInt8.ofNat (nacc s i 4 / 256 % 256)), bv (UInt8.ofNat (nacc s i 4 % 256))] ++ sp).take ((i + 4) / 4 * 3) = (rdec (s.data.toList.take (i + 4))).map bv := by
          rw [Nat.mul_one, hr1, hr4, List.map_append, e0]
          rw [List.take_left' (by simp [hl1])]
          rfl
        have e2 : (xs.take (i / 4 * 3 * 1) ++ [bv (UInt8.ofNat (nacc s i 4 / 65536)), bv (UInt8.ofNat (nacc s i 4 / 256 % 256)), bv (UInt8.ofNat (nacc s i 4 % 256))] ++ sp).length = i / 4 * 3 + 3 + m := by
          rw [Nat.mul_one, hr1]
          simp [hsp, hl1]
          omega
        refine ⟨⟨i + 4, some (xs.take (i / 4 * 3 * 1) ++ [bv (UInt8.ofNat (nacc s i 4 / 65536)), bv (UInt8.ofNat (nacc s i 4 / 256 % 256)), bv (UInt8.ofNat (nacc s i 4 % 256))] ++ sp)⟩, [2], ⟨⟨by simp only; omega, by simp only; omega, ⟨e1, show (i + 4) / 4 * 3 ≤ _ by rw [e2]; omega⟩⟩, by simp only; omega⟩, rfl, ⟨fun _ _ _ => rfl, SEq.ren rfl ?_, fun _ _ _ => rfl, trivial⟩, ⟨OSub.ren rfl ?_, trivial⟩, fun f hf => hf⟩
        · simp only [ren, e2, e0]
          simp [sg]
        · simp only [renO, b1, b2, b3]
    · obtain rfl : i = s.size := by omega
      have hl1 := rdec_length s.data.toList
      rw [list_size] at hl1
      rw [List.take_of_length_le (l := s.data.toList) (i := s.size) (by rw [list_size]; exact Nat.le_refl _)] at hr1
      generalize hL : s.size / 4 * 3 = L at hr1 hr2 hl1 ⊢
      refine loop_by tok (α := Nat) (fun k => ⟨[(0, .v (.string s)), (4, .s 0 0 (L - k) xs.length), (9, .v (.int .i64 k))], [(0, .row xs 5)], 1, fx⟩)
        (fun k => (k ≤ 2 ∧ k ≤ L) ∧ (1 ≤ k → s.data.toList[s.size - 1]? = some 61) ∧ (k = 2 → s.data.toList[s.size - 2]? = some 61)) (fun k => 2 - k) 0 [0] ⟨⟨by omega, by omega⟩, fun h => by omega, fun h => by omega⟩ ⟨rfl, ⟨fun _ _ _ => rfl, SEq.ren rfl rfl, fun _ _ _ => rfl, trivial⟩, ⟨OSub.ren rfl rfl, trivial⟩, fun f hf => hf⟩ ?_
      rintro k ⟨⟨hk, hkL⟩, hk1, hk2⟩
      conv => whnf
      repeat' (first
        | (refine And.intro (by first | exact trivial | exact And.intro rfl trivial | exact And.intro rfl (And.intro rfl trivial) | exact And.intro rfl (And.intro rfl (And.intro rfl trivial))) (And.intro (fun _ h => h) ?_); (conv => whnf))
        | (refine Exists.intro (s.size - 1 - k) (And.intro (show (s.size : Int) - 1 - (k : Int) = ((s.size - 1 - k : Nat) : Int) by omega) ?_); (conv => whnf))
        | (refine And.intro (fun h => ?_) (fun h => ?_) <;> (try simp only [decide_eq_true_eq, decide_eq_false_iff_not, Bool.not_eq_true', Bool.not_eq_false', Bool.not_true, Bool.not_false] at h) <;> first | (exfalso; omega) | (conv => whnf))
        | (refine And.intro ?_ ?_; (omega); (conv => whnf))
        | (refine Exists.intro _ (And.intro (And.intro rfl rfl) ?_); (conv => whnf))
        | (refine Exists.intro ?w (And.intro (Pl.den ?p) ?k); (case p => repeat constructor); (conv => whnf))
        | (refine Exists.intro _ (And.intro (by with_reducible rfl) ?_); (conv => whnf))
        | (refine Exists.intro _ (And.intro (cast_succ _) ?_); (conv => whnf))
        | (refine Exists.intro _ (And.intro (by assumption) ?_); (conv => whnf))
        | (refine Exists.intro _ (And.intro (Int.toNat_of_nonneg ?_).symm ?_); (omega); (conv => whnf))
        | (refine Exists.intro _ (And.intro rfl ?_); (conv => whnf))
        | (intro h; (try simp only [decide_eq_true_eq, decide_eq_false_iff_not, Bool.not_eq_true', Bool.not_eq_false', Bool.not_true, Bool.not_false] at h); first | (exfalso; omega) | (conv => whnf)))
      · have hc := sbyte_get (s := s) (i := s.size - 1 - k) (by omega)
        have h61 : sbyte s (s.size - 1 - k) = 61 := UInt8.toNat_inj.1 (by rw [show (61 : UInt8).toNat = 61 from rfl]; omega)
        rw [h61] at hc
        refine ⟨k + 1, [0], ⟨⟨⟨by omega, by omega⟩, fun _ => ?_, fun h2 => ?_⟩, by omega⟩, rfl, ⟨fun _ _ _ => rfl, SEq.ren rfl ?_, fun _ _ _ => rfl, trivial⟩, ⟨OSub.ren rfl rfl, trivial⟩, fun f hf => hf⟩
        · by_cases hk0 : k = 0
          · subst hk0; exact hc
          · exact hk1 (by omega)
        · obtain rfl : k = 1 := by omega
          exact hc
        · simp only [ren, sg, List.getD_cons_zero]
          congr 1
          omega
      all_goals
        have hcut : rcut s.data.toList (rdec s.data.toList) = k := by
          refine rcut_is hk (by omega) (by rw [list_size]; exact hk1) (by rw [list_size]; exact hk2) ?_
          first
            | exact .inl (by omega)
            | exact .inr (.inl (by omega))
            | (refine .inr (.inr fun e => ?_)
               rw [list_size, sbyte_get (by omega)] at e
               have e2 := Option.some.inj e
               rw [e2] at h
               exact h rfl)
      all_goals (have hto : ((rdec s.data.toList).take (L - k)).length = L - k := by rw [List.length_take, hl1]; omega)
      all_goals refine Tri.lend 0 (xs := xs) (T := 5) (fun b => [.v (.slice (some ⟨b, 0, none⟩) (L - k) xs.length)]) (List.mem_cons_self ..) rowOf.row (fun _ => rfl) fun b => ?_
      all_goals refine Tri.use (tRefEncode _ (some ⟨b, 0, none⟩) xs.length ((rdec s.data.toList).take (L - k)) (by omega) (BytesAt.row (List.mem_cons_self ..) (by rw [hto, List.drop_zero, List.map_take, ← hr1, List.take_take, Nat.min_eq_left (by omega)]))).one [] rfl (fun _ _ _ => by rw [hto]; rfl) trivial (fun f hf => hf) fun u hu => ?_
      all_goals (
        conv => whnf
        refine And.intro rfl ?_
        conv => whnf
        repeat' (first
          | (refine And.intro (by first | exact trivial | exact And.intro rfl trivial | exact And.intro rfl (And.intro rfl trivial) | exact And.intro rfl (And.intro rfl (And.intro rfl trivial))) (And.intro (fun _ h => h) ?_); (conv => whnf))
          | (refine And.intro (fun h => ?_) (fun h => ?_) <;> (try simp only [decide_eq_true_eq, decide_eq_false_iff_not, Bool.not_eq_true', Bool.not_eq_false', Bool.not_true, Bool.not_false] at h) <;> first | (exfalso; omega) | (conv => whnf))
          | (refine And.intro ?_ ?_; (omega); (conv => whnf))
          | (refine Exists.intro _ (And.intro (And.intro rfl rfl) ?_); (conv => whnf))
          | (refine Exists.intro ?w (And.intro (Pl.den ?p) ?k); (case p => repeat constructor); (conv => whnf))
          | (refine Exists.intro _ (And.intro (by with_reducible rfl) ?_); (conv => whnf))
          | (refine Exists.intro _ (And.intro (cast_succ _) ?_); (conv => whnf))
          | (refine Exists.intro _ (And.intro (by assumption) ?_); (conv => whnf))
          | (refine Exists.intro _ (And.intro (Int.toNat_of_nonneg ?_).symm ?_); (omega); (conv => whnf))
          | (refine Exists.intro _ (And.intro rfl ?_); (conv => whnf))
          | (intro h; (try simp only [decide_eq_true_eq, decide_eq_false_iff_not, Bool.not_eq_true', Bool.not_eq_false', Bool.not_true, Bool.not_false] at h); first | (exfalso; omega) | (conv => whnf)))
        have hen := enc_length ((rdec s.data.toList).take (L - k))
        refine Tri.use (tSameRows fx (enc ((rdec s.data.toList).take (L - k))) s.data.toList _ _ _ _ (by omega)) [1,2] rfl (args_ren rfl rfl) ⟨OSub.ren rfl rfl, OSub.ren rfl rfl, trivial⟩ (fun f hf => by first | exact hf | cases hf | simp_all) (fun u hu => ?_)
        conv => whnf
        repeat' (first
          | (refine And.intro (by first | exact trivial | exact And.intro rfl trivial | exact And.intro rfl (And.intro rfl trivial) | exact And.intro rfl (And.intro rfl (And.intro rfl trivial))) (And.intro (fun _ h => h) ?_); (conv => whnf))
          | (refine And.intro (fun h => ?_) (fun h => ?_) <;> (try simp only [decide_eq_true_eq, decide_eq_false_iff_not, Bool.not_eq_true', Bool.not_eq_false', Bool.not_true, Bool.not_false] at h) <;> first | (exfalso; omega) | (conv => whnf))
          | (refine And.intro ?_ ?_; (omega); (conv => whnf))
          | (refine Exists.intro _ (And.intro (And.intro rfl rfl) ?_); (conv => whnf))
          | (refine Exists.intro ?w (And.intro (Pl.den ?p) ?k); (case p => repeat constructor); (conv => whnf))
          | (refine Exists.intro _ (And.intro (by with_reducible rfl) ?_); (conv => whnf))
          | (refine Exists.intro _ (And.intro (cast_succ _) ?_); (conv => whnf))
          | (refine Exists.intro _ (And.intro (by assumption) ?_); (conv => whnf))
          | (refine Exists.intro _ (And.intro (Int.toNat_of_nonneg ?_).symm ?_); (omega); (conv => whnf))
          | (refine Exists.intro _ (And.intro rfl ?_); (conv => whnf))
          | (intro h; (try simp only [decide_eq_true_eq, decide_eq_false_iff_not, Bool.not_eq_true', Bool.not_eq_false', Bool.not_true, Bool.not_false] at h); first | (exfalso; omega) | (conv => whnf)))
        · exact ⟨.nil false, ⟨fun h => (by cases h), fun _ b e => by
            have h0 := rcut_enc b
            rw [← e, hl1, hcut] at h0
            rw [h0] at h
            exact h e.symm⟩, Ret.mk [] [] (Fold.drop (by simp)) rfl (fun _ _ _ => rfl) trivial (fun _ h => by cases h)⟩
        · exact ⟨.row ((rdec s.data.toList).take (L - k)) xs, ⟨h.symm, by rw [hto, List.map_take, ← hr1, List.take_take, Nat.min_eq_left (by omega)], by omega⟩,
            Ret.mk [0] _ (Fold.refl _) rfl (SEq.ren rfl (by simp only [DecO.v, ren, renL, hto]; rfl)) ⟨OSub.ren rfl rfl, trivial⟩ (fun _ h => by cases h)⟩)
theorem tRefDecode (fx : List Fact) (s : ByteArray) (hs : s.size ≤ 1000000000) : Tri Try.prog 32 [.v (.string s)] [] 0 fx (RetE (α := Dc) 0 (Dc.pr s.data.toList) Dc.v (fun _ => []) 0 Dc.f) := (tRefDecode0 fx s hs).dc
end Go.Proofs.Ytekgjjanikicnaa.Sx
