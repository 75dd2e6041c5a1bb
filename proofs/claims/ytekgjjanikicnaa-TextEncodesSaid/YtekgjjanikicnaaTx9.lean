/- What the text laws' callees do, part 8: texts decoded. -/
import Derived.Test.YtekgjjanikicnaaTx8
namespace Go.Proofs.Ytekgjjanikicnaa.Sx
open Go
set_option maxRecDepth 100000
set_option linter.unusedSimpArgs false
set_option linter.unusedVariables false

/-- What a decoder hands back: nothing of its own, or a row of its own. -/
inductive DecO where
  | nil (ok : Bool)
  | row (bs : List UInt8) (xs : List Value)
def DecO.pr (s : List UInt8) : DecO → Prop
  | .nil ok => (ok = true → s = enc []) ∧ (ok = false → ∀ b, s ≠ enc b)
  | .row bs xs => s = enc bs ∧ xs.take bs.length = bs.map bv ∧ bs.length ≤ xs.length
def DecO.v : DecO → SV
  | .nil ok => .tup [.v (.slice none 0 0), .b ok]
  | .row bs xs => .tup [.s 0 0 bs.length xs.length, .b true]
def DecO.h : DecO → List (Nat × SObj)
  | .nil _ => []
  | .row _ xs => [(0, .row xs 5)]
structure DecS where
  i : Nat
  x : Nat
  n : Nat
  out : List UInt8
  row : Option (List Value)
def DecS.inv (s t : ByteArray) (fx : List Fact) (d : DecS) : SS :=
  match d.row with
  | none => ⟨[(0, .v (.string s)), (4, .v (.string t)), (5, .v (.slice none 0 0)), (6, .v (.int .u32 d.x)), (7, .v (.int .i64 d.n)), (18, .v (.int .i64 t.size)), (19, .v (.int .i64 d.i))], [], 0, fx⟩
  | some xs => ⟨[(0, .v (.string s)), (4, .v (.string t)), (5, .s 0 0 d.out.length xs.length), (6, .v (.int .u32 d.x)), (7, .v (.int .i64 d.n)), (18, .v (.int .i64 t.size)), (19, .v (.int .i64 d.i))], [(0, .row xs 5)], 1, fx⟩
structure DecS.Pr (tl : List UInt8) (d : DecS) : Prop where
  i : d.i ≤ tl.length
  x : d.x < 4294967296
  n : d.n ≤ 6 ∧ d.n % 2 = 0
  out : d.out.length ≤ d.i
  go : decGo tl 0 0 = (decGo (tl.drop d.i) (d.x % 2 ^ d.n) d.n).map (d.out ++ ·)
  row : match d.row with
    | none => d.out = []
    | some xs => xs.take d.out.length = d.out.map bv ∧ d.out.length ≤ xs.length
theorem acc6 (x k : Nat) (hk : k < 64) : bitz .or .u32 (IntKind.u32.wrap ((x : Int) * ((64 : Nat) : Int))) (IntKind.u32.wrap (k : Int)) = ((x * 64 % 4294967296 + k : Nat) : Int) := by
  rw [mul_nat, wrap_u32_nat, wrap_u32_nat, Nat.mod_eq_of_lt (a := k) (by omega), or_u32 _ _ (by omega) (by omega)]
  have e : x * 64 % 4294967296 = x % 67108864 * 2 ^ 6 := by omega
  rw [e, or_low 6 _ _ (by omega)]
theorem dec_num (x k n : Nat) (hk : k < 64) (hn : n ≤ 6) : (x * 64 % 4294967296 + k) % 2 ^ (n + 6) = x % 2 ^ n * 64 + k := by
  have : n = 0 ∨ n = 1 ∨ n = 2 ∨ n = 3 ∨ n = 4 ∨ n = 5 ∨ n = 6 := by omega
  rcases this with rfl | rfl | rfl | rfl | rfl | rfl | rfl <;> simp only [Nat.reducePow, Nat.reduceAdd, Nat.zero_add, Nat.pow_zero] <;> omega
theorem dec_num2 (x k n : Nat) (hk : k < 64) (hn : n ≤ 6) (h2 : 2 ≤ n) : (x * 64 % 4294967296 + k) % 2 ^ (n - 2) = (x % 2 ^ n * 64 + k) % 2 ^ (n - 2) ∧ (x * 64 % 4294967296 + k) / 2 ^ (n - 2) % 256 = (x % 2 ^ n * 64 + k) / 2 ^ (n - 2) ∧ (x % 2 ^ n * 64 + k) / 2 ^ (n - 2) < 256 := by
  have : n = 2 ∨ n = 3 ∨ n = 4 ∨ n = 5 ∨ n = 6 := by omega
  rcases this with rfl | rfl | rfl | rfl | rfl <;> simp only [Nat.reducePow, Nat.reduceSub, Nat.pow_zero] <;> omega
theorem byte6 (x k n : Nat) (hk : k < 64) (hn : n ≤ 6) (h2 : 2 ≤ n) : IntKind.u8.wrap (bitz .or .u32 (IntKind.u32.wrap ((x : Int) * ((64 : Nat) : Int))) (IntKind.u32.wrap (k : Int)) / ((pw .u32 ((n : Int) + 6 - 8) : Nat) : Int)) = ((UInt8.ofNat ((x % 2 ^ n * 64 + k) / 2 ^ (n - 2))).toNat : Int) := by
  obtain ⟨e1, e2, e3⟩ := dec_num2 x k n hk hn h2
  have ep : pw .u32 ((n : Int) + 6 - 8) = 2 ^ (n - 2) := by
    unfold pw
    rw [show ((n : Int) + 6 - 8).toNat = n - 2 by omega]
    congr 1
    simp only [IntKind.bits]
    omega
  rw [acc6 x k hk, ep, div_nat, wrap_u8_nat, e2]
  simp only [UInt8.toNat_ofNat']
  omega
theorem DecS.Pr.hi {tl : List UInt8} {d : DecS} (h : d.Pr tl) {c : UInt8} (hc : tl[d.i]? = some c) (hk : val6 c < 64) (h2 : 2 ≤ d.n) {row : Option (List Value)}
    (hr : match row with | none => d.out ++ [UInt8.ofNat ((d.x % 2 ^ d.n * 64 + val6 c) / 2 ^ (d.n - 2))] = [] | some xs => xs.take (d.out ++ [UInt8.ofNat ((d.x % 2 ^ d.n * 64 + val6 c) / 2 ^ (d.n - 2))]).length = (d.out ++ [UInt8.ofNat ((d.x % 2 ^ d.n * 64 + val6 c) / 2 ^ (d.n - 2))]).map bv ∧ (d.out ++ [UInt8.ofNat ((d.x % 2 ^ d.n * 64 + val6 c) / 2 ^ (d.n - 2))]).length ≤ xs.length) :
    DecS.Pr tl ⟨d.i + 1, d.x * 64 % 4294967296 + val6 c, d.n - 2, d.out ++ [UInt8.ofNat ((d.x % 2 ^ d.n * 64 + val6 c) / 2 ^ (d.n - 2))], row⟩ := by
  have hl := (List.getElem?_eq_some_iff.1 hc).1
  obtain ⟨hn, hm⟩ := h.n
  have ho := h.out
  refine ⟨hl, show d.x * 64 % 4294967296 + val6 c < 4294967296 by omega, show d.n - 2 ≤ 6 ∧ (d.n - 2) % 2 = 0 by omega, ?_, ?_, hr⟩
  · simp only [List.length_append, List.length_singleton]; omega
  rw [h.go, List.drop_eq_getElem_cons hl, ← Option.some.inj ((List.getElem?_eq_getElem hl).symm.trans hc).symm, dec_hi hk h2]
  obtain ⟨e1, e2, e3⟩ := dec_num2 d.x (val6 c) d.n hk hn h2
  simp only [e1, Option.map_map]
  congr 1
  funext l
  simp
theorem DecS.Pr.lo {tl : List UInt8} {d : DecS} (h : d.Pr tl) {c : UInt8} (hc : tl[d.i]? = some c) (hk : val6 c < 64) (h2 : d.n < 2) : DecS.Pr tl ⟨d.i + 1, d.x * 64 % 4294967296 + val6 c, d.n + 6, d.out, d.row⟩ := by
  have hl := (List.getElem?_eq_some_iff.1 hc).1
  obtain ⟨hn, hm⟩ := h.n
  have ho := h.out
  refine ⟨hl, show d.x * 64 % 4294967296 + val6 c < 4294967296 by omega, show d.n + 6 ≤ 6 ∧ (d.n + 6) % 2 = 0 by omega, show d.out.length ≤ d.i + 1 by omega, ?_, h.row⟩
  rw [h.go, List.drop_eq_getElem_cons hl, ← Option.some.inj ((List.getElem?_eq_getElem hl).symm.trans hc).symm, dec_lo hk h2, dec_num _ _ _ hk hn]
theorem DecS.Pr.no {tl : List UInt8} {d : DecS} (h : d.Pr tl) {c : UInt8} (hc : tl[d.i]? = some c) (hk : val6 c = 64) : decGo tl 0 0 = none := by
  have hl := (List.getElem?_eq_some_iff.1 hc).1
  rw [h.go, List.drop_eq_getElem_cons hl, ← Option.some.inj ((List.getElem?_eq_getElem hl).symm.trans hc).symm, dec_no hk]
  rfl
theorem tDecode0 (fx : List Fact) (s : ByteArray) (hs : s.size ≤ 1000000000) :
    Tri Try.prog 31 [.v (.string s)] [] 0 fx (RetE (α := DecO) 0 (DecO.pr s.data.toList) DecO.v DecO.h 1 (fun _ => [])) := by
  refine Tri.of_code tok Try.func31 rfl rfl rfl (by decide) rfl (Nat.le_of_ble_eq_true rfl) ?_
  conv => whnf
  repeat' (first
    | (refine And.intro (by first | exact trivial | exact And.intro rfl trivial | exact And.intro rfl (And.intro rfl trivial) | exact And.intro rfl (And.intro rfl (And.intro rfl trivial))) (And.intro (fun _ h => h) ?_); (conv => whnf))
    | (refine And.intro (fun h => ?_) (fun h => ?_) <;> (try simp only [decide_eq_true_eq, decide_eq_false_iff_not, Bool.not_eq_true', Bool.not_eq_false', Bool.not_true, Bool.not_false] at h) <;> first | (exfalso; omega) | (conv => whnf))
    | (refine And.intro ?_ ?_; (omega); (conv => whnf))
    | (refine Exists.intro _ (And.intro (And.intro rfl rfl) ?_); (conv => whnf))
    | (refine Exists.intro ?w (And.intro (Pl.den ?p) ?k); (case p => repeat constructor); (conv => whnf))
    | (refine Exists.intro _ (And.intro (by with_reducible rfl) ?_); (conv => whnf))
    | (refine Exists.intro _ (And.intro (cast_succ _) ?_); (conv => whnf))
    | (refine Exists.intro _ (And.intro (by assumption) ?_); (conv => whnf))
    | (refine Exists.intro _ (And.intro (Int.toNat_of_nonneg ?_).symm ?_); (omega); (conv => whnf))
    | (refine Exists.intro _ (And.intro rfl ?_); (conv => whnf))
    | (intro h; (try simp only [decide_eq_true_eq, decide_eq_false_iff_not, Bool.not_eq_true', Bool.not_eq_false', Bool.not_true, Bool.not_false] at h); first | (exfalso; omega) | (conv => whnf)))
  · refine ⟨.nil false, ⟨fun h => (by cases h), fun _ b e => ?_⟩, Ret.mk [] [] (Fold.refl _) rfl (fun _ _ _ => rfl) trivial (fun _ h => by cases h)⟩
    have := enc_length b
    rw [← e, list_size] at this
    omega
  refine Tri.use (tTrim fx s (by omega)).one [] rfl (args_ren rfl rfl) trivial (fun f hf => by first | exact hf | cases hf | simp_all) (fun u hu => ?_)
  conv => whnf
  repeat' (first
    | (refine And.intro (by first | exact trivial | exact And.intro rfl trivial | exact And.intro rfl (And.intro rfl trivial) | exact And.intro rfl (And.intro rfl (And.intro rfl trivial))) (And.intro (fun _ h => h) ?_); (conv => whnf))
    | (refine And.intro (fun h => ?_) (fun h => ?_) <;> (try simp only [decide_eq_true_eq, decide_eq_false_iff_not, Bool.not_eq_true', Bool.not_eq_false', Bool.not_true, Bool.not_false] at h) <;> first | (exfalso; omega) | (conv => whnf))
    | (refine And.intro ?_ ?_; (omega); (conv => whnf))
    | (refine Exists.intro _ (And.intro (And.intro rfl rfl) ?_); (conv => whnf))
    | (refine Exists.intro ?w (And.intro (Pl.den ?p) ?k); (case p => repeat constructor); (conv => whnf))
    | (refine Exists.intro _ (And.intro (by with_reducible rfl) ?_); (conv => whnf))
    | (refine Exists.intro _ (And.intro (cast_succ _) ?_); (conv => whnf))
    | (refine Exists.intro _ (And.intro (by assumption) ?_); (conv => whnf))
    | (refine Exists.intro _ (And.intro (Int.toNat_of_nonneg ?_).symm ?_); (omega); (conv => whnf))
    | (refine Exists.intro _ (And.intro rfl ?_); (conv => whnf))
    | (intro h; (try simp only [decide_eq_true_eq, decide_eq_false_iff_not, Bool.not_eq_true', Bool.not_eq_false', Bool.not_true, Bool.not_false] at h); first | (exfalso; omega) | (conv => whnf)))
  have h1 := Lib.trimSuffix_le s.data.toList [61]
  have h2 := Lib.trimSuffix_le (strip1 s.data.toList) [61]
  refine Tri.use (tTrim fx ⟨(strip1 s.data.toList).toArray⟩ (by rw [arr_size]; rw [list_size] at h1; exact Nat.le_trans h1 (by omega))).one [] rfl (args_ren rfl rfl) trivial (fun f hf => by first | exact hf | cases hf | simp_all) (fun u hu => ?_)
  conv => whnf
  repeat' (first
    | (refine And.intro (by first | exact trivial | exact And.intro rfl trivial | exact And.intro rfl (And.intro rfl trivial) | exact And.intro rfl (And.intro rfl (And.intro rfl trivial))) (And.intro (fun _ h => h) ?_); (conv => whnf))
    | (refine And.intro (fun h => ?_) (fun h => ?_) <;> (try simp only [decide_eq_true_eq, decide_eq_false_iff_not, Bool.not_eq_true', Bool.not_eq_false', Bool.not_true, Bool.not_false] at h) <;> first | (exfalso; omega) | (conv => whnf))
    | (refine And.intro ?_ ?_; (omega); (conv => whnf))
    | (refine Exists.intro _ (And.intro (And.intro rfl rfl) ?_); (conv => whnf))
    | (refine Exists.intro ?w (And.intro (Pl.den ?p) ?k); (case p => repeat constructor); (conv => whnf))
    | (refine Exists.intro _ (And.intro (by with_reducible rfl) ?_); (conv => whnf))
    | (refine Exists.intro _ (And.intro (cast_succ _) ?_); (conv => whnf))
    | (refine Exists.intro _ (And.intro (by assumption) ?_); (conv => whnf))
    | (refine Exists.intro _ (And.intro (Int.toNat_of_nonneg ?_).symm ?_); (omega); (conv => whnf))
    | (refine Exists.intro _ (And.intro rfl ?_); (conv => whnf))
    | (intro h; (try simp only [decide_eq_true_eq, decide_eq_false_iff_not, Bool.not_eq_true', Bool.not_eq_false', Bool.not_true, Bool.not_false] at h); first | (exfalso; omega) | (conv => whnf)))
  generalize htb : (⟨(strip1 (⟨(strip1 s.data.toList).toArray⟩ : ByteArray).data.toList).toArray⟩ : ByteArray) = t
  have htl : t.data.toList = strip1 (strip1 s.data.toList) := by rw [← htb]
  have hts : t.size ≤ s.size := by rw [← list_size, htl]; rw [list_size] at h1; exact Nat.le_trans h2 h1
  refine loop_by tok (DecS.inv s t fx) (DecS.Pr t.data.toList) (fun d => t.size - d.i) ⟨0, 0, 0, [], none⟩ [] ⟨Nat.zero_le _, Nat.zero_lt_succ _, ⟨Nat.zero_le _, rfl⟩, Nat.zero_le _, ?_, rfl⟩ ⟨rfl, ?_, trivial, fun f hf => hf⟩ ?_
  · show _ = Option.map ([] ++ ·) (decGo (List.drop 0 t.data.toList) 0 0)
    simp
  · exact ⟨fun _ _ _ => rfl, fun _ _ _ => rfl, fun _ _ _ => rfl, fun _ _ _ => rfl, fun _ _ _ => rfl, fun _ _ _ => rfl, fun _ _ _ => rfl, trivial⟩
  rintro ⟨i, x, n, out, row⟩ hd
  have hi := hd.i
  have hx := hd.x
  obtain ⟨hn, hm⟩ := hd.n
  have ho := hd.out
  have hg := hd.go
  have hr := hd.row
  simp only at hi hx hn hm ho hg hr
  rw [list_size] at hi
  have bad : ∀ {c : UInt8}, t.data.toList[i]? = some c → val6 c = 64 → ∀ b, s.data.toList ≠ enc b := fun hc hv b e => by
    have := dec_enc b
    rw [← e, ← htl, hd.no hc hv] at this
    cases this
  have fin : t.size ≤ i → decGo t.data.toList 0 0 = some out := fun h => by
    rw [hg, List.drop_of_length_le (by rw [list_size]; exact h)]
    simp [decGo]
  cases row with
  | none =>
    simp only [DecS.inv]
    conv => whnf
    repeat' (first
      | (refine And.intro (by first | exact trivial | exact And.intro rfl trivial | exact And.intro rfl (And.intro rfl trivial) | exact And.intro rfl (And.intro rfl (And.intro rfl trivial))) (And.intro (fun _ h => h) ?_); (conv => whnf))
      | (refine And.intro (fun h => ?_) (fun h => ?_) <;> (try simp only [decide_eq_true_eq, decide_eq_false_iff_not, Bool.not_eq_true', Bool.not_eq_false', Bool.not_true, Bool.not_false] at h) <;> first | (exfalso; omega) | (conv => whnf))
      | (refine And.intro ?_ ?_; (omega); (conv => whnf))
      | (refine Exists.intro _ (And.intro (And.intro rfl rfl) ?_); (conv => whnf))
      | (refine Exists.intro ?w (And.intro (Pl.den ?p) ?k); (case p => repeat constructor); (conv => whnf))
      | (refine Exists.intro _ (And.intro (by with_reducible rfl) ?_); (conv => whnf))
      | (refine Exists.intro _ (And.intro (cast_succ _) ?_); (conv => whnf))
      | (refine Exists.intro _ (And.intro (by assumption) ?_); (conv => whnf))
      | (refine Exists.intro _ (And.intro (Int.toNat_of_nonneg ?_).symm ?_); (omega); (conv => whnf))
      | (refine Exists.intro _ (And.intro rfl ?_); (conv => whnf))
      | (intro h; (try simp only [decide_eq_true_eq, decide_eq_false_iff_not, Bool.not_eq_true', Bool.not_eq_false', Bool.not_true, Bool.not_false] at h); first | (exfalso; omega) | (conv => whnf)))
    · have hc : t.data.toList[i]? = some (sbyte t i) := sbyte_get (by omega)
      by_cases hv : val6 (sbyte t i) = 64
      · refine Tri.use ((tIndex fx (sbyte t i)).one.reval (v' := .k .i64 (-1)) (fun _ => by rw [if_pos hv]; rfl)) [] rfl (args_ren rfl rfl) trivial (fun f hf => by first | exact hf | cases hf | simp_all) (fun u hu => ?_)
        conv => whnf
        repeat' (first
          | (refine And.intro (by first | exact trivial | exact And.intro rfl trivial | exact And.intro rfl (And.intro rfl trivial) | exact And.intro rfl (And.intro rfl (And.intro rfl trivial))) (And.intro (fun _ h => h) ?_); (conv => whnf))
          | (refine And.intro (fun h => ?_) (fun h => ?_) <;> (try simp only [decide_eq_true_eq, decide_eq_false_iff_not, Bool.not_eq_true', Bool.not_eq_false', Bool.not_true, Bool.not_false] at h) <;> first | (exfalso; omega) | (conv => whnf))
          | (refine And.intro ?_ ?_; (omega); (conv => whnf))
          | (refine Exists.intro _ (And.intro (And.intro rfl rfl) ?_); (conv => whnf))
          | (refine Exists.intro ?w (And.intro (Pl.den ?p) ?k); (case p => repeat constructor); (conv => whnf))
          | (refine Exists.intro _ (And.intro (by with_reducible rfl) ?_); (conv => whnf))
          | (refine Exists.intro _ (And.intro (cast_succ _) ?_); (conv => whnf))
          | (refine Exists.intro _ (And.intro (by assumption) ?_); (conv => whnf))
          | (refine Exists.intro _ (And.intro (Int.toNat_of_nonneg ?_).symm ?_); (omega); (conv => whnf))
          | (refine Exists.intro _ (And.intro rfl ?_); (conv => whnf))
          | (intro h; (try simp only [decide_eq_true_eq, decide_eq_false_iff_not, Bool.not_eq_true', Bool.not_eq_false', Bool.not_true, Bool.not_false] at h); first | (exfalso; omega) | (conv => whnf)))
        exact ⟨.nil false, ⟨fun h => (by cases h), fun _ => bad hc hv⟩, Ret.mk [] [] (Fold.refl _) rfl (fun _ _ _ => rfl) trivial (fun _ h => by cases h)⟩
      · have hk : val6 (sbyte t i) < 64 := by have := val6_le (sbyte t i); omega
        refine Tri.use ((tIndex fx (sbyte t i)).one.reval (v' := .v (.int .i64 (val6 (sbyte t i)))) (fun _ => by rw [if_neg hv])) [] rfl (args_ren rfl rfl) trivial (fun f hf => by first | exact hf | cases hf | simp_all) (fun u hu => ?_)
        conv => whnf
        repeat' (first
          | (refine And.intro (by first | exact trivial | exact And.intro rfl trivial | exact And.intro rfl (And.intro rfl trivial) | exact And.intro rfl (And.intro rfl (And.intro rfl trivial))) (And.intro (fun _ h => h) ?_); (conv => whnf))
          | (refine And.intro (fun h => ?_) (fun h => ?_) <;> (try simp only [decide_eq_true_eq, decide_eq_false_iff_not, Bool.not_eq_true', Bool.not_eq_false', Bool.not_true, Bool.not_false] at h) <;> first | (exfalso; omega) | (conv => whnf))
          | (refine And.intro ?_ ?_; (omega); (conv => whnf))
          | (refine Exists.intro _ (And.intro (And.intro rfl rfl) ?_); (conv => whnf))
          | (refine Exists.intro ?w (And.intro (Pl.den ?p) ?k); (case p => repeat constructor); (conv => whnf))
          | (refine Exists.intro _ (And.intro (by with_reducible rfl) ?_); (conv => whnf))
          | (refine Exists.intro _ (And.intro (cast_succ _) ?_); (conv => whnf))
          | (refine Exists.intro _ (And.intro (by assumption) ?_); (conv => whnf))
          | (refine Exists.intro _ (And.intro (Int.toNat_of_nonneg ?_).symm ?_); (omega); (conv => whnf))
          | (refine Exists.intro _ (And.intro rfl ?_); (conv => whnf))
          | (intro h; (try simp only [decide_eq_true_eq, decide_eq_false_iff_not, Bool.not_eq_true', Bool.not_eq_false', Bool.not_true, Bool.not_false] at h); first | (exfalso; omega) | (conv => whnf)))
        · rename_i _ m sp
          have hsp := h
          obtain rfl : out = [] := hr
          refine ⟨⟨i + 1, x * 64 % 4294967296 + val6 (sbyte t i), n - 2, [] ++ [UInt8.ofNat ((x % 2 ^ n * 64 + val6 (sbyte t i)) / 2 ^ (n - 2))], some (bv (UInt8.ofNat ((x % 2 ^ n * 64 + val6 (sbyte t i)) / 2 ^ (n - 2))) :: sp)⟩, [1], ⟨hd.hi hc hk (show 2 ≤ n by omega) ⟨rfl, by simp⟩, by simp only; omega⟩, rfl,
            ⟨fun _ _ _ => rfl, fun _ _ _ => rfl, SEq.ren rfl ?_, SEq.eq (by rw [acc6 _ _ hk]), SEq.eq (congrArg (Value.int .i64) (show ((n - 2 : Nat) : Int) = (n : Int) + 6 - 8 by omega)), fun _ _ _ => rfl, fun _ _ _ => rfl, trivial⟩, ⟨OSub.ren rfl ?_, trivial⟩, fun f hf => hf⟩
          · simp [ren, sg, hsp, Nat.add_comm]
          · simp only [renO]
            rw [byte6 _ _ _ hk hn (by omega)]
            rfl
        · have hn2 : n < 2 := by omega
          refine ⟨⟨i + 1, x * 64 % 4294967296 + val6 (sbyte t i), n + 6, out, none⟩, [], ⟨hd.lo hc hk hn2, by simp only; omega⟩, rfl,
            ⟨fun _ _ _ => rfl, fun _ _ _ => rfl, fun _ _ _ => rfl, SEq.eq (by rw [acc6 _ _ hk]), SEq.eq rfl, fun _ _ _ => rfl, fun _ _ _ => rfl, trivial⟩, trivial, fun f hf => hf⟩
    · refine Tri.use (tEncode fx none 0 [] (by simp) (by simp) ⟨fun _ => rfl, fun ad e => by cases e⟩).one [] rfl (args_ren rfl rfl) trivial (fun f hf => by first | exact hf | cases hf | simp_all) (fun u hu => ?_)
      conv => whnf
      repeat' (first
        | (refine And.intro (by first | exact trivial | exact And.intro rfl trivial | exact And.intro rfl (And.intro rfl trivial) | exact And.intro rfl (And.intro rfl (And.intro rfl trivial))) (And.intro (fun _ h => h) ?_); (conv => whnf))
        | (refine And.intro (fun h => ?_) (fun h => ?_) <;> (try simp only [decide_eq_true_eq, decide_eq_false_iff_not, Bool.not_eq_true', Bool.not_eq_false', Bool.not_true, Bool.not_false] at h) <;> first | (exfalso; omega) | (conv => whnf))
        | (refine And.intro ?_ ?_; (omega); (conv => whnf))
        | (refine Exists.intro _ (And.intro (And.intro rfl rfl) ?_); (conv => whnf))
        | (refine Exists.intro ?w (And.intro (Pl.den ?p) ?k); (case p => repeat constructor); (conv => whnf))
        | (refine Exists.intro _ (And.intro (by with_reducible rfl) ?_); (conv => whnf))
        | (refine Exists.intro _ (And.intro (cast_succ _) ?_); (conv => whnf))
        | (refine Exists.intro _ (And.intro (by assumption) ?_); (conv => whnf))
        | (refine Exists.intro _ (And.intro (Int.toNat_of_nonneg ?_).symm ?_); (omega); (conv => whnf))
        | (refine Exists.intro _ (And.intro rfl ?_); (conv => whnf))
        | (intro h; (try simp only [decide_eq_true_eq, decide_eq_false_iff_not, Bool.not_eq_true', Bool.not_eq_false', Bool.not_true, Bool.not_false] at h); first | (exfalso; omega) | (conv => whnf)))
      · exact ⟨.nil false, ⟨fun h => (by cases h), fun _ b e => by
          have := dec_enc b
          rw [← e, ← htl, fin (by omega)] at this
          obtain rfl := Option.some.inj this
          rw [show out = [] from hr] at e
          rw [e] at h
          simp at h⟩, Ret.mk [] [] (Fold.refl _) rfl (fun _ _ _ => rfl) trivial (fun _ h => by cases h)⟩
      · exact ⟨.nil true, ⟨fun _ => (by simpa using h : enc [] = s.data.toList).symm, fun h => (by cases h)⟩, Ret.mk [] [] (Fold.refl _) rfl (fun _ _ _ => rfl) trivial (fun _ h => by cases h)⟩
  | some xs =>
    obtain ⟨hr1, hr2⟩ := hr
    simp only [DecS.inv]
    conv => whnf
    repeat' (first
      | (refine And.intro (by first | exact trivial | exact And.intro rfl trivial | exact And.intro rfl (And.intro rfl trivial) | exact And.intro rfl (And.intro rfl (And.intro rfl trivial))) (And.intro (fun _ h => h) ?_); (conv => whnf))
      | (refine And.intro (fun h => ?_) (fun h => ?_) <;> (try simp only [decide_eq_true_eq, decide_eq_false_iff_not, Bool.not_eq_true', Bool.not_eq_false', Bool.not_true, Bool.not_false] at h) <;> first | (exfalso; omega) | (conv => whnf))
      | (refine And.intro ?_ ?_; (omega); (conv => whnf))
      | (refine Exists.intro _ (And.intro (And.intro rfl rfl) ?_); (conv => whnf))
      | (refine Exists.intro ?w (And.intro (Pl.den ?p) ?k); (case p => repeat constructor); (conv => whnf))
      | (refine Exists.intro _ (And.intro (by with_reducible rfl) ?_); (conv => whnf))
      | (refine Exists.intro _ (And.intro (cast_succ _) ?_); (conv => whnf))
      | (refine Exists.intro _ (And.intro (by assumption) ?_); (conv => whnf))
      | (refine Exists.intro _ (And.intro (Int.toNat_of_nonneg ?_).symm ?_); (omega); (conv => whnf))
      | (refine Exists.intro _ (And.intro rfl ?_); (conv => whnf))
      | (intro h; (try simp only [decide_eq_true_eq, decide_eq_false_iff_not, Bool.not_eq_true', Bool.not_eq_false', Bool.not_true, Bool.not_false] at h); first | (exfalso; omega) | (conv => whnf)))
    · have hc : t.data.toList[i]? = some (sbyte t i) := sbyte_get (by omega)
      by_cases hv : val6 (sbyte t i) = 64
      · refine Tri.use ((tIndex fx (sbyte t i)).one.reval (v' := .k .i64 (-1)) (fun _ => by rw [if_pos hv]; rfl)) [] rfl (args_ren rfl rfl) trivial (fun f hf => by first | exact hf | cases hf | simp_all) (fun u hu => ?_)
        conv => whnf
        repeat' (first
          | (refine And.intro (by first | exact trivial | exact And.intro rfl trivial | exact And.intro rfl (And.intro rfl trivial) | exact And.intro rfl (And.intro rfl (And.intro rfl trivial))) (And.intro (fun _ h => h) ?_); (conv => whnf))
          | (refine And.intro (fun h => ?_) (fun h => ?_) <;> (try simp only [decide_eq_true_eq, decide_eq_false_iff_not, Bool.not_eq_true', Bool.not_eq_false', Bool.not_true, Bool.not_false] at h) <;> first | (exfalso; omega) | (conv => whnf))
          | (refine And.intro ?_ ?_; (omega); (conv => whnf))
          | (refine Exists.intro _ (And.intro (And.intro rfl rfl) ?_); (conv => whnf))
          | (refine Exists.intro ?w (And.intro (Pl.den ?p) ?k); (case p => repeat constructor); (conv => whnf))
          | (refine Exists.intro _ (And.intro (by with_reducible rfl) ?_); (conv => whnf))
          | (refine Exists.intro _ (And.intro (cast_succ _) ?_); (conv => whnf))
          | (refine Exists.intro _ (And.intro (by assumption) ?_); (conv => whnf))
          | (refine Exists.intro _ (And.intro (Int.toNat_of_nonneg ?_).symm ?_); (omega); (conv => whnf))
          | (refine Exists.intro _ (And.intro rfl ?_); (conv => whnf))
          | (intro h; (try simp only [decide_eq_true_eq, decide_eq_false_iff_not, Bool.not_eq_true', Bool.not_eq_false', Bool.not_true, Bool.not_false] at h); first | (exfalso; omega) | (conv => whnf)))
        exact ⟨.nil false, ⟨fun h => (by cases h), fun _ => bad hc hv⟩, Ret.mk [] [] (Fold.drop (by simp)) rfl (fun _ _ _ => rfl) trivial (fun _ h => by cases h)⟩
      · have hk : val6 (sbyte t i) < 64 := by have := val6_le (sbyte t i); omega
        refine Tri.use ((tIndex fx (sbyte t i)).one.reval (v' := .v (.int .i64 (val6 (sbyte t i)))) (fun _ => by rw [if_neg hv])) [] rfl (args_ren rfl rfl) trivial (fun f hf => by first | exact hf | cases hf | simp_all) (fun u hu => ?_)
        conv => whnf
        repeat' (first
          | (refine And.intro (by first | exact trivial | exact And.intro rfl trivial | exact And.intro rfl (And.intro rfl trivial) | exact And.intro rfl (And.intro rfl (And.intro rfl trivial))) (And.intro (fun _ h => h) ?_); (conv => whnf))
          | (refine And.intro (fun h => ?_) (fun h => ?_) <;> (try simp only [decide_eq_true_eq, decide_eq_false_iff_not, Bool.not_eq_true', Bool.not_eq_false', Bool.not_true, Bool.not_false] at h) <;> first | (exfalso; omega) | (conv => whnf))
          | (refine And.intro ?_ ?_; (omega); (conv => whnf))
          | (refine Exists.intro _ (And.intro (And.intro rfl rfl) ?_); (conv => whnf))
          | (refine Exists.intro ?w (And.intro (Pl.den ?p) ?k); (case p => repeat constructor); (conv => whnf))
          | (refine Exists.intro _ (And.intro (by with_reducible rfl) ?_); (conv => whnf))
          | (refine Exists.intro _ (And.intro (cast_succ _) ?_); (conv => whnf))
          | (refine Exists.intro _ (And.intro (by assumption) ?_); (conv => whnf))
          | (refine Exists.intro _ (And.intro (Int.toNat_of_nonneg ?_).symm ?_); (omega); (conv => whnf))
          | (refine Exists.intro _ (And.intro rfl ?_); (conv => whnf))
          | (intro h; (try simp only [decide_eq_true_eq, decide_eq_false_iff_not, Bool.not_eq_true', Bool.not_eq_false', Bool.not_true, Bool.not_false] at h); first | (exfalso; omega) | (conv => whnf)))
        · refine ⟨⟨by omega, hr2, by omega, by simp [Value.oneCell']⟩, fun m sp hsp => ?_⟩
          conv => whnf
          repeat' (first
            | (refine And.intro (by first | exact trivial | exact And.intro rfl trivial | exact And.intro rfl (And.intro rfl trivial) | exact And.intro rfl (And.intro rfl (And.intro rfl trivial))) (And.intro (fun _ h => h) ?_); (conv => whnf))
            | (refine And.intro (fun h => ?_) (fun h => ?_) <;> (try simp only [decide_eq_true_eq, decide_eq_false_iff_not, Bool.not_eq_true', Bool.not_eq_false', Bool.not_true, Bool.not_false] at h) <;> first | (exfalso; omega) | (conv => whnf))
            | (refine And.intro ?_ ?_; (omega); (conv => whnf))
            | (refine Exists.intro _ (And.intro (And.intro rfl rfl) ?_); (conv => whnf))
            | (refine Exists.intro ?w (And.intro (Pl.den ?p) ?k); (case p => repeat constructor); (conv => whnf))
            | (refine Exists.intro _ (And.intro (by with_reducible rfl) ?_); (conv => whnf))
            | (refine Exists.intro _ (And.intro (cast_succ _) ?_); (conv => whnf))
            | (refine Exists.intro _ (And.intro (by assumption) ?_); (conv => whnf))
            | (refine Exists.intro _ (And.intro (Int.toNat_of_nonneg ?_).symm ?_); (omega); (conv => whnf))
            | (refine Exists.intro _ (And.intro rfl ?_); (conv => whnf))
            | (intro h; (try simp only [decide_eq_true_eq, decide_eq_false_iff_not, Bool.not_eq_true', Bool.not_eq_false', Bool.not_true, Bool.not_false] at h); first | (exfalso; omega) | (conv => whnf)))
          have e1 : (xs.take (out.length * 1) ++ [bv (UInt8.ofNat ((x % 2 ^ n * 64 + val6 (sbyte t i)) / 2 ^ (n - 2)))] ++ sp).take (out ++ [UInt8.ofNat ((x % 2 ^ n * 64 + val6 (sbyte t i)) / 2 ^ (n - 2))]).length = (out ++ [UInt8.ofNat ((x % 2 ^ n * 64 + val6 (sbyte t i)) / 2 ^ (n - 2))]).map bv := by
            rw [Nat.mul_one, hr1, List.map_append]
            rw [List.take_left' (by simp)]
            rfl
          have e2 : (xs.take (out.length * 1) ++ [bv (UInt8.ofNat ((x % 2 ^ n * 64 + val6 (sbyte t i)) / 2 ^ (n - 2)))] ++ sp).length = out.length + 1 + m := by
            rw [Nat.mul_one, hr1]
            simp [hsp]
            omega
          refine ⟨⟨i + 1, x * 64 % 4294967296 + val6 (sbyte t i), n - 2, out ++ [UInt8.ofNat ((x % 2 ^ n * 64 + val6 (sbyte t i)) / 2 ^ (n - 2))], some (xs.take (out.length * 1) ++ [bv (UInt8.ofNat ((x % 2 ^ n * 64 + val6 (sbyte t i)) / 2 ^ (n - 2)))] ++ sp)⟩, [2], ⟨hd.hi hc hk (show 2 ≤ n by omega) ⟨e1, by rw [e2]; simp⟩, by simp only; omega⟩, rfl,
            ⟨fun _ _ _ => rfl, fun _ _ _ => rfl, SEq.ren rfl ?_, SEq.eq (by rw [acc6 _ _ hk]), SEq.eq (congrArg (Value.int .i64) (show ((n - 2 : Nat) : Int) = (n : Int) + 6 - 8 by omega)), fun _ _ _ => rfl, fun _ _ _ => rfl, trivial⟩, ⟨OSub.ren rfl ?_, trivial⟩, fun f hf => hf⟩
          · simp only [ren, e2]
            simp [sg]
          · simp only [renO]
            rw [byte6 _ _ _ hk hn (by omega)]
            rfl
        · have hn2 : n < 2 := by omega
          refine ⟨⟨i + 1, x * 64 % 4294967296 + val6 (sbyte t i), n + 6, out, some xs⟩, [0], ⟨hd.lo hc hk hn2, by simp only; omega⟩, rfl,
            ⟨fun _ _ _ => rfl, fun _ _ _ => rfl, SEq.ren rfl rfl, SEq.eq (by rw [acc6 _ _ hk]), SEq.eq rfl, fun _ _ _ => rfl, fun _ _ _ => rfl, trivial⟩, ⟨OSub.ren rfl rfl, trivial⟩, fun f hf => hf⟩
    · refine Tri.lend 0 (xs := xs) (T := 5) (fun b => [.v (.slice (some ⟨b, 0, none⟩) out.length xs.length)]) (List.mem_cons_self ..) rowOf.row (fun _ => rfl) fun b => ?_
      refine Tri.use (tEncode _ _ _ out (by omega) hr2 (BytesAt.row (List.mem_cons_self ..) (by rw [List.drop_zero, hr1]))).one [] rfl (fun _ _ _ => rfl) trivial (fun f hf => hf) fun u hu => ?_
      conv => whnf
      refine And.intro rfl ?_
      conv => whnf
      repeat' (first
        | (refine And.intro (by first | exact trivial | exact And.intro rfl trivial | exact And.intro rfl (And.intro rfl trivial) | exact And.intro rfl (And.intro rfl (And.intro rfl trivial))) (And.intro (fun _ h => h) ?_); (conv => whnf))
        | (refine And.intro (fun h => ?_) (fun h => ?_) <;> (try simp only [decide_eq_true_eq, decide_eq_false_iff_not, Bool.not_eq_true', Bool.not_eq_false', Bool.not_true, Bool.not_false] at h) <;> first | (exfalso; omega) | (conv => whnf))
        | (refine And.intro ?_ ?_; (omega); (conv => whnf))
        | (refine Exists.intro _ (And.intro (And.intro rfl rfl) ?_); (conv => whnf))
        | (refine Exists.intro ?w (And.intro (Pl.den ?p) ?k); (case p => repeat constructor); (conv => whnf))
        | (refine Exists.intro _ (And.intro (by with_reducible rfl) ?_); (conv => whnf))
        | (refine Exists.intro _ (And.intro (cast_succ _) ?_); (conv => whnf))
        | (refine Exists.intro _ (And.intro (by assumption) ?_); (conv => whnf))
        | (refine Exists.intro _ (And.intro (Int.toNat_of_nonneg ?_).symm ?_); (omega); (conv => whnf))
        | (refine Exists.intro _ (And.intro rfl ?_); (conv => whnf))
        | (intro h; (try simp only [decide_eq_true_eq, decide_eq_false_iff_not, Bool.not_eq_true', Bool.not_eq_false', Bool.not_true, Bool.not_false] at h); first | (exfalso; omega) | (conv => whnf)))
      · exact ⟨.nil false, ⟨fun h => (by cases h), fun _ b e => by
          have := dec_enc b
          rw [← e, ← htl, fin (by omega)] at this
          obtain rfl := Option.some.inj this
          rw [e] at h
          simp at h⟩, Ret.mk [] [] (Fold.drop (by simp)) rfl (fun _ _ _ => rfl) trivial (fun _ h => by cases h)⟩
      · exact ⟨.row out xs, ⟨(by simpa using h : enc out = s.data.toList).symm, hr1, hr2⟩, Ret.mk [0] _ (Fold.refl _) rfl (SEq.ren rfl rfl) ⟨OSub.ren rfl rfl, trivial⟩ (fun _ h => by cases h)⟩
/-- What a decoder hands back, told by facts. -/
structure Dc where
  A : Option Addr
  bs : List UInt8
  cap : Nat
  ok : Bool
  fs : List Fact
structure Dc.pr (s : List UInt8) (x : Dc) : Prop where
  yes : x.ok = true → s = enc x.bs
  no : x.ok = false → x.bs = [] ∧ ∀ b, s ≠ enc b
  at_ : BytesAt x.fs x.A x.bs
  cap : x.bs.length ≤ x.cap
def Dc.v : Dc → SV
  | ⟨A, bs, cap, ok, _⟩ => .tup [.v (.slice A bs.length cap), .b ok]
def Dc.f : Dc → List Fact
  | ⟨_, _, _, _, fs⟩ => fs
theorem appFK_intro : ∀ {a b : List Fact} {k : List Fact → Prop}, k (a ++ b) → appFK a b k
  | [], b, k, h => h
  | x :: r, b, k, h => appFK_intro (a := r) (k := fun m => k (x :: m)) h
theorem Tri.dc {n : Nat} {args : List SV} {fx : List Fact} {s : List UInt8} (T : Tri Try.prog n args [] 0 fx (RetE (α := DecO) 0 (DecO.pr s) DecO.v DecO.h 1 (fun _ => []))) :
    Tri Try.prog n args [] 0 fx (RetE (α := Dc) 0 (Dc.pr s) Dc.v (fun _ => []) 0 Dc.f) := by
  refine T.conv.share2 fun y h m f ⟨a, hp, e1, e2, e3, e4⟩ => ?_
  subst e1 e2 e3 e4
  cases a with
  | nil ok =>
    left
    refine ⟨⟨none, [], 0, ok, []⟩, ⟨hp.1, fun e => ⟨rfl, hp.2 e⟩, ⟨fun _ => rfl, fun ad e => by cases e⟩, Nat.le_refl _⟩, ?_⟩
    exact Ret.mk [] [] (Fold.refl _) rfl (fun _ _ _ => rfl) trivial (fun _ h => h)
  | row bs xs =>
    right
    obtain ⟨h1, h2, h3⟩ := hp
    refine ⟨0, xs, 5, List.mem_cons_self .., fun b => ⟨.tup [.v (.slice (some ⟨b, 0, none⟩) bs.length xs.length), .b true], fun ρ e => by simp only [DecO.v, den, denL_cons, denL_nil, e], ?_⟩⟩
    refine ⟨⟨some ⟨b, 0, none⟩, bs, xs.length, true, [rowFact b xs 5]⟩, ⟨fun _ => h1, fun e => (by cases e), BytesAt.row (List.mem_cons_self ..) (by rw [List.drop_zero, h2]), h3⟩, ?_⟩
    exact Ret.mk [] [] (Fold.refl _) rfl (fun _ _ _ => rfl) trivial (fun _ h => h)
theorem tDecode (fx : List Fact) (s : ByteArray) (hs : s.size ≤ 1000000000) : Tri Try.prog 31 [.v (.string s)] [] 0 fx (RetE (α := Dc) 0 (Dc.pr s.data.toList) Dc.v (fun _ => []) 0 Dc.f) := (tDecode0 fx s hs).dc
end Go.Proofs.Ytekgjjanikicnaa.Sx
