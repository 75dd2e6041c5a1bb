/- Notes, written. -/
import Derived.Test.YtekgjjanikicnaaDoorNt3
namespace Go.Proofs.YtekgjjanikicnaaDoor.Sx
open Go Go.RowKit
set_option maxRecDepth 100000
set_option linter.unusedSimpArgs false
set_option linter.unusedVariables false
/-- A note's bytes. -/
def noteL (d : Hd) (l : List Sg) : List UInt8 := d.text ++ [10] ++ l.flatMap Sg.line
def wErr (d : Hd) (l : List Sg) : Nat := if d.ok = false ∨ l.all Sg.ok = false then 1 else if 8 < l.length then 4 else 0
def wOut (d : Hd) (l : List Sg) : List UInt8 := if wErr d l = 0 then noteL d l else []
def wRes (d : Hd) (l : List Sg) : SV := .tup [.v (strS (wOut d l)), .v (.int .i64 (wErr d l : Nat))]
theorem line_len {s : Sg} (h : s.ok = true) (hn : s.num < 4294967296) : s.line.length ≤ 167 := by
  obtain ⟨h1, _, h2, h3⟩ := Sg.ok_iff.1 h
  have h4 := nameOk_len h1
  have h5 : Lib.nDigits s.num ≤ 10 := by
    have : ∀ k u, u < 10 ^ (k + 1) → Lib.nDigits u ≤ k + 1 := by
      intro k
      induction k with
      | zero => intro u h; rw [Lib.nDigits_small (by omega)]; omega
      | succ k ih =>
        intro u h
        by_cases h10 : u < 10
        · rw [Lib.nDigits_small h10]; omega
        · rw [Lib.nDigits_big h10]
          have := ih (u / 10) (by rw [Nat.pow_succ] at h; omega)
          omega
    exact this 9 s.num (by omega)
  have h6 := enc_length s.bs
  have h7 := decDigits_len s.num
  simp only [Sg.line, List.length_append, List.length_cons, List.length_nil, h6, h7]
  omega
theorem lines_len : ∀ {l : List Sg}, (∀ s ∈ l, s.ok = true ∧ s.num < 4294967296) → (l.flatMap Sg.line).length ≤ 167 * l.length
  | [], _ => by simp
  | x :: r, h => by
    have h1 := line_len (h x (List.mem_cons_self ..)).1 (h x (List.mem_cons_self ..)).2
    have h2 := lines_len (l := r) fun s hs => h s (List.mem_cons_of_mem _ hs)
    simp only [List.flatMap_cons, List.length_append, List.length_cons]
    omega
theorem text_len {d : Hd} (h : d.ok = true) (hr : d.root.length = 32) : d.text.length ≤ 107 := by
  unfold Hd.ok at h
  simp only [Bool.and_eq_true, decide_eq_true_eq] at h
  obtain ⟨h1, h2⟩ := h
  have h4 := nameOk_len h1
  have h5 := nDigits_le d.size.toNat (by omega)
  have h6 := enc_length d.root
  have h7 := decDigits_len d.size.toNat
  simp only [Hd.text, List.length_append, List.length_cons, List.length_nil, h6, h7, hr]
  omega
theorem Hd.len {d : Hd} (hf : d.Fit) : d.cells.length = 34 := by simp [Hd.cells, hf.root]
theorem Hd.all {d : Hd} (hf : d.Fit) : List.take 34 (List.drop 0 d.cells) = d.cells ∧ d.cells.length = 34 := ⟨by rw [List.drop_zero, List.take_of_length_le (by rw [Hd.len hf]; omega)], Hd.len hf⟩
theorem wErr_no {d : Hd} {l : List Sg} (h : d.ok = false ∨ l.all Sg.ok = false) : wRes d l = .tup [.v (strS []), .v (.int .i64 (1 : Nat))] := by
  have e : wErr d l = 1 := if_pos h
  unfold wRes wOut
  rw [e]; rfl
theorem wErr_long {d : Hd} {l : List Sg} (h1 : d.ok = true) (h2 : l.all Sg.ok = true) (h : 8 < l.length) : wRes d l = .tup [.v (strS []), .v (.int .i64 (4 : Nat))] := by
  have e : wErr d l = 4 := by unfold wErr; rw [if_neg (by simp [h1, h2]), if_pos h]
  unfold wRes wOut
  rw [e]; rfl
theorem wErr_ok {d : Hd} {l : List Sg} (h1 : d.ok = true) (h2 : l.all Sg.ok = true) (h : ¬ 8 < l.length) : wRes d l = .tup [.v (strS (noteL d l)), .v (.int .i64 (0 : Nat))] := by
  have e : wErr d l = 0 := by unfold wErr; rw [if_neg (by simp [h1, h2]), if_neg h]
  unfold wRes wOut
  rw [e]; rfl
theorem tWrite21 (fx : List Fact) (hg : gTab ∈ fx) (d : Hd) (hf : d.Fit) (A : Option Addr) (l : List Sg) (cap : Nat) (hS : SgsAt fx A l) (hl : l.length ≤ 15) :
    Tri Tryd.prog 36 [.v d.v, .v (.slice A l.length cap)] [] 0 fx (Ret 0 (wRes d l) [] 0 []) := by
  refine Tri.of_code tok Tryd.func36 rfl rfl rfl (by decide) rfl (Nat.le_of_ble_eq_true rfl) ?_
  conv => whnf
  repeat' ((first | refine And.intro (by repeat' first | exact trivial | refine And.intro rfl ?_) (And.intro (by first | exact fun _ h => h | exact fun _ => List.mem_cons_of_mem _ | exact fun _ => List.mem_append_right _) ?_) | (refine And.intro (fun h => ?_) (fun h => ?_) <;> (try simp only [n1, n2, n3, n4, n5, n6] at h) <;> first | (exfalso; omega) | (cases h; done) | skip) | refine And.intro (by omega) ?_ | refine Exists.intro _ (And.intro (by first | exact And.intro rfl rfl | exact Pl.den (by repeat constructor) | with_reducible rfl | exact cast_succ _ | assumption | exact (Int.toNat_of_nonneg (by omega)).symm | rfl) ?_) | refine hD _ _ ?_ | refine hL _ _ ?_ | (intro h; (try simp only [n1, n2, n3, n4, n5, n6] at h); first | (exfalso; omega) | (cases h; done) | skip)) <;> (conv => whnf))
  refine And.intro Hd.one ?_
  conv => whnf
  repeat' ((first | (refine Exists.intro d.cells (And.intro (Hd.all hf) ?_)) | refine And.intro (by repeat' first | exact trivial | refine And.intro rfl ?_) (And.intro (by first | exact fun _ h => h | exact fun _ => List.mem_cons_of_mem _ | exact fun _ => List.mem_append_right _) ?_) | (refine And.intro (fun h => ?_) (fun h => ?_) <;> (try simp only [n1, n2, n3, n4, n5, n6] at h) <;> first | (exfalso; omega) | (cases h; done) | skip) | refine And.intro (by omega) ?_ | refine Exists.intro _ (And.intro (by first | exact And.intro rfl rfl | exact Pl.den (by repeat constructor) | with_reducible rfl | exact cast_succ _ | assumption | exact (Int.toNat_of_nonneg (by omega)).symm | rfl) ?_) | refine hD _ _ ?_ | refine hL _ _ ?_ | (intro h; (try simp only [n1, n2, n3, n4, n5, n6] at h); first | (exfalso; omega) | (cases h; done) | skip)) <;> (conv => whnf))
  cases hok : d.ok with
  | false =>
    have T := tText fx hg d hf
    rw [Hd.res_no hok] at T
    refine Tri.use (T.one) [] rfl (fun _ _ _ => rfl) trivial (fun f hf => by first | exact hf | cases hf) (fun u hu => ?_)
    conv => whnf
    repeat' ((first | refine And.intro (by repeat' first | exact trivial | refine And.intro rfl ?_) (And.intro (by first | exact fun _ h => h | exact fun _ => List.mem_cons_of_mem _ | exact fun _ => List.mem_append_right _) ?_) | (refine And.intro (fun h => ?_) (fun h => ?_) <;> (try simp only [n1, n2, n3, n4, n5, n6] at h) <;> first | (exfalso; omega) | (cases h; done) | skip) | refine And.intro (by omega) ?_ | refine Exists.intro _ (And.intro (by first | exact And.intro rfl rfl | exact Pl.den (by repeat constructor) | with_reducible rfl | exact cast_succ _ | assumption | exact (Int.toNat_of_nonneg (by omega)).symm | rfl) ?_) | refine hD _ _ ?_ | refine hL _ _ ?_ | (intro h; (try simp only [n1, n2, n3, n4, n5, n6] at h); first | (exfalso; omega) | (cases h; done) | skip)) <;> (conv => whnf))
    rw [wErr_no (.inl hok)]
    exact Ret.noneS rfl (fun _ _ => rfl) (fun g hg => by cases hg)
  | true =>
  have T := tText fx hg d hf
  rw [Hd.res_ok hok] at T
  refine Tri.use (T.one) [] rfl (fun _ _ _ => rfl) trivial (fun f hf => by first | exact hf | cases hf) (fun u hu => ?_)
  conv => whnf
  repeat' ((first | refine And.intro (by repeat' first | exact trivial | refine And.intro rfl ?_) (And.intro (by first | exact fun _ h => h | exact fun _ => List.mem_cons_of_mem _ | exact fun _ => List.mem_append_right _) ?_) | (refine And.intro (fun h => ?_) (fun h => ?_) <;> (try simp only [n1, n2, n3, n4, n5, n6] at h) <;> first | (exfalso; omega) | (cases h; done) | skip) | refine And.intro (by omega) ?_ | refine Exists.intro _ (And.intro (by first | exact And.intro rfl rfl | exact Pl.den (by repeat constructor) | with_reducible rfl | exact cast_succ _ | assumption | exact (Int.toNat_of_nonneg (by omega)).symm | rfl) ?_) | refine hD _ _ ?_ | refine hL _ _ ?_ | (intro h; (try simp only [n1, n2, n3, n4, n5, n6] at h); first | (exfalso; omega) | (cases h; done) | skip)) <;> (conv => whnf))
  have htl := text_len hok hf.root
  have hts := arr_size d.text
  have h10 : (⟨#[10]⟩ : ByteArray).size = 1 := rfl
  conv => whnf
  repeat' ((first | (refine And.intro (by rw [hts, h10]; omega) ?_) | refine And.intro (by repeat' first | exact trivial | refine And.intro rfl ?_) (And.intro (by first | exact fun _ h => h | exact fun _ => List.mem_cons_of_mem _ | exact fun _ => List.mem_append_right _) ?_) | (refine And.intro (fun h => ?_) (fun h => ?_) <;> (try simp only [n1, n2, n3, n4, n5, n6] at h) <;> first | (exfalso; omega) | (cases h; done) | skip) | refine And.intro (by omega) ?_ | refine Exists.intro _ (And.intro (by first | exact And.intro rfl rfl | exact Pl.den (by repeat constructor) | with_reducible rfl | exact cast_succ _ | assumption | exact (Int.toNat_of_nonneg (by omega)).symm | rfl) ?_) | refine hD _ _ ?_ | refine hL _ _ ?_ | (intro h; (try simp only [n1, n2, n3, n4, n5, n6] at h); first | (exfalso; omega) | (cases h; done) | skip)) <;> (conv => whnf))
  refine loop_by tok (α := Nat) (fun i => ⟨[(1, .v (.slice A l.length cap)), (6, .v (.string (⟨d.text.toArray⟩ ++ ⟨#[10]⟩))), (21, .v (.slice A l.length cap)), (22, .v (.int .i64 l.length)), (23, .v (.int .i64 i))], [], 0, fx⟩) (fun i => i ≤ l.length ∧ ∀ j s, j < i → l[j]? = some s → s.ok = true) (fun i => l.length - i) 0 [] (by simp) ⟨rfl, ⟨fun _ _ _ => rfl, fun _ _ _ => rfl, fun _ _ _ => rfl, fun _ _ _ => rfl, fun _ _ _ => rfl, trivial⟩, trivial, fun f hf => hf⟩ ?_
  rintro i ⟨hi, ha⟩
  conv => whnf
  repeat' ((first | refine And.intro (by repeat' first | exact trivial | refine And.intro rfl ?_) (And.intro (by first | exact fun _ h => h | exact fun _ => List.mem_cons_of_mem _ | exact fun _ => List.mem_append_right _) ?_) | (refine And.intro (fun h => ?_) (fun h => ?_) <;> (try simp only [n1, n2, n3, n4, n5, n6] at h) <;> first | (exfalso; omega) | (cases h; done) | skip) | refine And.intro (by omega) ?_ | refine Exists.intro _ (And.intro (by first | exact And.intro rfl rfl | exact Pl.den (by repeat constructor) | with_reducible rfl | exact cast_succ _ | assumption | exact (Int.toNat_of_nonneg (by omega)).symm | rfl) ?_) | refine hD _ _ ?_ | refine hL _ _ ?_ | (intro h; (try simp only [n1, n2, n3, n4, n5, n6] at h); first | (exfalso; omega) | (cases h; done) | skip)) <;> (conv => whnf))
  · have hlt : i < l.length := by omega
    obtain ⟨ad, hA⟩ := hS.adr hlt
    obtain ⟨s, hs⟩ : ∃ s, l[i]? = some s := ⟨l[i], List.getElem?_eq_getElem hlt⟩
    have hsf := hS.fit s (List.mem_of_getElem? hs)
    refine ⟨ad, hA, ?_⟩
    conv => whnf
    repeat' ((first | (refine Exists.intro s.cells (And.intro ⟨rfl, fun j y hj => hS.field hs hA j hj⟩ ?_)) | refine And.intro (by repeat' first | exact trivial | refine And.intro rfl ?_) (And.intro (by first | exact fun _ h => h | exact fun _ => List.mem_cons_of_mem _ | exact fun _ => List.mem_append_right _) ?_) | (refine And.intro (fun h => ?_) (fun h => ?_) <;> (try simp only [n1, n2, n3, n4, n5, n6] at h) <;> first | (exfalso; omega) | (cases h; done) | skip) | refine And.intro (by omega) ?_ | refine Exists.intro _ (And.intro (by first | exact And.intro rfl rfl | exact Pl.den (by repeat constructor) | with_reducible rfl | exact cast_succ _ | assumption | exact (Int.toNat_of_nonneg (by omega)).symm | rfl) ?_) | refine hD _ _ ?_ | refine hL _ _ ?_ | (intro h; (try simp only [n1, n2, n3, n4, n5, n6] at h); first | (exfalso; omega) | (cases h; done) | skip)) <;> (conv => whnf))
    refine And.intro ⟨rfl, Sg.one⟩ (And.intro ⟨rfl, rfl⟩ ?_)
    conv => whnf
    repeat' ((first | (refine Exists.intro s.cells (And.intro ⟨rfl, rfl⟩ ?_)) | refine And.intro (by repeat' first | exact trivial | refine And.intro rfl ?_) (And.intro (by first | exact fun _ h => h | exact fun _ => List.mem_cons_of_mem _ | exact fun _ => List.mem_append_right _) ?_) | (refine And.intro (fun h => ?_) (fun h => ?_) <;> (try simp only [n1, n2, n3, n4, n5, n6] at h) <;> first | (exfalso; omega) | (cases h; done) | skip) | refine And.intro (by omega) ?_ | refine Exists.intro _ (And.intro (by first | exact And.intro rfl rfl | exact Pl.den (by repeat constructor) | with_reducible rfl | exact cast_succ _ | assumption | exact (Int.toNat_of_nonneg (by omega)).symm | rfl) ?_) | refine hD _ _ ?_ | refine hL _ _ ?_ | (intro h; (try simp only [n1, n2, n3, n4, n5, n6] at h); first | (exfalso; omega) | (cases h; done) | skip)) <;> (conv => whnf))
    refine Tri.use ((tFormed fx s hsf).one) [] rfl (fun _ _ _ => rfl) trivial (fun f hf => by first | exact hf | cases hf) (fun u hu => ?_)
    conv => whnf
    repeat' ((first | refine And.intro (by repeat' first | exact trivial | refine And.intro rfl ?_) (And.intro (by first | exact fun _ h => h | exact fun _ => List.mem_cons_of_mem _ | exact fun _ => List.mem_append_right _) ?_) | (refine And.intro (fun h => ?_) (fun h => ?_) <;> (try simp only [n1, n2, n3, n4, n5, n6] at h) <;> first | (exfalso; omega) | (cases h; done) | skip) | refine And.intro (by omega) ?_ | refine Exists.intro _ (And.intro (by first | exact And.intro rfl rfl | exact Pl.den (by repeat constructor) | with_reducible rfl | exact cast_succ _ | assumption | exact (Int.toNat_of_nonneg (by omega)).symm | rfl) ?_) | refine hD _ _ ?_ | refine hL _ _ ?_ | (intro h; (try simp only [n1, n2, n3, n4, n5, n6] at h); first | (exfalso; omega) | (cases h; done) | skip)) <;> (conv => whnf))
    · rw [wErr_no (.inr (List.all_eq_false.2 ⟨s, List.mem_of_getElem? hs, by simp [h]⟩))]
      exact Ret.noneS rfl (fun _ _ => rfl) (fun g hg => by cases hg)
    · have hsok : s.ok = true := h
      refine ⟨i + 1, [], ⟨⟨by omega, fun j s' hj hs' => ?_⟩, by omega⟩, rfl, ⟨fun _ _ _ => rfl, fun _ _ _ => rfl, fun _ _ _ => rfl, fun _ _ _ => rfl, fun _ _ _ => rfl, trivial⟩, trivial, fun f hf => hf⟩
      by_cases hji : j < i
      · exact ha j s' hji hs'
      · have e : j = i := by omega
        rw [e, hs] at hs'
        rw [← Option.some.inj hs']
        exact hsok
  · have hall : l.all Sg.ok = true := List.all_eq_true.2 fun s hs => by
      obtain ⟨j, hj⟩ := List.getElem?_of_mem hs
      exact ha j s (by have := (List.getElem?_eq_some_iff.1 hj).1; omega) hj
    rw [wErr_long hok hall (by omega)]
    exact Ret.noneS rfl (fun _ _ => rfl) (fun g hg => by cases hg)
  have hall : l.all Sg.ok = true := List.all_eq_true.2 fun s hs => by
    obtain ⟨j, hj⟩ := List.getElem?_of_mem hs
    exact ha j s (by have := (List.getElem?_eq_some_iff.1 hj).1; omega) hj
  have hfor : ∀ s ∈ l, s.ok = true ∧ s.num < 4294967296 := fun s hs => ⟨List.all_eq_true.1 hall s hs, (hS.fit s hs).num⟩
  rw [wErr_ok hok hall (by omega)]
  have lz : ∀ k, ((l.take k).flatMap Sg.line).length ≤ 167 * 15 := fun k => by
    have := lines_len (l := l.take k) fun s hs => hfor s (List.mem_of_mem_take hs)
    rw [List.length_take] at this
    omega
  have e0 : (⟨d.text.toArray⟩ ++ ⟨#[10]⟩ : ByteArray) = ⟨(d.text ++ [10] ++ (l.take 0).flatMap Sg.line).toArray⟩ := by
    have e10 : (⟨#[10]⟩ : ByteArray) = ⟨([10] : List UInt8).toArray⟩ := rfl
    rw [e10, ba_app]; simp
  refine loop_by tok (α := Nat) (fun i => ⟨[(6, .v (strS (d.text ++ [10] ++ (l.take i).flatMap Sg.line))), (34, .v (.slice A l.length cap)), (35, .v (.int .i64 l.length)), (36, .v (.int .i64 i))], [], 0, fx⟩) (fun i => i ≤ l.length) (fun i => l.length - i) 0 [] (by simp) ⟨rfl, ⟨fun _ _ _ => by simp only [den, strS, e0], fun _ _ _ => rfl, fun _ _ _ => rfl, fun _ _ _ => rfl, trivial⟩, trivial, fun f hf => hf⟩ ?_
  intro i hi
  have hz := lz i
  simp only [strS]
  conv => whnf
  repeat' ((first | refine And.intro (by repeat' first | exact trivial | refine And.intro rfl ?_) (And.intro (by first | exact fun _ h => h | exact fun _ => List.mem_cons_of_mem _ | exact fun _ => List.mem_append_right _) ?_) | (refine And.intro (fun h => ?_) (fun h => ?_) <;> (try simp only [n1, n2, n3, n4, n5, n6] at h) <;> first | (exfalso; omega) | (cases h; done) | skip) | refine And.intro (by omega) ?_ | refine Exists.intro _ (And.intro (by first | exact And.intro rfl rfl | exact Pl.den (by repeat constructor) | with_reducible rfl | exact cast_succ _ | assumption | exact (Int.toNat_of_nonneg (by omega)).symm | rfl) ?_) | refine hD _ _ ?_ | refine hL _ _ ?_ | (intro h; (try simp only [n1, n2, n3, n4, n5, n6] at h); first | (exfalso; omega) | (cases h; done) | skip)) <;> (conv => whnf))
  · have hlt : i < l.length := by omega
    obtain ⟨ad, hA⟩ := hS.adr hlt
    obtain ⟨s, hs⟩ : ∃ s, l[i]? = some s := ⟨l[i], List.getElem?_eq_getElem hlt⟩
    have hsf := hS.fit s (List.mem_of_getElem? hs)
    have hso := (hfor s (List.mem_of_getElem? hs)).1
    have hll := line_len hso hsf.num
    refine ⟨ad, hA, ?_⟩
    conv => whnf
    repeat' ((first | (refine Exists.intro s.cells (And.intro ⟨rfl, fun j y hj => hS.field hs hA j hj⟩ ?_)) | refine And.intro (by repeat' first | exact trivial | refine And.intro rfl ?_) (And.intro (by first | exact fun _ h => h | exact fun _ => List.mem_cons_of_mem _ | exact fun _ => List.mem_append_right _) ?_) | (refine And.intro (fun h => ?_) (fun h => ?_) <;> (try simp only [n1, n2, n3, n4, n5, n6] at h) <;> first | (exfalso; omega) | (cases h; done) | skip) | refine And.intro (by omega) ?_ | refine Exists.intro _ (And.intro (by first | exact And.intro rfl rfl | exact Pl.den (by repeat constructor) | with_reducible rfl | exact cast_succ _ | assumption | exact (Int.toNat_of_nonneg (by omega)).symm | rfl) ?_) | refine hD _ _ ?_ | refine hL _ _ ?_ | (intro h; (try simp only [n1, n2, n3, n4, n5, n6] at h); first | (exfalso; omega) | (cases h; done) | skip)) <;> (conv => whnf))
    refine And.intro ⟨rfl, Sg.one⟩ (And.intro ⟨rfl, rfl⟩ ?_)
    conv => whnf
    repeat' ((first | (refine Exists.intro s.cells (And.intro ⟨rfl, rfl⟩ ?_)) | refine And.intro (by repeat' first | exact trivial | refine And.intro rfl ?_) (And.intro (by first | exact fun _ h => h | exact fun _ => List.mem_cons_of_mem _ | exact fun _ => List.mem_append_right _) ?_) | (refine And.intro (fun h => ?_) (fun h => ?_) <;> (try simp only [n1, n2, n3, n4, n5, n6] at h) <;> first | (exfalso; omega) | (cases h; done) | skip) | refine And.intro (by omega) ?_ | refine Exists.intro _ (And.intro (by first | exact And.intro rfl rfl | exact Pl.den (by repeat constructor) | with_reducible rfl | exact cast_succ _ | assumption | exact (Int.toNat_of_nonneg (by omega)).symm | rfl) ?_) | refine hD _ _ ?_ | refine hL _ _ ?_ | (intro h; (try simp only [n1, n2, n3, n4, n5, n6] at h); first | (exfalso; omega) | (cases h; done) | skip)) <;> (conv => whnf))
    refine Tri.use ((tLine fx hg s hsf hso).one) [] rfl (fun _ _ _ => rfl) trivial (fun f hf => by first | exact hf | cases hf) (fun u hu => ?_)
    conv => whnf
    repeat' ((first | (refine And.intro (by simp only [arr_size, List.length_append, List.length_cons, List.length_nil]; omega) ?_) | refine And.intro (by repeat' first | exact trivial | refine And.intro rfl ?_) (And.intro (by first | exact fun _ h => h | exact fun _ => List.mem_cons_of_mem _ | exact fun _ => List.mem_append_right _) ?_) | (refine And.intro (fun h => ?_) (fun h => ?_) <;> (try simp only [n1, n2, n3, n4, n5, n6] at h) <;> first | (exfalso; omega) | (cases h; done) | skip) | refine And.intro (by omega) ?_ | refine Exists.intro _ (And.intro (by first | exact And.intro rfl rfl | exact Pl.den (by repeat constructor) | with_reducible rfl | exact cast_succ _ | assumption | exact (Int.toNat_of_nonneg (by omega)).symm | rfl) ?_) | refine hD _ _ ?_ | refine hL _ _ ?_ | (intro h; (try simp only [n1, n2, n3, n4, n5, n6] at h); first | (exfalso; omega) | (cases h; done) | skip)) <;> (conv => whnf))
    refine ⟨i + 1, [], ⟨by omega, by omega⟩, rfl, ⟨fun _ _ _ => ?_, fun _ _ _ => rfl, fun _ _ _ => rfl, fun _ _ _ => rfl, trivial⟩, trivial, fun f hf => hf⟩
    simp only [den, take_succ_of hs, List.flatMap_append, List.flatMap_cons, List.flatMap_nil, List.append_nil, ba_app, List.append_assoc]
  · exfalso
    simp only [arr_size, List.length_append, List.length_cons, List.length_nil] at h
    omega
  · rw [List.take_of_length_le (by omega)]
    exact Ret.noneS rfl (fun _ _ => rfl) (fun g hg => by cases hg)
theorem aw_len : (Hd.text ⟨⟨#[97]⟩, 0, List.replicate 32 0⟩).length = 49 := by
  have h6 := enc_length (List.replicate 32 (0 : UInt8))
  have h7 := decDigits_len (0 : Int).toNat
  have h8 : Lib.nDigits (0 : Int).toNat = 1 := Lib.nDigits_small (by decide)
  simp only [Hd.text, List.length_append, List.length_cons, List.length_nil, h6, h7, h8]
  rfl
theorem tAwake21 (fx : List Fact) (hg : gTab ∈ fx) : Tri Tryd.prog 32 [] [] 0 fx (Ret 0 (.b true) [] 0 []) := by
  refine Tri.of_code tok Tryd.func32 rfl rfl rfl (by decide) rfl (Nat.le_of_ble_eq_true rfl) ?_
  conv => whnf
  repeat' ((first | refine And.intro (by repeat' first | exact trivial | refine And.intro rfl ?_) (And.intro (by first | exact fun _ h => h | exact fun _ => List.mem_cons_of_mem _ | exact fun _ => List.mem_append_right _) ?_) | (refine And.intro (fun h => ?_) (fun h => ?_) <;> (try simp only [n1, n2, n3, n4, n5, n6] at h) <;> first | (exfalso; omega) | (cases h; done) | skip) | refine And.intro (by omega) ?_ | refine Exists.intro _ (And.intro (by first | exact And.intro rfl rfl | exact Pl.den (by repeat constructor) | with_reducible rfl | exact cast_succ _ | assumption | exact (Int.toNat_of_nonneg (by omega)).symm | rfl) ?_) | refine hD _ _ ?_ | refine hL _ _ ?_ | (intro h; (try simp only [n1, n2, n3, n4, n5, n6] at h); first | (exfalso; omega) | (cases h; done) | skip)) <;> (conv => whnf))
  have T := tText fx hg ⟨⟨#[97]⟩, 0, List.replicate 32 0⟩ ⟨rfl, by simp, by decide⟩
  rw [Hd.res_ok (by decide)] at T
  refine Tri.use (T.one) [] rfl (fun _ _ _ => rfl) trivial (fun f hf => by first | exact hf | cases hf) (fun u hu => ?_)
  have e : (⟨(Hd.text ⟨⟨#[97]⟩, 0, List.replicate 32 0⟩).toArray⟩ : ByteArray).size = 49 := by rw [arr_size, aw_len]
  conv => whnf
  repeat' ((first | refine And.intro (by repeat' first | exact trivial | refine And.intro rfl ?_) (And.intro (by first | exact fun _ h => h | exact fun _ => List.mem_cons_of_mem _ | exact fun _ => List.mem_append_right _) ?_) | (refine And.intro (fun h => ?_) (fun h => ?_) <;> (try simp only [n1, n2, n3, n4, n5, n6] at h) <;> first | (exfalso; omega) | (cases h; done) | skip) | refine And.intro (by omega) ?_ | refine Exists.intro _ (And.intro (by first | exact And.intro rfl rfl | exact Pl.den (by repeat constructor) | with_reducible rfl | exact cast_succ _ | assumption | exact (Int.toNat_of_nonneg (by omega)).symm | rfl) ?_) | refine hD _ _ ?_ | refine hL _ _ ?_ | (intro h; (try simp only [n1, n2, n3, n4, n5, n6] at h); first | (exfalso; omega) | (cases h; done) | skip)) <;> (conv => whnf))
  exact Ret.noneS rfl (fun _ _ => by simp only [den, arr_size, aw_len]; rfl) (fun g hg => by cases hg)
def rLine (s : Sg) : List UInt8 := if s.ok then s.line else []
theorem rLine_len {s : Sg} (hn : s.num < 4294967296) : (rLine s).length ≤ 167 := by
  unfold rLine
  split
  · rename_i h; exact line_len h hn
  · simp
theorem rLines_len : ∀ {l : List Sg}, (∀ s ∈ l, s.num < 4294967296) → (l.flatMap rLine).length ≤ 167 * l.length
  | [], _ => by simp
  | x :: r, h => by
    have h1 := rLine_len (h x (List.mem_cons_self ..))
    have h2 := rLines_len (l := r) fun s hs => h s (List.mem_cons_of_mem _ hs)
    simp only [List.flatMap_cons, List.length_append, List.length_cons]
    omega
def rText (d : Hd) : List UInt8 := if d.ok then d.text else []
theorem rText_len {d : Hd} (hr : d.root.length = 32) : (rText d).length ≤ 107 := by
  unfold rText
  split
  · rename_i h; exact text_len h hr
  · simp
theorem tRefWrite21 (fx : List Fact) (d : Hd) (hf : d.Fit) (A : Option Addr) (l : List Sg) (cap : Nat) (hS : SgsAt fx A l) (hl : l.length ≤ 15) :
    Tri Tryd.prog 38 [.v d.v, .v (.slice A l.length cap)] [] 0 fx (Ret 0 (wRes d l) [] 0 []) := by
  refine Tri.of_code tok Tryd.func38 rfl rfl rfl (by decide) rfl (Nat.le_of_ble_eq_true rfl) ?_
  conv => whnf
  repeat' ((first | refine And.intro (by repeat' first | exact trivial | refine And.intro rfl ?_) (And.intro (by first | exact fun _ h => h | exact fun _ => List.mem_cons_of_mem _ | exact fun _ => List.mem_append_right _) ?_) | (refine And.intro (fun h => ?_) (fun h => ?_) <;> (try simp only [n1, n2, n3, n4, n5, n6] at h) <;> first | (exfalso; omega) | (cases h; done) | skip) | refine And.intro (by omega) ?_ | refine Exists.intro _ (And.intro (by first | exact And.intro rfl rfl | exact Pl.den (by repeat constructor) | with_reducible rfl | exact cast_succ _ | assumption | exact (Int.toNat_of_nonneg (by omega)).symm | rfl) ?_) | refine hD _ _ ?_ | refine hL _ _ ?_ | (intro h; (try simp only [n1, n2, n3, n4, n5, n6] at h); first | (exfalso; omega) | (cases h; done) | skip)) <;> (conv => whnf))
  refine And.intro Hd.one ?_
  conv => whnf
  repeat' ((first | (refine Exists.intro d.cells (And.intro (Hd.all hf) ?_)) | refine And.intro (by repeat' first | exact trivial | refine And.intro rfl ?_) (And.intro (by first | exact fun _ h => h | exact fun _ => List.mem_cons_of_mem _ | exact fun _ => List.mem_append_right _) ?_) | (refine And.intro (fun h => ?_) (fun h => ?_) <;> (try simp only [n1, n2, n3, n4, n5, n6] at h) <;> first | (exfalso; omega) | (cases h; done) | skip) | refine And.intro (by omega) ?_ | refine Exists.intro _ (And.intro (by first | exact And.intro rfl rfl | exact Pl.den (by repeat constructor) | with_reducible rfl | exact cast_succ _ | assumption | exact (Int.toNat_of_nonneg (by omega)).symm | rfl) ?_) | refine hD _ _ ?_ | refine hL _ _ ?_ | (intro h; (try simp only [n1, n2, n3, n4, n5, n6] at h); first | (exfalso; omega) | (cases h; done) | skip)) <;> (conv => whnf))
  have T := tRefText fx d hf
  refine Tri.use ((T.one.reval (v' := .tup [.v (strS (rText d)), .v (.bool d.ok)]) (fun ρ => by unfold Hd.res rText; cases d.ok <;> rfl))) [] rfl (fun _ _ _ => rfl) trivial (fun f hf => by first | exact hf | cases hf) (fun u hu => ?_)
  have htl := rText_len hf.root
  have hts := arr_size (rText d)
  have h10 : (⟨#[10]⟩ : ByteArray).size = 1 := rfl
  conv => whnf
  repeat' ((first | (refine And.intro (by rw [hts, h10]; omega) ?_) | refine And.intro (by repeat' first | exact trivial | refine And.intro rfl ?_) (And.intro (by first | exact fun _ h => h | exact fun _ => List.mem_cons_of_mem _ | exact fun _ => List.mem_append_right _) ?_) | (refine And.intro (fun h => ?_) (fun h => ?_) <;> (try simp only [n1, n2, n3, n4, n5, n6] at h) <;> first | (exfalso; omega) | (cases h; done) | skip) | refine And.intro (by omega) ?_ | refine Exists.intro _ (And.intro (by first | exact And.intro rfl rfl | exact Pl.den (by repeat constructor) | with_reducible rfl | exact cast_succ _ | assumption | exact (Int.toNat_of_nonneg (by omega)).symm | rfl) ?_) | refine hD _ _ ?_ | refine hL _ _ ?_ | (intro h; (try simp only [n1, n2, n3, n4, n5, n6] at h); first | (exfalso; omega) | (cases h; done) | skip)) <;> (conv => whnf))
  have lz : ∀ k, ((l.take k).flatMap rLine).length ≤ 167 * 15 := fun k => by
    have := rLines_len (l := l.take k) fun s hs => (hS.fit s (List.mem_of_mem_take hs)).num
    rw [List.length_take] at this
    omega
  have e0 : (⟨(rText d).toArray⟩ ++ ⟨#[10]⟩ : ByteArray) = ⟨(rText d ++ [10] ++ (l.take 0).flatMap rLine).toArray⟩ := by
    have e10 : (⟨#[10]⟩ : ByteArray) = ⟨([10] : List UInt8).toArray⟩ := rfl
    rw [e10, ba_app]; simp
  refine loop_by tok (α := Nat) (fun i => ⟨[(1, .v (.slice A l.length cap)), (6, .v (strS (rText d ++ [10] ++ (l.take i).flatMap rLine))), (7, .v (.bool (d.ok && (l.take i).all Sg.ok))), (8, .v (.int .i64 i))], [], 0, fx⟩) (fun i => i ≤ l.length) (fun i => l.length - i) 0 [] (by simp) ⟨rfl, ⟨fun _ _ _ => rfl, fun _ _ _ => by simp only [den, strS, e0], fun _ _ _ => by simp only [den, List.take_zero, List.all_nil, Bool.and_true], fun _ _ _ => rfl, trivial⟩, trivial, fun f hf => hf⟩ ?_
  intro i hi
  have hz := lz i
  simp only [strS]
  conv => whnf
  repeat' ((first | refine And.intro (by repeat' first | exact trivial | refine And.intro rfl ?_) (And.intro (by first | exact fun _ h => h | exact fun _ => List.mem_cons_of_mem _ | exact fun _ => List.mem_append_right _) ?_) | (refine And.intro (fun h => ?_) (fun h => ?_) <;> (try simp only [n1, n2, n3, n4, n5, n6] at h) <;> first | (exfalso; omega) | (cases h; done) | skip) | refine And.intro (by omega) ?_ | refine Exists.intro _ (And.intro (by first | exact And.intro rfl rfl | exact Pl.den (by repeat constructor) | with_reducible rfl | exact cast_succ _ | assumption | exact (Int.toNat_of_nonneg (by omega)).symm | rfl) ?_) | refine hD _ _ ?_ | refine hL _ _ ?_ | (intro h; (try simp only [n1, n2, n3, n4, n5, n6] at h); first | (exfalso; omega) | (cases h; done) | skip)) <;> (conv => whnf))
  · have hlt : i < l.length := by omega
    obtain ⟨ad, hA⟩ := hS.adr hlt
    obtain ⟨s, hs⟩ : ∃ s, l[i]? = some s := ⟨l[i], List.getElem?_eq_getElem hlt⟩
    have hsf := hS.fit s (List.mem_of_getElem? hs)
    have hll := rLine_len hsf.num
    refine ⟨ad, hA, ?_⟩
    conv => whnf
    repeat' ((first | (refine Exists.intro s.cells (And.intro ⟨rfl, fun j y hj => hS.field hs hA j hj⟩ ?_)) | refine And.intro (by repeat' first | exact trivial | refine And.intro rfl ?_) (And.intro (by first | exact fun _ h => h | exact fun _ => List.mem_cons_of_mem _ | exact fun _ => List.mem_append_right _) ?_) | (refine And.intro (fun h => ?_) (fun h => ?_) <;> (try simp only [n1, n2, n3, n4, n5, n6] at h) <;> first | (exfalso; omega) | (cases h; done) | skip) | refine And.intro (by omega) ?_ | refine Exists.intro _ (And.intro (by first | exact And.intro rfl rfl | exact Pl.den (by repeat constructor) | with_reducible rfl | exact cast_succ _ | assumption | exact (Int.toNat_of_nonneg (by omega)).symm | rfl) ?_) | refine hD _ _ ?_ | refine hL _ _ ?_ | (intro h; (try simp only [n1, n2, n3, n4, n5, n6] at h); first | (exfalso; omega) | (cases h; done) | skip)) <;> (conv => whnf))
    have hsz : (⟨(rText d ++ [10] ++ (l.take i).flatMap rLine).toArray⟩ : ByteArray).size ≤ 4000 := by
      simp only [arr_size, List.length_append, List.length_cons, List.length_nil]; omega
    have T2 : Tri Tryd.prog 84 [.v s.v] [] 0 fx (Ret 0 (.v (strS (rLine s))) [] 0 []) := tRefLine fx s hsf
    refine Tri.use (T2.one) [] rfl (fun _ _ _ => rfl) trivial (fun f hf => by first | exact hf | cases hf) (fun u hu => ?_)
    have hrs := arr_size (rLine s)
    have hnil : (!(rLine s == [])) = s.ok := by
      unfold rLine Sg.line
      cases s.ok <;> simp
    have e6 : (⟨(rText d ++ [10] ++ (l.take i).flatMap rLine).toArray⟩ ++ ⟨(rLine s).toArray⟩ : ByteArray) = ⟨(rText d ++ [10] ++ (l.take (i + 1)).flatMap rLine).toArray⟩ := by
      rw [ba_app, take_succ_of hs]; simp [List.append_assoc]
    have e7 : (d.ok && (l.take (i + 1)).all Sg.ok) = ((d.ok && (l.take i).all Sg.ok) && s.ok) := by
      rw [take_succ_of hs, List.all_append]; simp [Bool.and_assoc]
    conv => whnf
    repeat' ((first | (refine And.intro (by rw [hrs]; omega) ?_) | refine And.intro (by repeat' first | exact trivial | refine And.intro rfl ?_) (And.intro (by first | exact fun _ h => h | exact fun _ => List.mem_cons_of_mem _ | exact fun _ => List.mem_append_right _) ?_) | (refine And.intro (fun h => ?_) (fun h => ?_) <;> (try simp only [n1, n2, n3, n4, n5, n6] at h) <;> first | (exfalso; omega) | (cases h; done) | skip) | refine And.intro (by omega) ?_ | refine Exists.intro _ (And.intro (by first | exact And.intro rfl rfl | exact Pl.den (by repeat constructor) | with_reducible rfl | exact cast_succ _ | assumption | exact (Int.toNat_of_nonneg (by omega)).symm | rfl) ?_) | refine hD _ _ ?_ | refine hL _ _ ?_ | (intro h; (try simp only [n1, n2, n3, n4, n5, n6] at h); first | (exfalso; omega) | (cases h; done) | skip)) <;> (conv => whnf))
    · rename_i hb
      refine ⟨i + 1, [], ⟨by omega, by omega⟩, rfl, ⟨fun _ _ _ => rfl, fun _ _ _ => by simp only [den, e6], fun _ _ _ => ?_, fun _ _ _ => rfl, trivial⟩, trivial, fun f hf => hf⟩
      simp only [den, e7, hb, Bool.true_and]
      rw [← hnil]
    · rename_i hb
      refine ⟨i + 1, [], ⟨by omega, by omega⟩, rfl, ⟨fun _ _ _ => rfl, fun _ _ _ => by simp only [den, e6], fun _ _ _ => ?_, fun _ _ _ => rfl, trivial⟩, trivial, fun f hf => hf⟩
      simp only [den, e7, hb, Bool.false_and]
  · rw [List.take_of_length_le (by omega)] at h
    rw [wErr_no (by cases hd : d.ok <;> simp_all)]
    exact Ret.noneS rfl (fun _ _ => rfl) (fun g hg => by cases hg)
  · rename_i hb
    rw [List.take_of_length_le (by omega), Bool.and_eq_true] at hb
    rw [wErr_long hb.1 hb.2 (by omega)]
    exact Ret.noneS rfl (fun _ _ => rfl) (fun g hg => by cases hg)
  · exfalso
    simp only [arr_size, List.length_append, List.length_cons, List.length_nil] at h
    omega
  · rename_i hb _
    rw [List.take_of_length_le (by omega), Bool.and_eq_true] at hb
    rw [wErr_ok hb.1 hb.2 (by omega), List.take_of_length_le (by omega)]
    refine Ret.noneS rfl (fun _ _ => ?_) (fun g hg => by cases hg)
    have e1 : rText d = d.text := by unfold rText; rw [hb.1]; rfl
    have e2 : l.flatMap rLine = l.flatMap Sg.line := by
      have : ∀ k : List Sg, (∀ s ∈ k, s.ok = true) → k.flatMap rLine = k.flatMap Sg.line := by
        intro k
        induction k with
        | nil => intro _; rfl
        | cons x r ih =>
          intro h
          rw [List.flatMap_cons, List.flatMap_cons, ih fun s hs => h s (List.mem_cons_of_mem _ hs)]
          congr 1
          unfold rLine
          rw [h x (List.mem_cons_self ..)]; rfl
      exact this l fun s hs => List.all_eq_true.1 hb.2 s hs
    simp only [den, denL_cons, denL_nil, strS, noteL, e1, e2]
    rfl
end Go.Proofs.YtekgjjanikicnaaDoor.Sx
