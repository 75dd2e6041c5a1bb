/- Lemmas of this proof, part 5: 8 texts joined. -/
import Derived.Test.YtekgjjanikicnaaDoorNoteReadsLawB1
import Derived.Test.YtekgjjanikicnaaDoorNoteReadsLawB4
namespace Go.Proofs.YtekgjjanikicnaaDoor.Sx
open Go Go.RowKit
set_option maxRecDepth 100000
set_option linter.unusedSimpArgs false
set_option linter.unusedVariables false
/-- What stands between the signs c. -/
def parts (c : UInt8) : List UInt8 → List (List UInt8)
  | [] => [[]]
  | x :: r => if x = c then [] :: parts c r else match parts c r with
    | p :: ps => (x :: p) :: ps
    | [] => [[x]]
theorem parts_ne (c : UInt8) : ∀ l, parts c l ≠ []
  | [] => by simp [parts]
  | x :: r => by
    unfold parts
    split
    · simp
    · split <;> simp
theorem parts_eq (c : UInt8) (r : List UInt8) : parts c (c :: r) = [] :: parts c r := by
  conv => lhs; unfold parts
  rw [if_pos rfl]
theorem parts_cons {c x : UInt8} (h : x ≠ c) {r p : List UInt8} {ps : List (List UInt8)} (e : parts c r = p :: ps) : parts c (x :: r) = (x :: p) :: ps := by
  conv => lhs; unfold parts
  rw [if_neg h, e]
theorem parts_no {c : UInt8} : ∀ {l : List UInt8}, c ∉ l → parts c l = [l]
  | [], _ => rfl
  | x :: r, h => by
    have h1 : x ≠ c := fun e => h (by rw [e]; exact List.mem_cons_self ..)
    exact parts_cons h1 (parts_no fun hm => h (List.mem_cons_of_mem _ hm))
theorem parts_app {c : UInt8} : ∀ {a : List UInt8} {b : List UInt8}, c ∉ a → parts c (a ++ c :: b) = a :: parts c b
  | [], b, _ => parts_eq c b
  | x :: r, b, h => by
    have h1 : x ≠ c := fun e => h (by rw [e]; exact List.mem_cons_self ..)
    rw [List.cons_append]
    exact parts_cons h1 (parts_app fun hm => h (List.mem_cons_of_mem _ hm))
/-- The parts, one behind the other again. -/
def glue (c : UInt8) : List (List UInt8) → List UInt8
  | [] => []
  | [p] => p
  | p :: q :: ps => p ++ c :: glue c (q :: ps)
theorem glue_cons (c x : UInt8) (p : List UInt8) (ps : List (List UInt8)) : glue c ((x :: p) :: ps) = x :: glue c (p :: ps) := by
  cases ps <;> simp [glue]
theorem glue_nil (c : UInt8) {l : List (List UInt8)} (h : l ≠ []) : glue c ([] :: l) = c :: glue c l := by
  cases l with
  | nil => exact absurd rfl h
  | cons p ps => simp [glue]
theorem glue_parts (c : UInt8) : ∀ l, glue c (parts c l) = l
  | [] => rfl
  | x :: r => by
    have ih := glue_parts c r
    by_cases h : x = c
    · subst h
      rw [parts_eq, glue_nil _ (parts_ne _ _), ih]
    · cases e : parts c r with
      | nil => exact absurd e (parts_ne c r)
      | cons p ps => rw [parts_cons h e, glue_cons, ← e, ih]
theorem parts_free (c : UInt8) : ∀ (l : List UInt8), ∀ p ∈ parts c l, c ∉ p
  | [], p, hp => by
    obtain rfl := List.mem_singleton.1 (show p ∈ [[]] from hp)
    simp
  | x :: r, p, hp => by
    have ih := parts_free c r
    by_cases h : x = c
    · subst h
      rw [parts_eq] at hp
      rcases List.mem_cons.1 hp with rfl | hp
      · simp
      · exact ih p hp
    · cases e : parts c r with
      | nil => exact absurd e (parts_ne c r)
      | cons q qs =>
        rw [parts_cons h e] at hp
        rcases List.mem_cons.1 hp with rfl | hp
        · intro hm
          rcases List.mem_cons.1 hm with hm | hm
          · exact h hm.symm
          · exact ih q (by rw [e]; exact List.mem_cons_self ..) hm
        · exact ih p (by rw [e]; exact List.mem_cons_of_mem _ hp)
theorem parts_len (c : UInt8) : ∀ l, (parts c l).length = l.count c + 1
  | [] => rfl
  | x :: r => by
    have ih := parts_len c r
    by_cases h : x = c
    · subst h
      rw [parts_eq, List.length_cons, ih, List.count_cons_self]
    · cases e : parts c r with
      | nil => exact absurd e (parts_ne c r)
      | cons p ps =>
        rw [parts_cons h e, List.count_cons_of_ne h, ← ih, e]
        rfl
theorem splitK_parts (c : UInt8) : ∀ (l : List UInt8), Lib.splitK [c] 0 (Lib.count l [c]) l = parts c l
  | [] => by
    have : Lib.count [] [c] = 0 := Lib.count_miss (by simp [Lib.index])
    rw [this]; rfl
  | x :: r => by
    have ih := splitK_parts c r
    by_cases h : x = c
    · subst h
      have e0 : Lib.index (x :: r) [x] = 0 := by unfold Lib.index; simp
      rw [Lib.count_cons_eq, Nat.add_comm, parts_eq]
      unfold Lib.splitK
      rw [if_neg (by rw [e0]; decide), e0]
      simp only [Int.toNat_zero, Nat.zero_add, List.take_zero, List.length_singleton, List.drop_succ_cons, List.drop_zero]
      rw [ih]
    · have ei : Lib.index (x :: r) [c] = if Lib.index r [c] == -1 then -1 else Lib.index r [c] + 1 := by
        conv => lhs; unfold Lib.index
        rw [if_neg (by simp [List.isPrefixOf]; exact fun e => h e.symm)]
      rw [Lib.count_cons_ne x c r h]
      have hg := Lib.index_ge r [c]
      by_cases hi : Lib.index r [c] = -1
      · have hc0 := Lib.count_miss hi
        rw [hc0] at ih ⊢
        have e1 : parts c r = [r] := ih.symm
        rw [parts_cons h e1]; rfl
      · obtain ⟨i, hi2⟩ : ∃ i : Nat, Lib.index r [c] = i := ⟨(Lib.index r [c]).toNat, by omega⟩
        have hc1 := Lib.count_hit (sub := [c]) (by simp) hi2
        rw [hc1, Nat.add_comm] at ih ⊢
        rw [hi2, if_neg (by simp)] at ei
        unfold Lib.splitK at ih ⊢
        rw [hi2, if_neg (by simp)] at ih
        rw [ei, if_neg (by simp; omega)]
        rw [parts_cons h ih.symm]
        have e2 : ((i : Int) + 1).toNat = i + 1 := by omega
        simp only [Int.toNat_natCast, e2, Nat.add_zero, List.length_singleton, List.take_succ_cons, List.drop_succ_cons]
/-- Some int stands there. -/
def gMax : Fact where
  G := fun k => k = 8
  φ := fun w => ∃ m, w.cell? ⟨8, 0, none⟩ = some (.int .i64 m)
  loc := fun {w w'} h hk => by
    obtain ⟨m, hm⟩ := h
    exact ⟨m, by rw [World.cell?_of_block (w := w) (hk _ rfl)]; exact hm⟩
def bsV (l : List (List UInt8)) : List Value := l.map strS
theorem tSplit (fx : List Fact) (hg : gMax ∈ fx) (s : ByteArray) (c : UInt8) (hs : s.size < 4294967281) :
    Tri Tryd.prog 94 [.v (.string s), .v (.string ⟨#[c]⟩)] [] 0 fx (Ret 0 (.s 0 0 (parts c s.data.toList).length (parts c s.data.toList).length) [(0, .row (bsV (parts c s.data.toList)) 9)] 1 []) := by
  refine ⟨trivial, fun ρ F w hh hrob => .inl ⟨(Go.Proofs.enters_of Tryd.func94 (by kernel_rfl) rfl) _ w, ?_⟩⟩
  obtain ⟨m, hm⟩ := hh.shape.fok gMax hg
  refine (Any.strings_Split Tryd.lays146 (by kernel_rfl) s ⟨#[c]⟩ m w hs hm (Nat.le_refl _)).mono ?_
  rintro e w' ⟨he, hw⟩
  have hp : (Lib.splitB ⟨#[c]⟩ 0 (Lib.countB s ⟨#[c]⟩) s).map (·.data.toList) = parts c s.data.toList := by
    rw [Lib.splitB_data]; exact splitK_parts c s.data.toList
  have hl : (parts c s.data.toList).length = Lib.countB s ⟨#[c]⟩ + 1 := by
    rw [← hp, List.length_map, Lib.splitB_all ⟨#[c]⟩ (Nat.le_refl _) 0 _ s rfl]
  have hv : (Lib.splitB ⟨#[c]⟩ 0 (Lib.countB s ⟨#[c]⟩) s).map Value.string = bsV (parts c s.data.toList) := by
    rw [← hp, bsV, List.map_map]
    refine List.map_congr_left fun x _ => ?_
    simp [strS]
  rw [hv] at hw
  subst hw
  obtain ⟨h1, h2⟩ := hh.alloc (o := .row (bsV (parts c s.data.toList)) 9) (ob := .cells (bsV (parts c s.data.toList)).toArray 9) (fun ρ' _ => ⟨fun _ => Iff.rfl, cellsAt_alloc w _ _⟩)
  refine ⟨.s 0 0 (parts c s.data.toList).length (parts c s.data.toList).length, [(0, .row (bsV (parts c s.data.toList)) 9)], 1, fx, updR ρ 0 w.heap.size, updR F 0 (fun k => k = w.heap.size), ?_, ?_, fun ρ'' hr => ?_, h1, Ag.updR ρ _, by omega, keeps_alloc _ w _, h2, fun f hf => .inl hf⟩
  · exact Ret.mk [0] _ (Fold.refl _) rfl (SEq.ren rfl rfl) ⟨OSub.ren rfl rfl, trivial⟩ (fun g hg => by cases hg)
  · rw [he, hl]
    simp only [den, updR_same]
  · simp only [den]
    rw [hr 0 (by omega)]
end Go.Proofs.YtekgjjanikicnaaDoor.Sx

namespace Go.Proofs.YtekgjjanikicnaaDoor.Sx
open Go Go.RowKit
set_option maxRecDepth 100000
set_option linter.unusedSimpArgs false
set_option linter.unusedVariables false
/-- A note's bytes. -/
def noteL (d : Hd) (l : List Sg) : List UInt8 := d.text ++ [10] ++ l.flatMap Sg.line
def wErr (d : Hd) (l : List Sg) : Nat := if d.ok = false ∨ l.all Sg.ok = false then 1 else if 8 < l.length then 4 else 0
def wOut (d : Hd) (l : List Sg) : List UInt8 := if wErr d l = 0 then noteL d l else []
def wRes (d : Hd) (l : List Sg) : SV := .tup [.v (strS (wOut d l)), .v (.int .i64 (wErr d l : Nat))]
theorem line_len {s : Sg} (h : s.ok = true) (hn : s.num < 4294967296) : s.line.length ≤ 167 := by
  obtain ⟨h1, _, h2, h3⟩ := Sg.ok_iff.1 h
  have h4 := nameOk_len h1
  have h5 : Lib.nDigits s.num ≤ 10 := by
    have : ∀ k u, u < 10 ^ (k + 1) → Lib.nDigits u ≤ k + 1 := by
      intro k
      induction k with
      | zero => intro u h; rw [Lib.nDigits_small (by omega)]; omega
      | succ k ih =>
        intro u h
        by_cases h10 : u < 10
        · rw [Lib.nDigits_small h10]; omega
        · rw [Lib.nDigits_big h10]
          have := ih (u / 10) (by rw [Nat.pow_succ] at h; omega)
          omega
    exact this 9 s.num (by omega)
  have h6 := enc_length s.bs
  have h7 := decDigits_len s.num
  simp only [Sg.line, List.length_append, List.length_cons, List.length_nil, h6, h7]
  omega
theorem lines_len : ∀ {l : List Sg}, (∀ s ∈ l, s.ok = true ∧ s.num < 4294967296) → (l.flatMap Sg.line).length ≤ 167 * l.length
  | [], _ => by simp
  | x :: r, h => by
    have h1 := line_len (h x (List.mem_cons_self ..)).1 (h x (List.mem_cons_self ..)).2
    have h2 := lines_len (l := r) fun s hs => h s (List.mem_cons_of_mem _ hs)
    simp only [List.flatMap_cons, List.length_append, List.length_cons]
    omega
theorem text_len {d : Hd} (h : d.ok = true) (hr : d.root.length = 32) : d.text.length ≤ 107 := by
  unfold Hd.ok at h
  simp only [Bool.and_eq_true, decide_eq_true_eq] at h
  obtain ⟨h1, h2⟩ := h
  have h4 := nameOk_len h1
  have h5 := nDigits_le d.size.toNat (by omega)
  have h6 := enc_length d.root
  have h7 := decDigits_len d.size.toNat
  simp only [Hd.text, List.length_append, List.length_cons, List.length_nil, h6, h7, hr]
  omega
theorem Hd.len {d : Hd} (hf : d.Fit) : d.cells.length = 34 := by simp [Hd.cells, hf.root]
theorem Hd.all {d : Hd} (hf : d.Fit) : List.take 34 (List.drop 0 d.cells) = d.cells ∧ d.cells.length = 34 := ⟨by rw [List.drop_zero, List.take_of_length_le (by rw [Hd.len hf]; omega)], Hd.len hf⟩
theorem wErr_no {d : Hd} {l : List Sg} (h : d.ok = false ∨ l.all Sg.ok = false) : wRes d l = .tup [.v (strS []), .v (.int .i64 (1 : Nat))] := by
  have e : wErr d l = 1 := if_pos h
  unfold wRes wOut
  rw [e]; rfl
theorem wErr_long {d : Hd} {l : List Sg} (h1 : d.ok = true) (h2 : l.all Sg.ok = true) (h : 8 < l.length) : wRes d l = .tup [.v (strS []), .v (.int .i64 (4 : Nat))] := by
  have e : wErr d l = 4 := by unfold wErr; rw [if_neg (by simp [h1, h2]), if_pos h]
  unfold wRes wOut
  rw [e]; rfl
theorem wErr_ok {d : Hd} {l : List Sg} (h1 : d.ok = true) (h2 : l.all Sg.ok = true) (h : ¬ 8 < l.length) : wRes d l = .tup [.v (strS (noteL d l)), .v (.int .i64 (0 : Nat))] := by
  have e : wErr d l = 0 := by unfold wErr; rw [if_neg (by simp [h1, h2]), if_neg h]
  unfold wRes wOut
  rw [e]; rfl
theorem tWrite21 (fx : List Fact) (hg : gTab ∈ fx) (d : Hd) (hf : d.Fit) (A : Option Addr) (l : List Sg) (cap : Nat) (hS : SgsAt fx A l) (hl : l.length ≤ 15) :
    Tri Tryd.prog 36 [.v d.v, .v (.slice A l.length cap)] [] 0 fx (Ret 0 (wRes d l) [] 0 []) := by
  refine Tri.of_code tok Tryd.func36 rfl rfl rfl (by decide) rfl (Nat.le_of_ble_eq_true rfl) ?_
  conv => whnf
  repeat' ((first | refine And.intro (by repeat' first | exact trivial | refine And.intro rfl ?_) (And.intro (by first | exact fun _ h => h | exact fun _ => List.mem_cons_of_mem _ | exact fun _ => List.mem_append_right _) ?_) | (refine And.intro (fun h => ?_) (fun h => ?_) <;> (try simp only [n1, n2, n3, n4, n5, n6] at h) <;> first | (exfalso; omega) | (cases h; done) | skip) | refine And.intro (by omega) ?_ | refine Exists.intro _ (And.intro (by first | exact And.intro rfl rfl | exact Pl.den (by repeat constructor) | with_reducible rfl | exact cast_succ _ | assumption | exact (Int.toNat_of_nonneg (by omega)).symm | rfl) ?_) | refine hD _ _ ?_ | refine hL _ _ ?_ | (intro h; (try simp only [n1, n2, n3, n4, n5, n6] at h); first | (exfalso; omega) | (cases h; done) | skip)) <;> (conv => whnf))
  refine And.intro Hd.one ?_
  conv => whnf
  repeat' ((first | (refine Exists.intro d.cells (And.intro (Hd.all hf) ?_)) | refine And.intro (by repeat' first | exact trivial | refine And.intro rfl ?_) (And.intro (by first | exact fun _ h => h | exact fun _ => List.mem_cons_of_mem _ | exact fun _ => List.mem_append_right _) ?_) | (refine And.intro (fun h => ?_) (fun h => ?_) <;> (try simp only [n1, n2, n3, n4, n5, n6] at h) <;> first | (exfalso; omega) | (cases h; done) | skip) | refine And.intro (by omega) ?_ | refine Exists.intro _ (And.intro (by first | exact And.intro rfl rfl | exact Pl.den (by repeat constructor) | with_reducible rfl | exact cast_succ _ | assumption | exact (Int.toNat_of_nonneg (by omega)).symm | rfl) ?_) | refine hD _ _ ?_ | refine hL _ _ ?_ | (intro h; (try simp only [n1, n2, n3, n4, n5, n6] at h); first | (exfalso; omega) | (cases h; done) | skip)) <;> (conv => whnf))
  cases hok : d.ok with
  | false =>
    have T := tText fx hg d hf
    rw [Hd.res_no hok] at T
    refine Tri.use (T.one) [] rfl (fun _ _ _ => rfl) trivial (fun f hf => by first | exact hf | cases hf) (fun u hu => ?_)
    conv => whnf
    repeat' ((first | refine And.intro (by repeat' first | exact trivial | refine And.intro rfl ?_) (And.intro (by first | exact fun _ h => h | exact fun _ => List.mem_cons_of_mem _ | exact fun _ => List.mem_append_right _) ?_) | (refine And.intro (fun h => ?_) (fun h => ?_) <;> (try simp only [n1, n2, n3, n4, n5, n6] at h) <;> first | (exfalso; omega) | (cases h; done) | skip) | refine And.intro (by omega) ?_ | refine Exists.intro _ (And.intro (by first | exact And.intro rfl rfl | exact Pl.den (by repeat constructor) | with_reducible rfl | exact cast_succ _ | assumption | exact (Int.toNat_of_nonneg (by omega)).symm | rfl) ?_) | refine hD _ _ ?_ | refine hL _ _ ?_ | (intro h; (try simp only [n1, n2, n3, n4, n5, n6] at h); first | (exfalso; omega) | (cases h; done) | skip)) <;> (conv => whnf))
    rw [wErr_no (.inl hok)]
    exact Ret.noneS rfl (fun _ _ => rfl) (fun g hg => by cases hg)
  | true =>
  have T := tText fx hg d hf
  rw [Hd.res_ok hok] at T
  refine Tri.use (T.one) [] rfl (fun _ _ _ => rfl) trivial (fun f hf => by first | exact hf | cases hf) (fun u hu => ?_)
  conv => whnf
  repeat' ((first | refine And.intro (by repeat' first | exact trivial | refine And.intro rfl ?_) (And.intro (by first | exact fun _ h => h | exact fun _ => List.mem_cons_of_mem _ | exact fun _ => List.mem_append_right _) ?_) | (refine And.intro (fun h => ?_) (fun h => ?_) <;> (try simp only [n1, n2, n3, n4, n5, n6] at h) <;> first | (exfalso; omega) | (cases h; done) | skip) | refine And.intro (by omega) ?_ | refine Exists.intro _ (And.intro (by first | exact And.intro rfl rfl | exact Pl.den (by repeat constructor) | with_reducible rfl | exact cast_succ _ | assumption | exact (Int.toNat_of_nonneg (by omega)).symm | rfl) ?_) | refine hD _ _ ?_ | refine hL _ _ ?_ | (intro h; (try simp only [n1, n2, n3, n4, n5, n6] at h); first | (exfalso; omega) | (cases h; done) | skip)) <;> (conv => whnf))
  have htl := text_len hok hf.root
  have hts := arr_size d.text
  have h10 : (⟨#[10]⟩ : ByteArray).size = 1 := rfl
  conv => whnf
  repeat' ((first | (refine And.intro (by rw [hts, h10]; omega) ?_) | refine And.intro (by repeat' first | exact trivial | refine And.intro rfl ?_) (And.intro (by first | exact fun _ h => h | exact fun _ => List.mem_cons_of_mem _ | exact fun _ => List.mem_append_right _) ?_) | (refine And.intro (fun h => ?_) (fun h => ?_) <;> (try simp only [n1, n2, n3, n4, n5, n6] at h) <;> first | (exfalso; omega) | (cases h; done) | skip) | refine And.intro (by omega) ?_ | refine Exists.intro _ (And.intro (by first | exact And.intro rfl rfl | exact Pl.den (by repeat constructor) | with_reducible rfl | exact cast_succ _ | assumption | exact (Int.toNat_of_nonneg (by omega)).symm | rfl) ?_) | refine hD _ _ ?_ | refine hL _ _ ?_ | (intro h; (try simp only [n1, n2, n3, n4, n5, n6] at h); first | (exfalso; omega) | (cases h; done) | skip)) <;> (conv => whnf))
  refine loop_by tok (α := Nat) (fun i => ⟨[(1, .v (.slice A l.length cap)), (6, .v (.string (⟨d.text.toArray⟩ ++ ⟨#[10]⟩))), (21, .v (.slice A l.length cap)), (22, .v (.int .i64 l.length)), (23, .v (.int .i64 i))], [], 0, fx⟩) (fun i => i ≤ l.length ∧ ∀ j s, j < i → l[j]? = some s → s.ok = true) (fun i => l.length - i) 0 [] (by simp) ⟨rfl, ⟨fun _ _ _ => rfl, fun _ _ _ => rfl, fun _ _ _ => rfl, fun _ _ _ => rfl, fun _ _ _ => rfl, trivial⟩, trivial, fun f hf => hf⟩ ?_
  rintro i ⟨hi, ha⟩
  conv => whnf
  repeat' ((first | refine And.intro (by repeat' first | exact trivial | refine And.intro rfl ?_) (And.intro (by first | exact fun _ h => h | exact fun _ => List.mem_cons_of_mem _ | exact fun _ => List.mem_append_right _) ?_) | (refine And.intro (fun h => ?_) (fun h => ?_) <;> (try simp only [n1, n2, n3, n4, n5, n6] at h) <;> first | (exfalso; omega) | (cases h; done) | skip) | refine And.intro (by omega) ?_ | refine Exists.intro _ (And.intro (by first | exact And.intro rfl rfl | exact Pl.den (by repeat constructor) | with_reducible rfl | exact cast_succ _ | assumption | exact (Int.toNat_of_nonneg (by omega)).symm | rfl) ?_) | refine hD _ _ ?_ | refine hL _ _ ?_ | (intro h; (try simp only [n1, n2, n3, n4, n5, n6] at h); first | (exfalso; omega) | (cases h; done) | skip)) <;> (conv => whnf))
  · have hlt : i < l.length := by omega
    obtain ⟨ad, hA⟩ := hS.adr hlt
    obtain ⟨s, hs⟩ : ∃ s, l[i]? = some s := ⟨l[i], List.getElem?_eq_getElem hlt⟩
    have hsf := hS.fit s (List.mem_of_getElem? hs)
    refine ⟨ad, hA, ?_⟩
    conv => whnf
    repeat' ((first | (refine Exists.intro s.cells (And.intro ⟨rfl, fun j y hj => hS.field hs hA j hj⟩ ?_)) | refine And.intro (by repeat' first | exact trivial | refine And.intro rfl ?_) (And.intro (by first | exact fun _ h => h | exact fun _ => List.mem_cons_of_mem _ | exact fun _ => List.mem_append_right _) ?_) | (refine And.intro (fun h => ?_) (fun h => ?_) <;> (try simp only [n1, n2, n3, n4, n5, n6] at h) <;> first | (exfalso; omega) | (cases h; done) | skip) | refine And.intro (by omega) ?_ | refine Exists.intro _ (And.intro (by first | exact And.intro rfl rfl | exact Pl.den (by repeat constructor) | with_reducible rfl | exact cast_succ _ | assumption | exact (Int.toNat_of_nonneg (by omega)).symm | rfl) ?_) | refine hD _ _ ?_ | refine hL _ _ ?_ | (intro h; (try simp only [n1, n2, n3, n4, n5, n6] at h); first | (exfalso; omega) | (cases h; done) | skip)) <;> (conv => whnf))
    refine And.intro ⟨rfl, Sg.one⟩ (And.intro ⟨rfl, rfl⟩ ?_)
    conv => whnf
    repeat' ((first | (refine Exists.intro s.cells (And.intro ⟨rfl, rfl⟩ ?_)) | refine And.intro (by repeat' first | exact trivial | refine And.intro rfl ?_) (And.intro (by first | exact fun _ h => h | exact fun _ => List.mem_cons_of_mem _ | exact fun _ => List.mem_append_right _) ?_) | (refine And.intro (fun h => ?_) (fun h => ?_) <;> (try simp only [n1, n2, n3, n4, n5, n6] at h) <;> first | (exfalso; omega) | (cases h; done) | skip) | refine And.intro (by omega) ?_ | refine Exists.intro _ (And.intro (by first | exact And.intro rfl rfl | exact Pl.den (by repeat constructor) | with_reducible rfl | exact cast_succ _ | assumption | exact (Int.toNat_of_nonneg (by omega)).symm | rfl) ?_) | refine hD _ _ ?_ | refine hL _ _ ?_ | (intro h; (try simp only [n1, n2, n3, n4, n5, n6] at h); first | (exfalso; omega) | (cases h; done) | skip)) <;> (conv => whnf))
    refine Tri.use ((tFormed fx s hsf).one) [] rfl (fun _ _ _ => rfl) trivial (fun f hf => by first | exact hf | cases hf) (fun u hu => ?_)
    conv => whnf
    repeat' ((first | refine And.intro (by repeat' first | exact trivial | refine And.intro rfl ?_) (And.intro (by first | exact fun _ h => h | exact fun _ => List.mem_cons_of_mem _ | exact fun _ => List.mem_append_right _) ?_) | (refine And.intro (fun h => ?_) (fun h => ?_) <;> (try simp only [n1, n2, n3, n4, n5, n6] at h) <;> first | (exfalso; omega) | (cases h; done) | skip) | refine And.intro (by omega) ?_ | refine Exists.intro _ (And.intro (by first | exact And.intro rfl rfl | exact Pl.den (by repeat constructor) | with_reducible rfl | exact cast_succ _ | assumption | exact (Int.toNat_of_nonneg (by omega)).symm | rfl) ?_) | refine hD _ _ ?_ | refine hL _ _ ?_ | (intro h; (try simp only [n1, n2, n3, n4, n5, n6] at h); first | (exfalso; omega) | (cases h; done) | skip)) <;> (conv => whnf))
    · rw [wErr_no (.inr (List.all_eq_false.2 ⟨s, List.mem_of_getElem? hs, by simp [h]⟩))]
      exact Ret.noneS rfl (fun _ _ => rfl) (fun g hg => by cases hg)
    · have hsok : s.ok = true := h
      refine ⟨i + 1, [], ⟨⟨by omega, fun j s' hj hs' => ?_⟩, by omega⟩, rfl, ⟨fun _ _ _ => rfl, fun _ _ _ => rfl, fun _ _ _ => rfl, fun _ _ _ => rfl, fun _ _ _ => rfl, trivial⟩, trivial, fun f hf => hf⟩
      by_cases hji : j < i
      · exact ha j s' hji hs'
      · have e : j = i := by omega
        rw [e, hs] at hs'
        rw [← Option.some.inj hs']
        exact hsok
  · have hall : l.all Sg.ok = true := List.all_eq_true.2 fun s hs => by
      obtain ⟨j, hj⟩ := List.getElem?_of_mem hs
      exact ha j s (by have := (List.getElem?_eq_some_iff.1 hj).1; omega) hj
    rw [wErr_long hok hall (by omega)]
    exact Ret.noneS rfl (fun _ _ => rfl) (fun g hg => by cases hg)
  have hall : l.all Sg.ok = true := List.all_eq_true.2 fun s hs => by
    obtain ⟨j, hj⟩ := List.getElem?_of_mem hs
    exact ha j s (by have := (List.getElem?_eq_some_iff.1 hj).1; omega) hj
  have hfor : ∀ s ∈ l, s.ok = true ∧ s.num < 4294967296 := fun s hs => ⟨List.all_eq_true.1 hall s hs, (hS.fit s hs).num⟩
  rw [wErr_ok hok hall (by omega)]
  have lz : ∀ k, ((l.take k).flatMap Sg.line).length ≤ 167 * 15 := fun k => by
    have := lines_len (l := l.take k) fun s hs => hfor s (List.mem_of_mem_take hs)
    rw [List.length_take] at this
    omega
  have e0 : (⟨d.text.toArray⟩ ++ ⟨#[10]⟩ : ByteArray) = ⟨(d.text ++ [10] ++ (l.take 0).flatMap Sg.line).toArray⟩ := by
    have e10 : (⟨#[10]⟩ : ByteArray) = ⟨([10] : List UInt8).toArray⟩ := rfl
    rw [e10, ba_app]; simp
  refine loop_by tok (α := Nat) (fun i => ⟨[(6, .v (strS (d.text ++ [10] ++ (l.take i).flatMap Sg.line))), (34, .v (.slice A l.length cap)), (35, .v (.int .i64 l.length)), (36, .v (.int .i64 i))], [], 0, fx⟩) (fun i => i ≤ l.length) (fun i => l.length - i) 0 [] (by simp) ⟨rfl, ⟨fun _ _ _ => by simp only [den, strS, e0], fun _ _ _ => rfl, fun _ _ _ => rfl, fun _ _ _ => rfl, trivial⟩, trivial, fun f hf => hf⟩ ?_
  intro i hi
  have hz := lz i
  simp only [strS]
  conv => whnf
  repeat' ((first | refine And.intro (by repeat' first | exact trivial | refine And.intro rfl ?_) (And.intro (by first | exact fun _ h => h | exact fun _ => List.mem_cons_of_mem _ | exact fun _ => List.mem_append_right _) ?_) | (refine And.intro (fun h => ?_) (fun h => ?_) <;> (try simp only [n1, n2, n3, n4, n5, n6] at h) <;> first | (exfalso; omega) | (cases h; done) | skip) | refine And.intro (by omega) ?_ | refine Exists.intro _ (And.intro (by first | exact And.intro rfl rfl | exact Pl.den (by repeat constructor) | with_reducible rfl | exact cast_succ _ | assumption | exact (Int.toNat_of_nonneg (by omega)).symm | rfl) ?_) | refine hD _ _ ?_ | refine hL _ _ ?_ | (intro h; (try simp only [n1, n2, n3, n4, n5, n6] at h); first | (exfalso; omega) | (cases h; done) | skip)) <;> (conv => whnf))
  · have hlt : i < l.length := by omega
    obtain ⟨ad, hA⟩ := hS.adr hlt
    obtain ⟨s, hs⟩ : ∃ s, l[i]? = some s := ⟨l[i], List.getElem?_eq_getElem hlt⟩
    have hsf := hS.fit s (List.mem_of_getElem? hs)
    have hso := (hfor s (List.mem_of_getElem? hs)).1
    have hll := line_len hso hsf.num
    refine ⟨ad, hA, ?_⟩
    conv => whnf
    repeat' ((first | (refine Exists.intro s.cells (And.intro ⟨rfl, fun j y hj => hS.field hs hA j hj⟩ ?_)) | refine And.intro (by repeat' first | exact trivial | refine And.intro rfl ?_) (And.intro (by first | exact fun _ h => h | exact fun _ => List.mem_cons_of_mem _ | exact fun _ => List.mem_append_right _) ?_) | (refine And.intro (fun h => ?_) (fun h => ?_) <;> (try simp only [n1, n2, n3, n4, n5, n6] at h) <;> first | (exfalso; omega) | (cases h; done) | skip) | refine And.intro (by omega) ?_ | refine Exists.intro _ (And.intro (by first | exact And.intro rfl rfl | exact Pl.den (by repeat constructor) | with_reducible rfl | exact cast_succ _ | assumption | exact (Int.toNat_of_nonneg (by omega)).symm | rfl) ?_) | refine hD _ _ ?_ | refine hL _ _ ?_ | (intro h; (try simp only [n1, n2, n3, n4, n5, n6] at h); first | (exfalso; omega) | (cases h; done) | skip)) <;> (conv => whnf))
    refine And.intro ⟨rfl, Sg.one⟩ (And.intro ⟨rfl, rfl⟩ ?_)
    conv => whnf
    repeat' ((first | (refine Exists.intro s.cells (And.intro ⟨rfl, rfl⟩ ?_)) | refine And.intro (by repeat' first | exact trivial | refine And.intro rfl ?_) (And.intro (by first | exact fun _ h => h | exact fun _ => List.mem_cons_of_mem _ | exact fun _ => List.mem_append_right _) ?_) | (refine And.intro (fun h => ?_) (fun h => ?_) <;> (try simp only [n1, n2, n3, n4, n5, n6] at h) <;> first | (exfalso; omega) | (cases h; done) | skip) | refine And.intro (by omega) ?_ | refine Exists.intro _ (And.intro (by first | exact And.intro rfl rfl | exact Pl.den (by repeat constructor) | with_reducible rfl | exact cast_succ _ | assumption | exact (Int.toNat_of_nonneg (by omega)).symm | rfl) ?_) | refine hD _ _ ?_ | refine hL _ _ ?_ | (intro h; (try simp only [n1, n2, n3, n4, n5, n6] at h); first | (exfalso; omega) | (cases h; done) | skip)) <;> (conv => whnf))
    refine Tri.use ((tLine fx hg s hsf hso).one) [] rfl (fun _ _ _ => rfl) trivial (fun f hf => by first | exact hf | cases hf) (fun u hu => ?_)
    conv => whnf
    repeat' ((first | (refine And.intro (by simp only [arr_size, List.length_append, List.length_cons, List.length_nil]; omega) ?_) | refine And.intro (by repeat' first | exact trivial | refine And.intro rfl ?_) (And.intro (by first | exact fun _ h => h | exact fun _ => List.mem_cons_of_mem _ | exact fun _ => List.mem_append_right _) ?_) | (refine And.intro (fun h => ?_) (fun h => ?_) <;> (try simp only [n1, n2, n3, n4, n5, n6] at h) <;> first | (exfalso; omega) | (cases h; done) | skip) | refine And.intro (by omega) ?_ | refine Exists.intro _ (And.intro (by first | exact And.intro rfl rfl | exact Pl.den (by repeat constructor) | with_reducible rfl | exact cast_succ _ | assumption | exact (Int.toNat_of_nonneg (by omega)).symm | rfl) ?_) | refine hD _ _ ?_ | refine hL _ _ ?_ | (intro h; (try simp only [n1, n2, n3, n4, n5, n6] at h); first | (exfalso; omega) | (cases h; done) | skip)) <;> (conv => whnf))
    refine ⟨i + 1, [], ⟨by omega, by omega⟩, rfl, ⟨fun _ _ _ => ?_, fun _ _ _ => rfl, fun _ _ _ => rfl, fun _ _ _ => rfl, trivial⟩, trivial, fun f hf => hf⟩
    simp only [den, take_succ_of hs, List.flatMap_append, List.flatMap_cons, List.flatMap_nil, List.append_nil, ba_app, List.append_assoc]
  · exfalso
    simp only [arr_size, List.length_append, List.length_cons, List.length_nil] at h
    omega
  · rw [List.take_of_length_le (by omega)]
    exact Ret.noneS rfl (fun _ _ => rfl) (fun g hg => by cases hg)
theorem aw_len : (Hd.text ⟨⟨#[97]⟩, 0, List.replicate 32 0⟩).length = 49 := by
  have h6 := enc_length (List.replicate 32 (0 : UInt8))
  have h7 := decDigits_len (0 : Int).toNat
  have h8 : Lib.nDigits (0 : Int).toNat = 1 := Lib.nDigits_small (by decide)
  simp only [Hd.text, List.length_append, List.length_cons, List.length_nil, h6, h7, h8]
  rfl
theorem tAwake21 (fx : List Fact) (hg : gTab ∈ fx) : Tri Tryd.prog 32 [] [] 0 fx (Ret 0 (.b true) [] 0 []) := by
  refine Tri.of_code tok Tryd.func32 rfl rfl rfl (by decide) rfl (Nat.le_of_ble_eq_true rfl) ?_
  conv => whnf
  repeat' ((first | refine And.intro (by repeat' first | exact trivial | refine And.intro rfl ?_) (And.intro (by first | exact fun _ h => h | exact fun _ => List.mem_cons_of_mem _ | exact fun _ => List.mem_append_right _) ?_) | (refine And.intro (fun h => ?_) (fun h => ?_) <;> (try simp only [n1, n2, n3, n4, n5, n6] at h) <;> first | (exfalso; omega) | (cases h; done) | skip) | refine And.intro (by omega) ?_ | refine Exists.intro _ (And.intro (by first | exact And.intro rfl rfl | exact Pl.den (by repeat constructor) | with_reducible rfl | exact cast_succ _ | assumption | exact (Int.toNat_of_nonneg (by omega)).symm | rfl) ?_) | refine hD _ _ ?_ | refine hL _ _ ?_ | (intro h; (try simp only [n1, n2, n3, n4, n5, n6] at h); first | (exfalso; omega) | (cases h; done) | skip)) <;> (conv => whnf))
  have T := tText fx hg ⟨⟨#[97]⟩, 0, List.replicate 32 0⟩ ⟨rfl, by simp, by decide⟩
  rw [Hd.res_ok (by decide)] at T
  refine Tri.use (T.one) [] rfl (fun _ _ _ => rfl) trivial (fun f hf => by first | exact hf | cases hf) (fun u hu => ?_)
  have e : (⟨(Hd.text ⟨⟨#[97]⟩, 0, List.replicate 32 0⟩).toArray⟩ : ByteArray).size = 49 := by rw [arr_size, aw_len]
  conv => whnf
  repeat' ((first | refine And.intro (by repeat' first | exact trivial | refine And.intro rfl ?_) (And.intro (by first | exact fun _ h => h | exact fun _ => List.mem_cons_of_mem _ | exact fun _ => List.mem_append_right _) ?_) | (refine And.intro (fun h => ?_) (fun h => ?_) <;> (try simp only [n1, n2, n3, n4, n5, n6] at h) <;> first | (exfalso; omega) | (cases h; done) | skip) | refine And.intro (by omega) ?_ | refine Exists.intro _ (And.intro (by first | exact And.intro rfl rfl | exact Pl.den (by repeat constructor) | with_reducible rfl | exact cast_succ _ | assumption | exact (Int.toNat_of_nonneg (by omega)).symm | rfl) ?_) | refine hD _ _ ?_ | refine hL _ _ ?_ | (intro h; (try simp only [n1, n2, n3, n4, n5, n6] at h); first | (exfalso; omega) | (cases h; done) | skip)) <;> (conv => whnf))
  exact Ret.noneS rfl (fun _ _ => by simp only [den, arr_size, aw_len]; rfl) (fun g hg => by cases hg)
def rLine (s : Sg) : List UInt8 := if s.ok then s.line else []
theorem rLine_len {s : Sg} (hn : s.num < 4294967296) : (rLine s).length ≤ 167 := by
  unfold rLine
  split
  · rename_i h; exact line_len h hn
  · simp
theorem rLines_len : ∀ {l : List Sg}, (∀ s ∈ l, s.num < 4294967296) → (l.flatMap rLine).length ≤ 167 * l.length
  | [], _ => by simp
  | x :: r, h => by
    have h1 := rLine_len (h x (List.mem_cons_self ..))
    have h2 := rLines_len (l := r) fun s hs => h s (List.mem_cons_of_mem _ hs)
    simp only [List.flatMap_cons, List.length_append, List.length_cons]
    omega
def rText (d : Hd) : List UInt8 := if d.ok then d.text else []
theorem rText_len {d : Hd} (hr : d.root.length = 32) : (rText d).length ≤ 107 := by
  unfold rText
  split
  · rename_i h; exact text_len h hr
  · simp
theorem tRefWrite21 (fx : List Fact) (d : Hd) (hf : d.Fit) (A : Option Addr) (l : List Sg) (cap : Nat) (hS : SgsAt fx A l) (hl : l.length ≤ 15) :
    Tri Tryd.prog 38 [.v d.v, .v (.slice A l.length cap)] [] 0 fx (Ret 0 (wRes d l) [] 0 []) := by
  refine Tri.of_code tok Tryd.func38 rfl rfl rfl (by decide) rfl (Nat.le_of_ble_eq_true rfl) ?_
  conv => whnf
  repeat' ((first | refine And.intro (by repeat' first | exact trivial | refine And.intro rfl ?_) (And.intro (by first | exact fun _ h => h | exact fun _ => List.mem_cons_of_mem _ | exact fun _ => List.mem_append_right _) ?_) | (refine And.intro (fun h => ?_) (fun h => ?_) <;> (try simp only [n1, n2, n3, n4, n5, n6] at h) <;> first | (exfalso; omega) | (cases h; done) | skip) | refine And.intro (by omega) ?_ | refine Exists.intro _ (And.intro (by first | exact And.intro rfl rfl | exact Pl.den (by repeat constructor) | with_reducible rfl | exact cast_succ _ | assumption | exact (Int.toNat_of_nonneg (by omega)).symm | rfl) ?_) | refine hD _ _ ?_ | refine hL _ _ ?_ | (intro h; (try simp only [n1, n2, n3, n4, n5, n6] at h); first | (exfalso; omega) | (cases h; done) | skip)) <;> (conv => whnf))
  refine And.intro Hd.one ?_
  conv => whnf
  repeat' ((first | (refine Exists.intro d.cells (And.intro (Hd.all hf) ?_)) | refine And.intro (by repeat' first | exact trivial | refine And.intro rfl ?_) (And.intro (by first | exact fun _ h => h | exact fun _ => List.mem_cons_of_mem _ | exact fun _ => List.mem_append_right _) ?_) | (refine And.intro (fun h => ?_) (fun h => ?_) <;> (try simp only [n1, n2, n3, n4, n5, n6] at h) <;> first | (exfalso; omega) | (cases h; done) | skip) | refine And.intro (by omega) ?_ | refine Exists.intro _ (And.intro (by first | exact And.intro rfl rfl | exact Pl.den (by repeat constructor) | with_reducible rfl | exact cast_succ _ | assumption | exact (Int.toNat_of_nonneg (by omega)).symm | rfl) ?_) | refine hD _ _ ?_ | refine hL _ _ ?_ | (intro h; (try simp only [n1, n2, n3, n4, n5, n6] at h); first | (exfalso; omega) | (cases h; done) | skip)) <;> (conv => whnf))
  have T := tRefText fx d hf
  refine Tri.use ((T.one.reval (v' := .tup [.v (strS (rText d)), .v (.bool d.ok)]) (fun ρ => by unfold Hd.res rText; cases d.ok <;> rfl))) [] rfl (fun _ _ _ => rfl) trivial (fun f hf => by first | exact hf | cases hf) (fun u hu => ?_)
  have htl := rText_len hf.root
  have hts := arr_size (rText d)
  have h10 : (⟨#[10]⟩ : ByteArray).size = 1 := rfl
  conv => whnf
  repeat' ((first | (refine And.intro (by rw [hts, h10]; omega) ?_) | refine And.intro (by repeat' first | exact trivial | refine And.intro rfl ?_) (And.intro (by first | exact fun _ h => h | exact fun _ => List.mem_cons_of_mem _ | exact fun _ => List.mem_append_right _) ?_) | (refine And.intro (fun h => ?_) (fun h => ?_) <;> (try simp only [n1, n2, n3, n4, n5, n6] at h) <;> first | (exfalso; omega) | (cases h; done) | skip) | refine And.intro (by omega) ?_ | refine Exists.intro _ (And.intro (by first | exact And.intro rfl rfl | exact Pl.den (by repeat constructor) | with_reducible rfl | exact cast_succ _ | assumption | exact (Int.toNat_of_nonneg (by omega)).symm | rfl) ?_) | refine hD _ _ ?_ | refine hL _ _ ?_ | (intro h; (try simp only [n1, n2, n3, n4, n5, n6] at h); first | (exfalso; omega) | (cases h; done) | skip)) <;> (conv => whnf))
  have lz : ∀ k, ((l.take k).flatMap rLine).length ≤ 167 * 15 := fun k => by
    have := rLines_len (l := l.take k) fun s hs => (hS.fit s (List.mem_of_mem_take hs)).num
    rw [List.length_take] at this
    omega
  have e0 : (⟨(rText d).toArray⟩ ++ ⟨#[10]⟩ : ByteArray) = ⟨(rText d ++ [10] ++ (l.take 0).flatMap rLine).toArray⟩ := by
    have e10 : (⟨#[10]⟩ : ByteArray) = ⟨([10] : List UInt8).toArray⟩ := rfl
    rw [e10, ba_app]; simp
  refine loop_by tok (α := Nat) (fun i => ⟨[(1, .v (.slice A l.length cap)), (6, .v (strS (rText d ++ [10] ++ (l.take i).flatMap rLine))), (7, .v (.bool (d.ok && (l.take i).all Sg.ok))), (8, .v (.int .i64 i))], [], 0, fx⟩) (fun i => i ≤ l.length) (fun i => l.length - i) 0 [] (by simp) ⟨rfl, ⟨fun _ _ _ => rfl, fun _ _ _ => by simp only [den, strS, e0], fun _ _ _ => by simp only [den, List.take_zero, List.all_nil, Bool.and_true], fun _ _ _ => rfl, trivial⟩, trivial, fun f hf => hf⟩ ?_
  intro i hi
  have hz := lz i
  simp only [strS]
  conv => whnf
  repeat' ((first | refine And.intro (by repeat' first | exact trivial | refine And.intro rfl ?_) (And.intro (by first | exact fun _ h => h | exact fun _ => List.mem_cons_of_mem _ | exact fun _ => List.mem_append_right _) ?_) | (refine And.intro (fun h => ?_) (fun h => ?_) <;> (try simp only [n1, n2, n3, n4, n5, n6] at h) <;> first | (exfalso; omega) | (cases h; done) | skip) | refine And.intro (by omega) ?_ | refine Exists.intro _ (And.intro (by first | exact And.intro rfl rfl | exact Pl.den (by repeat constructor) | with_reducible rfl | exact cast_succ _ | assumption | exact (Int.toNat_of_nonneg (by omega)).symm | rfl) ?_) | refine hD _ _ ?_ | refine hL _ _ ?_ | (intro h; (try simp only [n1, n2, n3, n4, n5, n6] at h); first | (exfalso; omega) | (cases h; done) | skip)) <;> (conv => whnf))
  · have hlt : i < l.length := by omega
    obtain ⟨ad, hA⟩ := hS.adr hlt
    obtain ⟨s, hs⟩ : ∃ s, l[i]? = some s := ⟨l[i], List.getElem?_eq_getElem hlt⟩
    have hsf := hS.fit s (List.mem_of_getElem? hs)
    have hll := rLine_len hsf.num
    refine ⟨ad, hA, ?_⟩
    conv => whnf
    repeat' ((first | (refine Exists.intro s.cells (And.intro ⟨rfl, fun j y hj => hS.field hs hA j hj⟩ ?_)) | refine And.intro (by repeat' first | exact trivial | refine And.intro rfl ?_) (And.intro (by first | exact fun _ h => h | exact fun _ => List.mem_cons_of_mem _ | exact fun _ => List.mem_append_right _) ?_) | (refine And.intro (fun h => ?_) (fun h => ?_) <;> (try simp only [n1, n2, n3, n4, n5, n6] at h) <;> first | (exfalso; omega) | (cases h; done) | skip) | refine And.intro (by omega) ?_ | refine Exists.intro _ (And.intro (by first | exact And.intro rfl rfl | exact Pl.den (by repeat constructor) | with_reducible rfl | exact cast_succ _ | assumption | exact (Int.toNat_of_nonneg (by omega)).symm | rfl) ?_) | refine hD _ _ ?_ | refine hL _ _ ?_ | (intro h; (try simp only [n1, n2, n3, n4, n5, n6] at h); first | (exfalso; omega) | (cases h; done) | skip)) <;> (conv => whnf))
    have hsz : (⟨(rText d ++ [10] ++ (l.take i).flatMap rLine).toArray⟩ : ByteArray).size ≤ 4000 := by
      simp only [arr_size, List.length_append, List.length_cons, List.length_nil]; omega
    have T2 : Tri Tryd.prog 84 [.v s.v] [] 0 fx (Ret 0 (.v (strS (rLine s))) [] 0 []) := tRefLine fx s hsf
    refine Tri.use (T2.one) [] rfl (fun _ _ _ => rfl) trivial (fun f hf => by first | exact hf | cases hf) (fun u hu => ?_)
    have hrs := arr_size (rLine s)
    have hnil : (!(rLine s == [])) = s.ok := by
      unfold rLine Sg.line
      cases s.ok <;> simp
    have e6 : (⟨(rText d ++ [10] ++ (l.take i).flatMap rLine).toArray⟩ ++ ⟨(rLine s).toArray⟩ : ByteArray) = ⟨(rText d ++ [10] ++ (l.take (i + 1)).flatMap rLine).toArray⟩ := by
      rw [ba_app, take_succ_of hs]; simp [List.append_assoc]
    have e7 : (d.ok && (l.take (i + 1)).all Sg.ok) = ((d.ok && (l.take i).all Sg.ok) && s.ok) := by
      rw [take_succ_of hs, List.all_append]; simp [Bool.and_assoc]
    conv => whnf
    repeat' ((first | (refine And.intro (by rw [hrs]; omega) ?_) | refine And.intro (by repeat' first | exact trivial | refine And.intro rfl ?_) (And.intro (by first | exact fun _ h => h | exact fun _ => List.mem_cons_of_mem _ | exact fun _ => List.mem_append_right _) ?_) | (refine And.intro (fun h => ?_) (fun h => ?_) <;> (try simp only [n1, n2, n3, n4, n5, n6] at h) <;> first | (exfalso; omega) | (cases h; done) | skip) | refine And.intro (by omega) ?_ | refine Exists.intro _ (And.intro (by first | exact And.intro rfl rfl | exact Pl.den (by repeat constructor) | with_reducible rfl | exact cast_succ _ | assumption | exact (Int.toNat_of_nonneg (by omega)).symm | rfl) ?_) | refine hD _ _ ?_ | refine hL _ _ ?_ | (intro h; (try simp only [n1, n2, n3, n4, n5, n6] at h); first | (exfalso; omega) | (cases h; done) | skip)) <;> (conv => whnf))
    · rename_i hb
      refine ⟨i + 1, [], ⟨by omega, by omega⟩, rfl, ⟨fun _ _ _ => rfl, fun _ _ _ => by simp only [den, e6], fun _ _ _ => ?_, fun _ _ _ => rfl, trivial⟩, trivial, fun f hf => hf⟩
      simp only [den, e7, hb, Bool.true_and]
      rw [← hnil]
    · rename_i hb
      refine ⟨i + 1, [], ⟨by omega, by omega⟩, rfl, ⟨fun _ _ _ => rfl, fun _ _ _ => by simp only [den, e6], fun _ _ _ => ?_, fun _ _ _ => rfl, trivial⟩, trivial, fun f hf => hf⟩
      simp only [den, e7, hb, Bool.false_and]
  · rw [List.take_of_length_le (by omega)] at h
    rw [wErr_no (by cases hd : d.ok <;> simp_all)]
    exact Ret.noneS rfl (fun _ _ => rfl) (fun g hg => by cases hg)
  · rename_i hb
    rw [List.take_of_length_le (by omega), Bool.and_eq_true] at hb
    rw [wErr_long hb.1 hb.2 (by omega)]
    exact Ret.noneS rfl (fun _ _ => rfl) (fun g hg => by cases hg)
  · exfalso
    simp only [arr_size, List.length_append, List.length_cons, List.length_nil] at h
    omega
  · rename_i hb _
    rw [List.take_of_length_le (by omega), Bool.and_eq_true] at hb
    rw [wErr_ok hb.1 hb.2 (by omega), List.take_of_length_le (by omega)]
    refine Ret.noneS rfl (fun _ _ => ?_) (fun g hg => by cases hg)
    have e1 : rText d = d.text := by unfold rText; rw [hb.1]; rfl
    have e2 : l.flatMap rLine = l.flatMap Sg.line := by
      have : ∀ k : List Sg, (∀ s ∈ k, s.ok = true) → k.flatMap rLine = k.flatMap Sg.line := by
        intro k
        induction k with
        | nil => intro _; rfl
        | cons x r ih =>
          intro h
          rw [List.flatMap_cons, List.flatMap_cons, ih fun s hs => h s (List.mem_cons_of_mem _ hs)]
          congr 1
          unfold rLine
          rw [h x (List.mem_cons_self ..)]; rfl
      exact this l fun s hs => List.all_eq_true.1 hb.2 s hs
    simp only [den, denL_cons, denL_nil, strS, noteL, e1, e2]
    rfl
end Go.Proofs.YtekgjjanikicnaaDoor.Sx

namespace Go.Proofs.YtekgjjanikicnaaDoor.Sx
open Go Go.RowKit
set_option linter.unusedSimpArgs false
set_option linter.unusedVariables false
theorem dec_digit : ∀ (n u : Nat), u ≤ n → ∀ c ∈ Lib.decDigits u, 48 ≤ c.toNat ∧ c.toNat ≤ 57 := by
  intro n
  induction n with
  | zero =>
    intro u h c hc
    have : u = 0 := by omega
    subst this
    rw [Lib.decDigits_one (by omega)] at hc
    obtain rfl := List.mem_singleton.1 hc
    exact ⟨by decide, by decide⟩
  | succ n ih =>
    intro u h c hc
    by_cases h10 : u < 10
    · rw [Lib.decDigits_one h10] at hc
      obtain rfl := List.mem_singleton.1 hc
      have := digit_nat h10
      omega
    · have e : Lib.decDigits u = Lib.decDigits (u / 10) ++ [UInt8.ofNat (48 + u % 10)] := by conv => lhs; rw [Lib.decDigits, dif_neg h10]
      rw [e] at hc
      rcases List.mem_append.1 hc with hc | hc
      · exact ih (u / 10) (by omega) c hc
      · obtain rfl := List.mem_singleton.1 hc
        have := digit_nat (Nat.mod_lt u (show 0 < 10 by omega))
        omega
theorem dec_not {u : Nat} {c : UInt8} (h : c.toNat < 48) : c ∉ Lib.decDigits u := fun hc => by
  have := dec_digit u u (Nat.le_refl _) c hc
  omega
theorem enc_not {bs : List UInt8} {c : UInt8} (h : c.toNat < 43) : c ∉ enc bs := fun hc => by
  obtain ⟨p, k, e, _, hp⟩ := enc_form bs
  rw [e] at hc
  rcases List.mem_append.1 hc with hc | hc
  · have := hp c hc
    simp only [plainSign, Bool.or_eq_true, Bool.and_eq_true, decide_eq_true_eq, beq_iff_eq] at this
    omega
  · have := List.eq_of_mem_replicate hc
    subst this
    simp at h
theorem name_not {l : List UInt8} (h : nameOk l = true) {c : UInt8} (hc : c.toNat < 45) : c ∉ l := fun hm => by
  simp only [nameOk, Bool.and_eq_true] at h
  have := List.all_eq_true.1 h.1 c hm
  simp only [nameSign, Bool.or_eq_true, Bool.and_eq_true, decide_eq_true_eq, beq_iff_eq] at this
  omega
theorem count_no {l : List UInt8} {c : UInt8} (h : c ∉ l) : l.count c = 0 := List.count_eq_zero.2 h
theorem text_count {d : Hd} (h : d.ok = true) : d.text.count 10 = 3 := by
  unfold Hd.ok at h
  rw [Bool.and_eq_true] at h
  simp only [Hd.text, List.count_append, count_no (name_not h.1 (c := 10) (by decide)), count_no (dec_not (u := d.size.toNat) (c := 10) (by decide)), count_no (enc_not (bs := d.root) (c := 10) (by decide))]
  rfl
theorem kind_ne {s : Sg} (h : s.ok = true) {c : UInt8} (hc : c.toNat < 100) : s.kind ≠ c := fun e => by
  obtain ⟨_, h2, _⟩ := Sg.ok_iff.1 h
  rw [e] at h2
  omega
theorem line_count {s : Sg} (h : s.ok = true) : s.line.count 10 = 1 := by
  obtain ⟨h1, h2, _⟩ := Sg.ok_iff.1 h
  have hk : [s.kind].count 10 = 0 := count_no (fun hm => kind_ne h (c := 10) (by decide) (List.mem_singleton.1 hm).symm)
  simp only [Sg.line, List.count_append, count_no (name_not h1 (c := 10) (by decide)), count_no (dec_not (u := s.num) (c := 10) (by decide)), count_no (enc_not (bs := s.bs) (c := 10) (by decide)), hk]
  rfl
theorem lines_count : ∀ {l : List Sg}, (∀ s ∈ l, s.ok = true) → (l.flatMap Sg.line).count 10 = l.length
  | [], _ => rfl
  | x :: r, h => by
    rw [List.flatMap_cons, List.count_append, line_count (h x (List.mem_cons_self ..)), lines_count fun s hs => h s (List.mem_cons_of_mem _ hs), List.length_cons]
    omega
theorem note_count {d : Hd} {l : List Sg} (h : d.ok = true) (hl : ∀ s ∈ l, s.ok = true) : (noteL d l).count 10 = 4 + l.length := by
  simp only [noteL, List.count_append, text_count h, lines_count hl]
  have : [(10 : UInt8)].count 10 = 1 := rfl
  omega
end Go.Proofs.YtekgjjanikicnaaDoor.Sx

namespace Go.Proofs.YtekgjjanikicnaaDoor.Sx
open Go Go.RowKit
set_option linter.unusedSimpArgs false
set_option linter.unusedVariables false
/-- A signature, plainly. -/
structure Sp where
  name : List UInt8
  kind : UInt8
  num : Nat
  bs : List UInt8
def Sg.pl (s : Sg) : Sp := ⟨s.name.data.toList, s.kind, s.num, s.bs⟩
def Sp.sg (s : Sp) : Sg := ⟨⟨s.name.toArray⟩, s.kind, s.num, none, 0, s.bs⟩
theorem Sp.pl (s : Sp) : s.sg.pl = s := rfl
theorem ok_pl {s t : Sg} (h : s.pl = t.pl) : s.ok = t.ok ∧ s.line = t.line := by
  simp only [Sg.pl, Sp.mk.injEq] at h
  obtain ⟨h1, h2, h3, h4⟩ := h
  exact ⟨by simp only [Sg.ok, h1, h2, h4], by simp only [Sg.line, h1, h2, h3, h4]⟩
/-- That line is the signature's. -/
structure IsSig (l : List UInt8) (s : Sp) : Prop where
  ok : s.sg.ok = true
  num : s.num < 4294967296
  line : s.sg.line = l ++ [10]
theorem sig_parts {l : List UInt8} {s : Sp} (h : IsSig l s) : parts 32 l = [[115, 105, 103], s.name, [s.kind], Lib.decDigits s.num, enc s.bs] := by
  obtain ⟨k1, k2, _⟩ := Sg.ok_iff.1 h.ok
  have e := h.line
  have el : l = [115, 105, 103] ++ 32 :: (s.name ++ 32 :: ([s.kind] ++ 32 :: (Lib.decDigits s.num ++ 32 :: enc s.bs))) := by
    have : s.sg.line = ([115, 105, 103] ++ 32 :: (s.name ++ 32 :: ([s.kind] ++ 32 :: (Lib.decDigits s.num ++ 32 :: enc s.bs)))) ++ [10] := by
      simp [Sg.line, Sp.sg]
    rw [this] at e
    exact (List.append_cancel_right e).symm
  have n1 : (32 : UInt8) ∉ s.name := name_not (l := s.name) k1 (by decide)
  have n2 : (32 : UInt8) ∉ [s.kind] := fun hm => kind_ne h.ok (c := 32) (by decide) (List.mem_singleton.1 hm).symm
  rw [el, parts_app (by decide), parts_app n1, parts_app n2, parts_app (dec_not (by decide)), parts_no (enc_not (by decide))]
theorem IsSig.inj {l : List UInt8} {s t : Sp} (h : IsSig l s) (k : IsSig l t) : s = t := by
  have e := (sig_parts h).symm.trans (sig_parts k)
  simp only [List.cons.injEq, and_true, true_and] at e
  obtain ⟨e1, e2, e3, e4⟩ := e
  obtain ⟨n1, k1, u1, b1⟩ := s
  obtain ⟨n2, k2, u2, b2⟩ := t
  have h1 := h.num
  have h2 := k.num
  simp only at e1 e2 e3 e4 h1 h2
  have e5 := dec_inj (by omega) (by omega) e3
  have e6 := enc_inj e4
  rw [e1, e2, e5, e6]
theorem sig_no10 {l : List UInt8} {s : Sp} (h : IsSig l s) : (10 : UInt8) ∉ l := fun hm => by
  have h1 := line_count h.ok
  rw [h.line, List.count_append] at h1
  have h2 : 0 < l.count 10 := List.count_pos_iff.2 hm
  have h3 : [(10 : UInt8)].count 10 = 1 := rfl
  omega
/-- A head, plainly. -/
structure Hp where
  org : List UInt8
  size : Nat
  root : List UInt8
def Hp.hd (d : Hp) : Hd := ⟨⟨d.org.toArray⟩, d.size, d.root⟩
/-- That text is the note's. -/
structure IsNote (s : List UInt8) (d : Hp) (l : List Sp) : Prop where
  ok : d.hd.ok = true
  root : d.root.length = 32
  all : ∀ x ∈ l, x.sg.ok = true ∧ x.num < 4294967296
  few : l.length ≤ 8
  text : noteL d.hd (l.map Sp.sg) = s
theorem IsNote.len {s : List UInt8} {d : Hp} {l : List Sp} (h : IsNote s d l) : s.length ≤ 4000 := by
  rw [← h.text]
  have h1 := text_len h.ok h.root
  have h2 := lines_len (l := l.map Sp.sg) fun x hx => by
    obtain ⟨y, hy, rfl⟩ := List.mem_map.1 hx
    exact h.all y hy
  have := h.few
  simp only [noteL, List.length_append, List.length_cons, List.length_nil, List.length_map] at h2 ⊢
  omega
/-- A line, without its end. -/
def Sp.bare (s : Sp) : List UInt8 := [115, 105, 103, 32] ++ s.name ++ [32] ++ [s.kind] ++ [32] ++ Lib.decDigits s.num ++ [32] ++ enc s.bs
theorem line_bare (s : Sp) : s.sg.line = s.bare ++ [10] := rfl
theorem isSig_bare {s : Sp} (h : s.sg.ok = true) (hn : s.num < 4294967296) : IsSig s.bare s := ⟨h, hn, line_bare s⟩
theorem parts_lines : ∀ (l : List Sp), (∀ x ∈ l, x.sg.ok = true ∧ x.num < 4294967296) → parts 10 ((l.map Sp.sg).flatMap Sg.line) = l.map Sp.bare ++ [[]]
  | [], _ => rfl
  | x :: r, h => by
    have h1 := h x (List.mem_cons_self ..)
    rw [List.map_cons, List.flatMap_cons, line_bare, List.append_assoc, List.singleton_append, parts_app (sig_no10 (isSig_bare h1.1 h1.2)), parts_lines r fun y hy => h y (List.mem_cons_of_mem _ hy)]
    rfl
theorem note_parts {s : List UInt8} {d : Hp} {l : List Sp} (h : IsNote s d l) : parts 10 s = d.org :: Lib.decDigits d.size :: enc d.root :: [] :: (l.map Sp.bare ++ [[]]) := by
  have hok := h.ok
  unfold Hd.ok at hok
  rw [Bool.and_eq_true] at hok
  have n1 : (10 : UInt8) ∉ d.org := name_not (l := d.org) hok.1 (by decide)
  have e : s = d.org ++ 10 :: (Lib.decDigits d.size ++ 10 :: (enc d.root ++ 10 :: ([] ++ 10 :: (l.map Sp.sg).flatMap Sg.line))) := by
    rw [← h.text]
    simp [noteL, Hd.text, Hp.hd]
  rw [e, parts_app n1, parts_app (dec_not (by decide)), parts_app (enc_not (by decide)), parts_app (by simp), parts_lines l h.all]
theorem bares_inj : ∀ {l m : List Sp}, (∀ x ∈ l, x.sg.ok = true ∧ x.num < 4294967296) → (∀ x ∈ m, x.sg.ok = true ∧ x.num < 4294967296) → l.map Sp.bare = m.map Sp.bare → l = m
  | [], [], _, _, _ => rfl
  | [], y :: t, _, _, e => by simp at e
  | x :: r, [], _, _, e => by simp at e
  | x :: r, y :: t, hl, hm, e => by
    simp only [List.map_cons, List.cons.injEq] at e
    obtain ⟨e1, e2⟩ := e
    have h1 := hl x (List.mem_cons_self ..)
    have h2 := hm y (List.mem_cons_self ..)
    have k1 := isSig_bare h1.1 h1.2
    have k2 := isSig_bare h2.1 h2.2
    rw [e1] at k1
    rw [k1.inj k2, bares_inj (fun x hx => hl x (List.mem_cons_of_mem _ hx)) (fun x hx => hm x (List.mem_cons_of_mem _ hx)) e2]
theorem IsNote.inj {s : List UInt8} {d e : Hp} {l m : List Sp} (h : IsNote s d l) (k : IsNote s e m) : d = e ∧ l = m := by
  have q := (note_parts h).symm.trans (note_parts k)
  simp only [List.cons.injEq, true_and] at q
  obtain ⟨q1, q2, q3, q4⟩ := q
  have hd := h.ok
  have he := k.ok
  unfold Hd.ok at hd he
  rw [Bool.and_eq_true] at hd he
  obtain ⟨o1, s1, r1⟩ := d
  obtain ⟨o2, s2, r2⟩ := e
  simp only at q1 q2 q3
  have hd2 : (0 : Int) ≤ (s1 : Int) ∧ (s1 : Int) < 2147483648 := of_decide_eq_true hd.2
  have he2 : (0 : Int) ≤ (s2 : Int) ∧ (s2 : Int) < 2147483648 := of_decide_eq_true he.2
  have e2 := dec_inj (by omega) (by omega) q2
  have e3 := enc_inj q3
  exact ⟨by rw [q1, e2, e3], bares_inj h.all k.all (List.append_cancel_right q4)⟩
end Go.Proofs.YtekgjjanikicnaaDoor.Sx

namespace Go.Proofs.YtekgjjanikicnaaDoor.Sx
open Go
set_option maxRecDepth 100000
set_option linter.unusedSimpArgs false
set_option linter.unusedVariables false

/-- What a decoder hands back: nothing of its own, or a row of its own. -/
inductive DecO where
  | nil (ok : Bool)
  | row (bs : List UInt8) (xs : List Value)
def DecO.pr (s : List UInt8) : DecO → Prop
  | .nil ok => (ok = true → s = enc []) ∧ (ok = false → ∀ b, s ≠ enc b)
  | .row bs xs => s = enc bs ∧ xs.take bs.length = bs.map bv ∧ bs.length ≤ xs.length
def DecO.v : DecO → SV
  | .nil ok => .tup [.v (.slice none 0 0), .b ok]
  | .row bs xs => .tup [.s 0 0 bs.length xs.length, .b true]
def DecO.h : DecO → List (Nat × SObj)
  | .nil _ => []
  | .row _ xs => [(0, .row xs 5)]
structure DecS where
  i : Nat
  x : Nat
  n : Nat
  out : List UInt8
  row : Option (List Value)
def DecS.inv (s t : ByteArray) (fx : List Fact) (d : DecS) : SS :=
  match d.row with
  | none => ⟨[(0, .v (.string s)), (4, .v (.string t)), (5, .v (.slice none 0 0)), (6, .v (.int .u32 d.x)), (7, .v (.int .i64 d.n)), (18, .v (.int .i64 t.size)), (19, .v (.int .i64 d.i))], [], 0, fx⟩
  | some xs => ⟨[(0, .v (.string s)), (4, .v (.string t)), (5, .s 0 0 d.out.length xs.length), (6, .v (.int .u32 d.x)), (7, .v (.int .i64 d.n)), (18, .v (.int .i64 t.size)), (19, .v (.int .i64 d.i))], [(0, .row xs 5)], 1, fx⟩
structure DecS.Pr (tl : List UInt8) (d : DecS) : Prop where
  i : d.i ≤ tl.length
  x : d.x < 4294967296
  n : d.n ≤ 6 ∧ d.n % 2 = 0
  out : d.out.length ≤ d.i
  go : decGo tl 0 0 = (decGo (tl.drop d.i) (d.x % 2 ^ d.n) d.n).map (d.out ++ ·)
  row : match d.row with
    | none => d.out = []
    | some xs => xs.take d.out.length = d.out.map bv ∧ d.out.length ≤ xs.length
theorem acc6 (x k : Nat) (hk : k < 64) : bitz .or .u32 (IntKind.u32.wrap ((x : Int) * ((64 : Nat) : Int))) (IntKind.u32.wrap (k : Int)) = ((x * 64 % 4294967296 + k : Nat) : Int) := by
  rw [mul_nat, wrap_u32_nat, wrap_u32_nat, Nat.mod_eq_of_lt (a := k) (by omega), or_u32 _ _ (by omega) (by omega)]
  have e : x * 64 % 4294967296 = x % 67108864 * 2 ^ 6 := by omega
  rw [e, or_low 6 _ _ (by omega)]
theorem dec_num (x k n : Nat) (hk : k < 64) (hn : n ≤ 6) : (x * 64 % 4294967296 + k) % 2 ^ (n + 6) = x % 2 ^ n * 64 + k := by
  have : n = 0 ∨ n = 1 ∨ n = 2 ∨ n = 3 ∨ n = 4 ∨ n = 5 ∨ n = 6 := by omega
  rcases this with rfl | rfl | rfl | rfl | rfl | rfl | rfl <;> simp only [Nat.reducePow, Nat.reduceAdd, Nat.zero_add, Nat.pow_zero] <;> omega
theorem dec_num2 (x k n : Nat) (hk : k < 64) (hn : n ≤ 6) (h2 : 2 ≤ n) : (x * 64 % 4294967296 + k) % 2 ^ (n - 2) = (x % 2 ^ n * 64 + k) % 2 ^ (n - 2) ∧ (x * 64 % 4294967296 + k) / 2 ^ (n - 2) % 256 = (x % 2 ^ n * 64 + k) / 2 ^ (n - 2) ∧ (x % 2 ^ n * 64 + k) / 2 ^ (n - 2) < 256 := by
  have : n = 2 ∨ n = 3 ∨ n = 4 ∨ n = 5 ∨ n = 6 := by omega
  rcases this with rfl | rfl | rfl | rfl | rfl <;> simp only [Nat.reducePow, Nat.reduceSub, Nat.pow_zero] <;> omega
theorem byte6 (x k n : Nat) (hk : k < 64) (hn : n ≤ 6) (h2 : 2 ≤ n) : IntKind.u8.wrap (bitz .or .u32 (IntKind.u32.wrap ((x : Int) * ((64 : Nat) : Int))) (IntKind.u32.wrap (k : Int)) / ((pw .u32 ((n : Int) + 6 - 8) : Nat) : Int)) = ((UInt8.ofNat ((x % 2 ^ n * 64 + k) / 2 ^ (n - 2))).toNat : Int) := by
  obtain ⟨e1, e2, e3⟩ := dec_num2 x k n hk hn h2
  have ep : pw .u32 ((n : Int) + 6 - 8) = 2 ^ (n - 2) := by
    unfold pw
    rw [show ((n : Int) + 6 - 8).toNat = n - 2 by omega]
    congr 1
    simp only [IntKind.bits]
    omega
  rw [acc6 x k hk, ep, div_nat, wrap_u8_nat, e2]
  simp only [UInt8.toNat_ofNat']
  omega
theorem DecS.Pr.hi {tl : List UInt8} {d : DecS} (h : d.Pr tl) {c : UInt8} (hc : tl[d.i]? = some c) (hk : val6 c < 64) (h2 : 2 ≤ d.n) {row : Option (List Value)}
    (hr : match row with | none => d.out ++ [UInt8.ofNat ((d.x % 2 ^ d.n * 64 + val6 c) / 2 ^ (d.n - 2))] = [] | some xs => xs.take (d.out ++ [UInt8.ofNat ((d.x % 2 ^ d.n * 64 + val6 c) / 2 ^ (d.n - 2))]).length = (d.out ++ [UInt8.ofNat ((d.x % 2 ^ d.n * 64 + val6 c) / 2 ^ (d.n - 2))]).map bv ∧ (d.out ++ [UInt8.ofNat ((d.x % 2 ^ d.n * 64 + val6 c) / 2 ^ (d.n - 2))]).length ≤ xs.length) :
    DecS.Pr tl ⟨d.i + 1, d.x * 64 % 4294967296 + val6 c, d.n - 2, d.out ++ [UInt8.ofNat ((d.x % 2 ^ d.n * 64 + val6 c) / 2 ^ (d.n - 2))], row⟩ := by
  have hl := (List.getElem?_eq_some_iff.1 hc).1
  obtain ⟨hn, hm⟩ := h.n
  have ho := h.out
  refine ⟨hl, show d.x * 64 % 4294967296 + val6 c < 4294967296 by omega, show d.n - 2 ≤ 6 ∧ (d.n - 2) % 2 = 0 by omega, ?_, ?_, hr⟩
  · simp only [List.length_append, List.length_singleton]; omega
  rw [h.go, List.drop_eq_getElem_cons hl, ← Option.some.inj ((List.getElem?_eq_getElem hl).symm.trans hc).symm, dec_hi hk h2]
  obtain ⟨e1, e2, e3⟩ := dec_num2 d.x (val6 c) d.n hk hn h2
  simp only [e1, Option.map_map]
  congr 1
  funext l
  simp
theorem DecS.Pr.lo {tl : List UInt8} {d : DecS} (h : d.Pr tl) {c : UInt8} (hc : tl[d.i]? = some c) (hk : val6 c < 64) (h2 : d.n < 2) : DecS.Pr tl ⟨d.i + 1, d.x * 64 % 4294967296 + val6 c, d.n + 6, d.out, d.row⟩ := by
  have hl := (List.getElem?_eq_some_iff.1 hc).1
  obtain ⟨hn, hm⟩ := h.n
  have ho := h.out
  refine ⟨hl, show d.x * 64 % 4294967296 + val6 c < 4294967296 by omega, show d.n + 6 ≤ 6 ∧ (d.n + 6) % 2 = 0 by omega, show d.out.length ≤ d.i + 1 by omega, ?_, h.row⟩
  rw [h.go, List.drop_eq_getElem_cons hl, ← Option.some.inj ((List.getElem?_eq_getElem hl).symm.trans hc).symm, dec_lo hk h2, dec_num _ _ _ hk hn]
theorem DecS.Pr.no {tl : List UInt8} {d : DecS} (h : d.Pr tl) {c : UInt8} (hc : tl[d.i]? = some c) (hk : val6 c = 64) : decGo tl 0 0 = none := by
  have hl := (List.getElem?_eq_some_iff.1 hc).1
  rw [h.go, List.drop_eq_getElem_cons hl, ← Option.some.inj ((List.getElem?_eq_getElem hl).symm.trans hc).symm, dec_no hk]
  rfl
theorem tDecode0 (fx : List Fact) (s : ByteArray) (hs : s.size ≤ 1000000000) :
    Tri Tryd.prog 95 [.v (.string s)] [] 0 fx (RetE (α := DecO) 0 (DecO.pr s.data.toList) DecO.v DecO.h 1 (fun _ => [])) := by
  refine Tri.of_code tok Tryd.func95 rfl rfl rfl (by decide) rfl (Nat.le_of_ble_eq_true rfl) ?_
  conv => whnf
  repeat' ((first | refine And.intro (by repeat' first | exact trivial | refine And.intro rfl ?_) (And.intro (by first | exact fun _ h => h | exact fun _ => List.mem_cons_of_mem _ | exact fun _ => List.mem_append_right _) ?_) | (refine And.intro (fun h => ?_) (fun h => ?_) <;> (try simp only [n1, n2, n3, n4, n5, n6] at h) <;> first | (exfalso; omega) | (cases h; done) | skip) | refine And.intro (by omega) ?_ | refine Exists.intro _ (And.intro (by first | exact And.intro rfl rfl | exact Pl.den (by repeat constructor) | with_reducible rfl | exact cast_succ _ | assumption | exact (Int.toNat_of_nonneg (by omega)).symm | rfl) ?_) | refine hD _ _ ?_ | refine hL _ _ ?_ | (intro h; (try simp only [n1, n2, n3, n4, n5, n6] at h); first | (exfalso; omega) | (cases h; done) | skip)) <;> (conv => whnf))
  · refine ⟨.nil false, ⟨fun h => (by cases h), fun _ b e => ?_⟩, Ret.mk [] [] (Fold.refl _) rfl (fun _ _ _ => rfl) trivial (fun _ h => by cases h)⟩
    have := enc_length b
    rw [← e, list_size] at this
    omega
  refine Tri.use (tTrim fx s (by omega)).one [] rfl (args_ren rfl rfl) trivial (fun f hf => by first | exact hf | cases hf | simp_all) (fun u hu => ?_)
  conv => whnf
  repeat' ((first | refine And.intro (by repeat' first | exact trivial | refine And.intro rfl ?_) (And.intro (by first | exact fun _ h => h | exact fun _ => List.mem_cons_of_mem _ | exact fun _ => List.mem_append_right _) ?_) | (refine And.intro (fun h => ?_) (fun h => ?_) <;> (try simp only [n1, n2, n3, n4, n5, n6] at h) <;> first | (exfalso; omega) | (cases h; done) | skip) | refine And.intro (by omega) ?_ | refine Exists.intro _ (And.intro (by first | exact And.intro rfl rfl | exact Pl.den (by repeat constructor) | with_reducible rfl | exact cast_succ _ | assumption | exact (Int.toNat_of_nonneg (by omega)).symm | rfl) ?_) | refine hD _ _ ?_ | refine hL _ _ ?_ | (intro h; (try simp only [n1, n2, n3, n4, n5, n6] at h); first | (exfalso; omega) | (cases h; done) | skip)) <;> (conv => whnf))
  have h1 := Lib.trimSuffix_le s.data.toList [61]
  have h2 := Lib.trimSuffix_le (strip1 s.data.toList) [61]
  refine Tri.use (tTrim fx ⟨(strip1 s.data.toList).toArray⟩ (by rw [arr_size]; rw [list_size] at h1; exact Nat.le_trans h1 (by omega))).one [] rfl (args_ren rfl rfl) trivial (fun f hf => by first | exact hf | cases hf | simp_all) (fun u hu => ?_)
  conv => whnf
  repeat' ((first | refine And.intro (by repeat' first | exact trivial | refine And.intro rfl ?_) (And.intro (by first | exact fun _ h => h | exact fun _ => List.mem_cons_of_mem _ | exact fun _ => List.mem_append_right _) ?_) | (refine And.intro (fun h => ?_) (fun h => ?_) <;> (try simp only [n1, n2, n3, n4, n5, n6] at h) <;> first | (exfalso; omega) | (cases h; done) | skip) | refine And.intro (by omega) ?_ | refine Exists.intro _ (And.intro (by first | exact And.intro rfl rfl | exact Pl.den (by repeat constructor) | with_reducible rfl | exact cast_succ _ | assumption | exact (Int.toNat_of_nonneg (by omega)).symm | rfl) ?_) | refine hD _ _ ?_ | refine hL _ _ ?_ | (intro h; (try simp only [n1, n2, n3, n4, n5, n6] at h); first | (exfalso; omega) | (cases h; done) | skip)) <;> (conv => whnf))
  generalize htb : (⟨(strip1 (⟨(strip1 s.data.toList).toArray⟩ : ByteArray).data.toList).toArray⟩ : ByteArray) = t
  have htl : t.data.toList = strip1 (strip1 s.data.toList) := by rw [← htb]
  have hts : t.size ≤ s.size := by rw [← list_size, htl]; rw [list_size] at h1; exact Nat.le_trans h2 h1
  refine loop_by tok (DecS.inv s t fx) (DecS.Pr t.data.toList) (fun d => t.size - d.i) ⟨0, 0, 0, [], none⟩ [] ⟨Nat.zero_le _, Nat.zero_lt_succ _, ⟨Nat.zero_le _, rfl⟩, Nat.zero_le _, ?_, rfl⟩ ⟨rfl, ?_, trivial, fun f hf => hf⟩ ?_
  · show _ = Option.map ([] ++ ·) (decGo (List.drop 0 t.data.toList) 0 0)
    simp
  · exact ⟨fun _ _ _ => rfl, fun _ _ _ => rfl, fun _ _ _ => rfl, fun _ _ _ => rfl, fun _ _ _ => rfl, fun _ _ _ => rfl, fun _ _ _ => rfl, trivial⟩
  rintro ⟨i, x, n, out, row⟩ hd
  have hi := hd.i
  have hx := hd.x
  obtain ⟨hn, hm⟩ := hd.n
  have ho := hd.out
  have hg := hd.go
  have hr := hd.row
  simp only at hi hx hn hm ho hg hr
  rw [list_size] at hi
  have bad : ∀ {c : UInt8}, t.data.toList[i]? = some c → val6 c = 64 → ∀ b, s.data.toList ≠ enc b := fun hc hv b e => by
    have := dec_enc b
    rw [← e, ← htl, hd.no hc hv] at this
    cases this
  have fin : t.size ≤ i → decGo t.data.toList 0 0 = some out := fun h => by
    rw [hg, List.drop_of_length_le (by rw [list_size]; exact h)]
    simp [decGo]
  cases row with
  | none =>
    simp only [DecS.inv]
    conv => whnf
    repeat' ((first | refine And.intro (by repeat' first | exact trivial | refine And.intro rfl ?_) (And.intro (by first | exact fun _ h => h | exact fun _ => List.mem_cons_of_mem _ | exact fun _ => List.mem_append_right _) ?_) | (refine And.intro (fun h => ?_) (fun h => ?_) <;> (try simp only [n1, n2, n3, n4, n5, n6] at h) <;> first | (exfalso; omega) | (cases h; done) | skip) | refine And.intro (by omega) ?_ | refine Exists.intro _ (And.intro (by first | exact And.intro rfl rfl | exact Pl.den (by repeat constructor) | with_reducible rfl | exact cast_succ _ | assumption | exact (Int.toNat_of_nonneg (by omega)).symm | rfl) ?_) | refine hD _ _ ?_ | refine hL _ _ ?_ | (intro h; (try simp only [n1, n2, n3, n4, n5, n6] at h); first | (exfalso; omega) | (cases h; done) | skip)) <;> (conv => whnf))
    · have hc : t.data.toList[i]? = some (sbyte t i) := sbyte_get (by omega)
      by_cases hv : val6 (sbyte t i) = 64
      · refine Tri.use ((tIndex fx (sbyte t i)).one.reval (v' := .k .i64 (-1)) (fun _ => by rw [if_pos hv]; rfl)) [] rfl (args_ren rfl rfl) trivial (fun f hf => by first | exact hf | cases hf | simp_all) (fun u hu => ?_)
        conv => whnf
        repeat' ((first | refine And.intro (by repeat' first | exact trivial | refine And.intro rfl ?_) (And.intro (by first | exact fun _ h => h | exact fun _ => List.mem_cons_of_mem _ | exact fun _ => List.mem_append_right _) ?_) | (refine And.intro (fun h => ?_) (fun h => ?_) <;> (try simp only [n1, n2, n3, n4, n5, n6] at h) <;> first | (exfalso; omega) | (cases h; done) | skip) | refine And.intro (by omega) ?_ | refine Exists.intro _ (And.intro (by first | exact And.intro rfl rfl | exact Pl.den (by repeat constructor) | with_reducible rfl | exact cast_succ _ | assumption | exact (Int.toNat_of_nonneg (by omega)).symm | rfl) ?_) | refine hD _ _ ?_ | refine hL _ _ ?_ | (intro h; (try simp only [n1, n2, n3, n4, n5, n6] at h); first | (exfalso; omega) | (cases h; done) | skip)) <;> (conv => whnf))
        exact ⟨.nil false, ⟨fun h => (by cases h), fun _ => bad hc hv⟩, Ret.mk [] [] (Fold.refl _) rfl (fun _ _ _ => rfl) trivial (fun _ h => by cases h)⟩
      · have hk : val6 (sbyte t i) < 64 := by have := val6_le (sbyte t i); omega
        refine Tri.use ((tIndex fx (sbyte t i)).one.reval (v' := .v (.int .i64 (val6 (sbyte t i)))) (fun _ => by rw [if_neg hv])) [] rfl (args_ren rfl rfl) trivial (fun f hf => by first | exact hf | cases hf | simp_all) (fun u hu => ?_)
        conv => whnf
        repeat' ((first | refine And.intro (by repeat' first | exact trivial | refine And.intro rfl ?_) (And.intro (by first | exact fun _ h => h | exact fun _ => List.mem_cons_of_mem _ | exact fun _ => List.mem_append_right _) ?_) | (refine And.intro (fun h => ?_) (fun h => ?_) <;> (try simp only [n1, n2, n3, n4, n5, n6] at h) <;> first | (exfalso; omega) | (cases h; done) | skip) | refine And.intro (by omega) ?_ | refine Exists.intro _ (And.intro (by first | exact And.intro rfl rfl | exact Pl.den (by repeat constructor) | with_reducible rfl | exact cast_succ _ | assumption | exact (Int.toNat_of_nonneg (by omega)).symm | rfl) ?_) | refine hD _ _ ?_ | refine hL _ _ ?_ | (intro h; (try simp only [n1, n2, n3, n4, n5, n6] at h); first | (exfalso; omega) | (cases h; done) | skip)) <;> (conv => whnf))
        · rename_i _ m sp
          have hsp := h
          obtain rfl : out = [] := hr
          refine ⟨⟨i + 1, x * 64 % 4294967296 + val6 (sbyte t i), n - 2, [] ++ [UInt8.ofNat ((x % 2 ^ n * 64 + val6 (sbyte t i)) / 2 ^ (n - 2))], some (bv (UInt8.ofNat ((x % 2 ^ n * 64 + val6 (sbyte t i)) / 2 ^ (n - 2))) :: sp)⟩, [1], ⟨hd.hi hc hk (show 2 ≤ n by omega) ⟨rfl, by simp⟩, by simp only; omega⟩, rfl,
            ⟨fun _ _ _ => rfl, fun _ _ _ => rfl, SEq.ren rfl ?_, SEq.eq (by rw [acc6 _ _ hk]), SEq.eq (congrArg (Value.int .i64) (show ((n - 2 : Nat) : Int) = (n : Int) + 6 - 8 by omega)), fun _ _ _ => rfl, fun _ _ _ => rfl, trivial⟩, ⟨OSub.ren rfl ?_, trivial⟩, fun f hf => hf⟩
          · simp [ren, sg, hsp, Nat.add_comm]
          · simp only [renO]
            rw [byte6 _ _ _ hk hn (by omega)]
            rfl
        · have hn2 : n < 2 := by omega
          refine ⟨⟨i + 1, x * 64 % 4294967296 + val6 (sbyte t i), n + 6, out, none⟩, [], ⟨hd.lo hc hk hn2, by simp only; omega⟩, rfl,
            ⟨fun _ _ _ => rfl, fun _ _ _ => rfl, fun _ _ _ => rfl, SEq.eq (by rw [acc6 _ _ hk]), SEq.eq rfl, fun _ _ _ => rfl, fun _ _ _ => rfl, trivial⟩, trivial, fun f hf => hf⟩
    · refine Tri.use (tEncode fx none 0 [] (by simp) (by simp) ⟨fun _ => rfl, fun ad e => by cases e⟩).one [] rfl (args_ren rfl rfl) trivial (fun f hf => by first | exact hf | cases hf | simp_all) (fun u hu => ?_)
      conv => whnf
      repeat' ((first | refine And.intro (by repeat' first | exact trivial | refine And.intro rfl ?_) (And.intro (by first | exact fun _ h => h | exact fun _ => List.mem_cons_of_mem _ | exact fun _ => List.mem_append_right _) ?_) | (refine And.intro (fun h => ?_) (fun h => ?_) <;> (try simp only [n1, n2, n3, n4, n5, n6] at h) <;> first | (exfalso; omega) | (cases h; done) | skip) | refine And.intro (by omega) ?_ | refine Exists.intro _ (And.intro (by first | exact And.intro rfl rfl | exact Pl.den (by repeat constructor) | with_reducible rfl | exact cast_succ _ | assumption | exact (Int.toNat_of_nonneg (by omega)).symm | rfl) ?_) | refine hD _ _ ?_ | refine hL _ _ ?_ | (intro h; (try simp only [n1, n2, n3, n4, n5, n6] at h); first | (exfalso; omega) | (cases h; done) | skip)) <;> (conv => whnf))
      · exact ⟨.nil false, ⟨fun h => (by cases h), fun _ b e => by
          have := dec_enc b
          rw [← e, ← htl, fin (by omega)] at this
          obtain rfl := Option.some.inj this
          rw [show out = [] from hr] at e
          rw [e] at h
          simp at h⟩, Ret.mk [] [] (Fold.refl _) rfl (fun _ _ _ => rfl) trivial (fun _ h => by cases h)⟩
      · exact ⟨.nil true, ⟨fun _ => (by simpa using h : enc [] = s.data.toList).symm, fun h => (by cases h)⟩, Ret.mk [] [] (Fold.refl _) rfl (fun _ _ _ => rfl) trivial (fun _ h => by cases h)⟩
  | some xs =>
    obtain ⟨hr1, hr2⟩ := hr
    simp only [DecS.inv]
    conv => whnf
    repeat' ((first | refine And.intro (by repeat' first | exact trivial | refine And.intro rfl ?_) (And.intro (by first | exact fun _ h => h | exact fun _ => List.mem_cons_of_mem _ | exact fun _ => List.mem_append_right _) ?_) | (refine And.intro (fun h => ?_) (fun h => ?_) <;> (try simp only [n1, n2, n3, n4, n5, n6] at h) <;> first | (exfalso; omega) | (cases h; done) | skip) | refine And.intro (by omega) ?_ | refine Exists.intro _ (And.intro (by first | exact And.intro rfl rfl | exact Pl.den (by repeat constructor) | with_reducible rfl | exact cast_succ _ | assumption | exact (Int.toNat_of_nonneg (by omega)).symm | rfl) ?_) | refine hD _ _ ?_ | refine hL _ _ ?_ | (intro h; (try simp only [n1, n2, n3, n4, n5, n6] at h); first | (exfalso; omega) | (cases h; done) | skip)) <;> (conv => whnf))
    · have hc : t.data.toList[i]? = some (sbyte t i) := sbyte_get (by omega)
      by_cases hv : val6 (sbyte t i) = 64
      · refine Tri.use ((tIndex fx (sbyte t i)).one.reval (v' := .k .i64 (-1)) (fun _ => by rw [if_pos hv]; rfl)) [] rfl (args_ren rfl rfl) trivial (fun f hf => by first | exact hf | cases hf | simp_all) (fun u hu => ?_)
        conv => whnf
        repeat' ((first | refine And.intro (by repeat' first | exact trivial | refine And.intro rfl ?_) (And.intro (by first | exact fun _ h => h | exact fun _ => List.mem_cons_of_mem _ | exact fun _ => List.mem_append_right _) ?_) | (refine And.intro (fun h => ?_) (fun h => ?_) <;> (try simp only [n1, n2, n3, n4, n5, n6] at h) <;> first | (exfalso; omega) | (cases h; done) | skip) | refine And.intro (by omega) ?_ | refine Exists.intro _ (And.intro (by first | exact And.intro rfl rfl | exact Pl.den (by repeat constructor) | with_reducible rfl | exact cast_succ _ | assumption | exact (Int.toNat_of_nonneg (by omega)).symm | rfl) ?_) | refine hD _ _ ?_ | refine hL _ _ ?_ | (intro h; (try simp only [n1, n2, n3, n4, n5, n6] at h); first | (exfalso; omega) | (cases h; done) | skip)) <;> (conv => whnf))
        exact ⟨.nil false, ⟨fun h => (by cases h), fun _ => bad hc hv⟩, Ret.mk [] [] (Fold.drop (by simp)) rfl (fun _ _ _ => rfl) trivial (fun _ h => by cases h)⟩
      · have hk : val6 (sbyte t i) < 64 := by have := val6_le (sbyte t i); omega
        refine Tri.use ((tIndex fx (sbyte t i)).one.reval (v' := .v (.int .i64 (val6 (sbyte t i)))) (fun _ => by rw [if_neg hv])) [] rfl (args_ren rfl rfl) trivial (fun f hf => by first | exact hf | cases hf | simp_all) (fun u hu => ?_)
        conv => whnf
        repeat' ((first | refine And.intro (by repeat' first | exact trivial | refine And.intro rfl ?_) (And.intro (by first | exact fun _ h => h | exact fun _ => List.mem_cons_of_mem _ | exact fun _ => List.mem_append_right _) ?_) | (refine And.intro (fun h => ?_) (fun h => ?_) <;> (try simp only [n1, n2, n3, n4, n5, n6] at h) <;> first | (exfalso; omega) | (cases h; done) | skip) | refine And.intro (by omega) ?_ | refine Exists.intro _ (And.intro (by first | exact And.intro rfl rfl | exact Pl.den (by repeat constructor) | with_reducible rfl | exact cast_succ _ | assumption | exact (Int.toNat_of_nonneg (by omega)).symm | rfl) ?_) | refine hD _ _ ?_ | refine hL _ _ ?_ | (intro h; (try simp only [n1, n2, n3, n4, n5, n6] at h); first | (exfalso; omega) | (cases h; done) | skip)) <;> (conv => whnf))
        · refine ⟨⟨by omega, hr2, by omega, by simp [Value.oneCell']⟩, fun m sp hsp => ?_⟩
          conv => whnf
          repeat' ((first | refine And.intro (by repeat' first | exact trivial | refine And.intro rfl ?_) (And.intro (by first | exact fun _ h => h | exact fun _ => List.mem_cons_of_mem _ | exact fun _ => List.mem_append_right _) ?_) | (refine And.intro (fun h => ?_) (fun h => ?_) <;> (try simp only [n1, n2, n3, n4, n5, n6] at h) <;> first | (exfalso; omega) | (cases h; done) | skip) | refine And.intro (by omega) ?_ | refine Exists.intro _ (And.intro (by first | exact And.intro rfl rfl | exact Pl.den (by repeat constructor) | with_reducible rfl | exact cast_succ _ | assumption | exact (Int.toNat_of_nonneg (by omega)).symm | rfl) ?_) | refine hD _ _ ?_ | refine hL _ _ ?_ | (intro h; (try simp only [n1, n2, n3, n4, n5, n6] at h); first | (exfalso; omega) | (cases h; done) | skip)) <;> (conv => whnf))
          have e1 : (xs.take (out.length * 1) ++ [bv (UInt8.ofNat ((x % 2 ^ n * 64 + val6 (sbyte t i)) / 2 ^ (n - 2)))] ++ sp).take (out ++ [UInt8.ofNat ((x % 2 ^ n * 64 + val6 (sbyte t i)) / 2 ^ (n - 2))]).length = (out ++ [UInt8.ofNat ((x % 2 ^ n * 64 + val6 (sbyte t i)) / 2 ^ (n - 2))]).map bv := by
            rw [Nat.mul_one, hr1, List.map_append]
            rw [List.take_left' (by simp)]
            rfl
          have e2 : (xs.take (out.length * 1) ++ [bv (UInt8.ofNat ((x % 2 ^ n * 64 + val6 (sbyte t i)) / 2 ^ (n - 2)))] ++ sp).length = out.length + 1 + m := by
            rw [Nat.mul_one, hr1]
            simp [hsp]
            omega
          refine ⟨⟨i + 1, x * 64 % 4294967296 + val6 (sbyte t i), n - 2, out ++ [UInt8.ofNat ((x % 2 ^ n * 64 + val6 (sbyte t i)) / 2 ^ (n - 2))], some (xs.take (out.length * 1) ++ [bv (UInt8.ofNat ((x % 2 ^ n * 64 + val6 (sbyte t i)) / 2 ^ (n - 2)))] ++ sp)⟩, [2], ⟨hd.hi hc hk (show 2 ≤ n by omega) ⟨e1, by rw [e2]; simp⟩, by simp only; omega⟩, rfl,
            ⟨fun _ _ _ => rfl, fun _ _ _ => rfl, SEq.ren rfl ?_, SEq.eq (by rw [acc6 _ _ hk]), SEq.eq (congrArg (Value.int .i64) (show ((n - 2 : Nat) : Int) = (n : Int) + 6 - 8 by omega)), fun _ _ _ => rfl, fun _ _ _ => rfl, trivial⟩, ⟨OSub.ren rfl ?_, trivial⟩, fun f hf => hf⟩
          · simp only [ren, e2]
            simp [sg]
          · simp only [renO]
            rw [byte6 _ _ _ hk hn (by omega)]
            rfl
        · have hn2 : n < 2 := by omega
          refine ⟨⟨i + 1, x * 64 % 4294967296 + val6 (sbyte t i), n + 6, out, some xs⟩, [0], ⟨hd.lo hc hk hn2, by simp only; omega⟩, rfl,
            ⟨fun _ _ _ => rfl, fun _ _ _ => rfl, SEq.ren rfl rfl, SEq.eq (by rw [acc6 _ _ hk]), SEq.eq rfl, fun _ _ _ => rfl, fun _ _ _ => rfl, trivial⟩, ⟨OSub.ren rfl rfl, trivial⟩, fun f hf => hf⟩
    · refine Tri.lend 0 (xs := xs) (T := 5) (fun b => [.v (.slice (some ⟨b, 0, none⟩) out.length xs.length)]) (List.mem_cons_self ..) rowOf.row (fun _ => rfl) fun b => ?_
      refine Tri.use (tEncode _ _ _ out (by omega) hr2 (BytesAt.row (List.mem_cons_self ..) (by rw [List.drop_zero, hr1]))).one [] rfl (fun _ _ _ => rfl) trivial (fun f hf => hf) fun u hu => ?_
      conv => whnf
      refine And.intro rfl ?_
      conv => whnf
      repeat' ((first | refine And.intro (by repeat' first | exact trivial | refine And.intro rfl ?_) (And.intro (by first | exact fun _ h => h | exact fun _ => List.mem_cons_of_mem _ | exact fun _ => List.mem_append_right _) ?_) | (refine And.intro (fun h => ?_) (fun h => ?_) <;> (try simp only [n1, n2, n3, n4, n5, n6] at h) <;> first | (exfalso; omega) | (cases h; done) | skip) | refine And.intro (by omega) ?_ | refine Exists.intro _ (And.intro (by first | exact And.intro rfl rfl | exact Pl.den (by repeat constructor) | with_reducible rfl | exact cast_succ _ | assumption | exact (Int.toNat_of_nonneg (by omega)).symm | rfl) ?_) | refine hD _ _ ?_ | refine hL _ _ ?_ | (intro h; (try simp only [n1, n2, n3, n4, n5, n6] at h); first | (exfalso; omega) | (cases h; done) | skip)) <;> (conv => whnf))
      · exact ⟨.nil false, ⟨fun h => (by cases h), fun _ b e => by
          have := dec_enc b
          rw [← e, ← htl, fin (by omega)] at this
          obtain rfl := Option.some.inj this
          rw [e] at h
          simp at h⟩, Ret.mk [] [] (Fold.drop (by simp)) rfl (fun _ _ _ => rfl) trivial (fun _ h => by cases h)⟩
      · exact ⟨.row out xs, ⟨(by simpa using h : enc out = s.data.toList).symm, hr1, hr2⟩, Ret.mk [0] _ (Fold.refl _) rfl (SEq.ren rfl rfl) ⟨OSub.ren rfl rfl, trivial⟩ (fun _ h => by cases h)⟩
/-- What a decoder hands back, told by facts. -/
structure Dc where
  A : Option Addr
  bs : List UInt8
  cap : Nat
  ok : Bool
  fs : List Fact
structure Dc.pr (s : List UInt8) (x : Dc) : Prop where
  yes : x.ok = true → s = enc x.bs
  no : x.ok = false → x.bs = [] ∧ ∀ b, s ≠ enc b
  at_ : BytesAt x.fs x.A x.bs
  cap : x.bs.length ≤ x.cap
def Dc.v : Dc → SV
  | ⟨A, bs, cap, ok, _⟩ => .tup [.v (.slice A bs.length cap), .b ok]
def Dc.f : Dc → List Fact
  | ⟨_, _, _, _, fs⟩ => fs
theorem appFK_intro : ∀ {a b : List Fact} {k : List Fact → Prop}, k (a ++ b) → appFK a b k
  | [], b, k, h => h
  | x :: r, b, k, h => appFK_intro (a := r) (k := fun m => k (x :: m)) h
theorem Tri.dc {n : Nat} {args : List SV} {fx : List Fact} {s : List UInt8} (T : Tri Tryd.prog n args [] 0 fx (RetE (α := DecO) 0 (DecO.pr s) DecO.v DecO.h 1 (fun _ => []))) :
    Tri Tryd.prog n args [] 0 fx (RetE (α := Dc) 0 (Dc.pr s) Dc.v (fun _ => []) 0 Dc.f) := by
  refine T.conv.share2 fun y h m f ⟨a, hp, e1, e2, e3, e4⟩ => ?_
  subst e1 e2 e3 e4
  cases a with
  | nil ok =>
    left
    refine ⟨⟨none, [], 0, ok, []⟩, ⟨hp.1, fun e => ⟨rfl, hp.2 e⟩, ⟨fun _ => rfl, fun ad e => by cases e⟩, Nat.le_refl _⟩, ?_⟩
    exact Ret.mk [] [] (Fold.refl _) rfl (fun _ _ _ => rfl) trivial (fun _ h => h)
  | row bs xs =>
    right
    obtain ⟨h1, h2, h3⟩ := hp
    refine ⟨0, xs, 5, List.mem_cons_self .., fun b => ⟨.tup [.v (.slice (some ⟨b, 0, none⟩) bs.length xs.length), .b true], fun ρ e => by simp only [DecO.v, den, denL_cons, denL_nil, e], ?_⟩⟩
    refine ⟨⟨some ⟨b, 0, none⟩, bs, xs.length, true, [rowFact b xs 5]⟩, ⟨fun _ => h1, fun e => (by cases e), BytesAt.row (List.mem_cons_self ..) (by rw [List.drop_zero, h2]), h3⟩, ?_⟩
    exact Ret.mk [] [] (Fold.refl _) rfl (fun _ _ _ => rfl) trivial (fun _ h => h)
theorem tDecode (fx : List Fact) (s : ByteArray) (hs : s.size ≤ 1000000000) : Tri Tryd.prog 95 [.v (.string s)] [] 0 fx (RetE (α := Dc) 0 (Dc.pr s.data.toList) Dc.v (fun _ => []) 0 Dc.f) := (tDecode0 fx s hs).dc
end Go.Proofs.YtekgjjanikicnaaDoor.Sx

namespace Go.Proofs.YtekgjjanikicnaaDoor.Sx
open Go
set_option maxRecDepth 100000
set_option linter.unusedSimpArgs false
set_option linter.unusedVariables false

theorem rdec_append : ∀ (a b : List UInt8), a.length % 4 = 0 → rdec (a ++ b) = rdec a ++ rdec b
  | [], b, _ => by simp [rdec]
  | [_], _, h => by simp at h
  | [_, _], _, h => by simp at h
  | [_, _, _], _, h => by simp at h
  | x :: y :: z :: w :: r, b, h => by
    simp only [List.length_cons] at h
    simp only [List.cons_append, rdec]
    rw [rdec_append r b (by omega)]
/-- The number of the signs from i on, j of them. -/
def nacc (s : ByteArray) (i : Nat) : Nat → Nat
  | 0 => 0
  | j + 1 => nacc s i j * 64 + val0 (sbyte s (i + j))
theorem nacc_lt (s : ByteArray) (i : Nat) : ∀ j, nacc s i j < 64 ^ j
  | 0 => Nat.zero_lt_one
  | j + 1 => by
    have := nacc_lt s i j
    have := val0_lt (sbyte s (i + j))
    rw [Nat.pow_succ]
    simp only [nacc]
    omega
theorem rdec_four {s : ByteArray} {i : Nat} (hi : i + 4 ≤ s.size) (h4 : i % 4 = 0) : rdec (s.data.toList.take (i + 4)) = rdec (s.data.toList.take i) ++ [UInt8.ofNat (nacc s i 4 / 65536), UInt8.ofNat (nacc s i 4 / 256 % 256), UInt8.ofNat (nacc s i 4 % 256)] := by
  have e : s.data.toList.take (i + 4) = s.data.toList.take i ++ [sbyte s i, sbyte s (i + 1), sbyte s (i + 2), sbyte s (i + 3)] := by
    rw [show i + 4 = (i + 1) + 3 by omega, take3 (i := i + 1) (sbyte_get (by omega)) (sbyte_get (by omega)) (sbyte_get (by omega)), take1 (sbyte_get (by omega)), List.append_assoc]
    rfl
  rw [e, rdec_append _ _ (by rw [List.length_take, list_size, Nat.min_eq_left (by omega)]; exact h4)]
  simp only [rdec, nacc, Nat.zero_mul, Nat.zero_add, Nat.add_zero]
theorem ofn (v : Nat) : IntKind.u8.wrap (v : Int) = ((UInt8.ofNat v).toNat : Int) := by
  rw [wrap_u8_nat]
  simp
theorem ofn3 (v : Nat) : Value.int IntKind.u8 (IntKind.u8.wrap ((v : Int) / 65536)) = bv (UInt8.ofNat (v / 65536)) ∧ Value.int IntKind.u8 (IntKind.u8.wrap ((v : Int) / 256 % 256)) = bv (UInt8.ofNat (v / 256 % 256)) ∧
    Value.int IntKind.u8 (IntKind.u8.wrap ((v : Int) % 256)) = bv (UInt8.ofNat (v % 256)) := by
  have e1 : ((v : Int) / 65536) = ((v / 65536 : Nat) : Int) := by omega
  have e2 : ((v : Int) / 256 % 256) = ((v / 256 % 256 : Nat) : Int) := by omega
  have e3 : ((v : Int) % 256) = ((v % 256 : Nat) : Int) := by omega
  rw [e1, e2, e3, ofn, ofn, ofn]
  exact ⟨rfl, rfl, rfl⟩
theorem rcut_is {s o : List UInt8} {k : Nat} (hk : k ≤ 2) (hkL : k ≤ o.length) (h1 : 1 ≤ k → s[s.length - 1]? = some 61) (h2 : k = 2 → s[s.length - 2]? = some 61) (he : k = 2 ∨ k = o.length ∨ s[s.length - 1 - k]? ≠ some 61) : rcut s o = k := by
  unfold rcut
  rcases (show k = 0 ∨ k = 1 ∨ k = 2 by omega) with rfl | rfl | rfl
  · rw [if_neg]
    rintro ⟨h3, h4⟩
    rcases he with he | he | he
    · omega
    · omega
    · exact he h4
  · rw [if_pos ⟨by omega, h1 (by omega)⟩, if_neg]
    rintro ⟨h3, h4⟩
    rcases he with he | he | he
    · omega
    · omega
    · exact he h4
  · rw [if_pos ⟨by omega, h1 (by omega)⟩, if_pos ⟨by omega, h2 rfl⟩]
/-- Two rows of the caller's own, compared. -/
theorem tSameRows (fx : List Fact) (l m : List UInt8) (xs ys : List Value) (c d : Nat) (hl : l.length < 9223372036854775808) :
    Tri Tryd.prog 42 [.s 0 0 l.length c, .s 1 0 m.length d] [(0, .row (l.map bv ++ xs) 5), (1, .row (m.map bv ++ ys) 5)] 2 fx (RetE (α := Unit) 2 (fun _ => True) (fun _ => .v (.bool (decide (l = m)))) (fun _ => [(0, .row (l.map bv ++ xs) 5), (1, .row (m.map bv ++ ys) 5)]) 2 (fun _ => [])) := by
  refine Tri.lend 0 (xs := l.map bv ++ xs) (T := 5) (fun b => [.v (.slice (some ⟨b, 0, none⟩) l.length c), .s 1 0 m.length d]) (List.mem_cons_self ..) rowOf.row (fun _ => rfl) fun b1 => ?_
  refine Tri.lend 1 (xs := m.map bv ++ ys) (T := 5) (fun b => [.v (.slice (some ⟨b1, 0, none⟩) l.length c), .v (.slice (some ⟨b, 0, none⟩) m.length d)]) (List.mem_cons_self ..) rowOf.row (fun _ => rfl) fun b2 => ?_
  refine Tri.use (tSame _ (some ⟨b1, 0, none⟩) (some ⟨b2, 0, none⟩) c d l m (BytesAt.row (List.mem_cons_of_mem _ (List.mem_cons_self ..)) (by rw [List.drop_zero, List.take_left' (by simp)])) (BytesAt.row (List.mem_cons_self ..) (by rw [List.drop_zero, List.take_left' (by simp)])) hl).one [] rfl (fun _ _ _ => rfl) trivial (fun f hf => hf) fun u hu => ?_
  conv => whnf
  refine And.intro rfl ?_
  conv => whnf
  refine And.intro rfl ?_
  exact ⟨(), trivial, Ret.mk [0, 1] _ (Fold.refl _) rfl (fun _ _ _ => rfl) ⟨OSub.ren rfl rfl, OSub.ren rfl rfl, trivial⟩ (fun _ h => nomatch h)⟩
structure RdS where
  i : Nat
  row : Option (List Value)
def RdS.out (s : ByteArray) (d : RdS) : SV := match d.row with
  | none => .v (.slice none 0 0)
  | some xs => .s 0 0 (d.i / 4 * 3) xs.length
def RdS.hp (d : RdS) : List (Nat × SObj) := match d.row with
  | none => []
  | some xs => [(0, .row xs 5)]
def RdS.nx (d : RdS) : Nat := match d.row with
  | none => 0
  | some _ => 1
def RdS.inv (s : ByteArray) (fx : List Fact) (d : RdS) : SS := match d.row with
  | none => ⟨[(0, .v (.string s)), (4, .v (.slice none 0 0)), (5, .v (.int .i64 d.i))], [], 0, fx⟩
  | some xs => ⟨[(0, .v (.string s)), (4, .s 0 0 (d.i / 4 * 3) xs.length), (5, .v (.int .i64 d.i))], [(0, .row xs 5)], 1, fx⟩
structure RdS.Pr (s : ByteArray) (d : RdS) : Prop where
  i : d.i ≤ s.size
  four : d.i % 4 = 0
  row : match d.row with
    | none => d.i = 0
    | some xs => xs.take (d.i / 4 * 3) = (rdec (s.data.toList.take d.i)).map bv ∧ d.i / 4 * 3 ≤ xs.length
theorem tRefDecode0 (fx : List Fact) (s : ByteArray) (hs : s.size ≤ 1000000000) :
    Tri Tryd.prog 98 [.v (.string s)] [] 0 fx (RetE (α := DecO) 0 (DecO.pr s.data.toList) DecO.v DecO.h 1 (fun _ => [])) := by
  refine Tri.of_code tok Tryd.func98 rfl rfl rfl (by decide) rfl (Nat.le_of_ble_eq_true rfl) ?_
  conv => whnf
  repeat' ((first | refine And.intro (by repeat' first | exact trivial | refine And.intro rfl ?_) (And.intro (by first | exact fun _ h => h | exact fun _ => List.mem_cons_of_mem _ | exact fun _ => List.mem_append_right _) ?_) | (refine And.intro (fun h => ?_) (fun h => ?_) <;> (try simp only [n1, n2, n3, n4, n5, n6] at h) <;> first | (exfalso; omega) | (cases h; done) | skip) | refine And.intro (by omega) ?_ | refine Exists.intro _ (And.intro (by first | exact And.intro rfl rfl | exact Pl.den (by repeat constructor) | with_reducible rfl | exact cast_succ _ | assumption | exact (Int.toNat_of_nonneg (by omega)).symm | rfl) ?_) | refine hD _ _ ?_ | refine hL _ _ ?_ | (intro h; (try simp only [n1, n2, n3, n4, n5, n6] at h); first | (exfalso; omega) | (cases h; done) | skip)) <;> (conv => whnf))
  · refine ⟨.nil false, ⟨fun h => (by cases h), fun _ b e => ?_⟩, Ret.mk [] [] (Fold.refl _) rfl (fun _ _ _ => rfl) trivial (fun _ h => by cases h)⟩
    have := enc_length b
    rw [← e, list_size] at this
    omega
  refine loop_by tok (RdS.inv s fx) (RdS.Pr s) (fun d => s.size - d.i) ⟨0, none⟩ [] ⟨Nat.zero_le _, rfl, rfl⟩ ⟨rfl, ?_, trivial, fun f hf => hf⟩ ?_
  · exact ⟨fun _ _ _ => rfl, fun _ _ _ => rfl, fun _ _ _ => rfl, trivial⟩
  rintro ⟨i, row⟩ hd
  have hi := hd.i
  have h4 := hd.four
  have hr := hd.row
  simp only at hi h4 hr
  cases row with
  | none =>
    obtain rfl : i = 0 := hr
    simp only [RdS.inv]
    conv => whnf
    repeat' ((first | refine And.intro (by repeat' first | exact trivial | refine And.intro rfl ?_) (And.intro (by first | exact fun _ h => h | exact fun _ => List.mem_cons_of_mem _ | exact fun _ => List.mem_append_right _) ?_) | (refine And.intro (fun h => ?_) (fun h => ?_) <;> (try simp only [n1, n2, n3, n4, n5, n6] at h) <;> first | (exfalso; omega) | (cases h; done) | skip) | refine And.intro (by omega) ?_ | refine Exists.intro _ (And.intro (by first | exact And.intro rfl rfl | exact Pl.den (by repeat constructor) | with_reducible rfl | exact cast_succ _ | assumption | exact (Int.toNat_of_nonneg (by omega)).symm | rfl) ?_) | refine hD _ _ ?_ | refine hL _ _ ?_ | (intro h; (try simp only [n1, n2, n3, n4, n5, n6] at h); first | (exfalso; omega) | (cases h; done) | skip)) <;> (conv => whnf))
    · refine loop_by tok (α := Nat) (fun j => ⟨[(0, .v (.string s)), (4, .v (.slice none 0 0)), (5, .v (.int .i64 (0 : Nat))), (6, .v (.int .i64 (nacc s 0 j))), (7, .v (.int .i64 (0 + j : Nat)))], [], 0, fx⟩) (fun j => j ≤ 4) (fun j => 4 - j) 0 [] (by omega) ⟨rfl, ?_, trivial, fun f hf => hf⟩ ?_
      · exact ⟨fun _ _ _ => rfl, fun _ _ _ => rfl, fun _ _ _ => rfl, fun _ _ _ => rfl, fun _ _ _ => rfl, trivial⟩
      rintro j hj
      have hna := nacc_lt s 0 j
      have hnb : nacc s 0 j < 16777216 := by
        have : (64 : Nat) ^ j ≤ 64 ^ 4 := Nat.pow_le_pow_right (by decide) hj
        omega
      by_cases hj4 : j < 4
      · have hk := val0_lt (sbyte s (0 + j))
        conv => whnf
        repeat' ((first | refine And.intro (by repeat' first | exact trivial | refine And.intro rfl ?_) (And.intro (by first | exact fun _ h => h | exact fun _ => List.mem_cons_of_mem _ | exact fun _ => List.mem_append_right _) ?_) | (refine And.intro (fun h => ?_) (fun h => ?_) <;> (try simp only [n1, n2, n3, n4, n5, n6] at h) <;> first | (exfalso; omega) | (cases h; done) | skip) | refine And.intro (by omega) ?_ | refine Exists.intro _ (And.intro (by first | exact And.intro rfl rfl | exact Pl.den (by repeat constructor) | with_reducible rfl | exact cast_succ _ | assumption | exact (Int.toNat_of_nonneg (by omega)).symm | rfl) ?_) | refine hD _ _ ?_ | refine hL _ _ ?_ | (intro h; (try simp only [n1, n2, n3, n4, n5, n6] at h); first | (exfalso; omega) | (cases h; done) | skip)) <;> (conv => whnf))
        by_cases hv : val6 (sbyte s (0 + j)) = 64
        · have hv0 : val0 (sbyte s (0 + j)) = 0 := by unfold val0; rw [if_pos hv]
          refine Tri.use ((tValue fx (sbyte s (0 + j))).one.reval (v' := .k .i64 (-1)) (fun _ => by rw [if_pos hv]; rfl)) [] rfl (args_ren rfl rfl) trivial (fun f hf => by first | exact hf | cases hf | simp_all) (fun u hu => ?_)
          conv => whnf
          repeat' ((first | refine And.intro (by repeat' first | exact trivial | refine And.intro rfl ?_) (And.intro (by first | exact fun _ h => h | exact fun _ => List.mem_cons_of_mem _ | exact fun _ => List.mem_append_right _) ?_) | (refine And.intro (fun h => ?_) (fun h => ?_) <;> (try simp only [n1, n2, n3, n4, n5, n6] at h) <;> first | (exfalso; omega) | (cases h; done) | skip) | refine And.intro (by omega) ?_ | refine Exists.intro _ (And.intro (by first | exact And.intro rfl rfl | exact Pl.den (by repeat constructor) | with_reducible rfl | exact cast_succ _ | assumption | exact (Int.toNat_of_nonneg (by omega)).symm | rfl) ?_) | refine hD _ _ ?_ | refine hL _ _ ?_ | (intro h; (try simp only [n1, n2, n3, n4, n5, n6] at h); first | (exfalso; omega) | (cases h; done) | skip)) <;> (conv => whnf))
          refine ⟨j + 1, [], ⟨by omega, by omega⟩, rfl, ⟨fun _ _ _ => rfl, fun _ _ _ => rfl, fun _ _ _ => rfl, SEq.eq (congrArg (Value.int .i64) ?_), fun _ _ _ => rfl, trivial⟩, trivial, fun f hf => hf⟩
          simp only [nacc, hv0]
          omega
        · have hv0 : val0 (sbyte s (0 + j)) = val6 (sbyte s (0 + j)) := by unfold val0; rw [if_neg hv]
          refine Tri.use ((tValue fx (sbyte s (0 + j))).one.reval (v' := .v (.int .i64 (val0 (sbyte s (0 + j))))) (fun _ => by rw [if_neg hv, hv0])) [] rfl (args_ren rfl rfl) trivial (fun f hf => by first | exact hf | cases hf | simp_all) (fun u hu => ?_)
          conv => whnf
          repeat' ((first | refine And.intro (by repeat' first | exact trivial | refine And.intro rfl ?_) (And.intro (by first | exact fun _ h => h | exact fun _ => List.mem_cons_of_mem _ | exact fun _ => List.mem_append_right _) ?_) | (refine And.intro (fun h => ?_) (fun h => ?_) <;> (try simp only [n1, n2, n3, n4, n5, n6] at h) <;> first | (exfalso; omega) | (cases h; done) | skip) | refine And.intro (by omega) ?_ | refine Exists.intro _ (And.intro (by first | exact And.intro rfl rfl | exact Pl.den (by repeat constructor) | with_reducible rfl | exact cast_succ _ | assumption | exact (Int.toNat_of_nonneg (by omega)).symm | rfl) ?_) | refine hD _ _ ?_ | refine hL _ _ ?_ | (intro h; (try simp only [n1, n2, n3, n4, n5, n6] at h); first | (exfalso; omega) | (cases h; done) | skip)) <;> (conv => whnf))
          refine ⟨j + 1, [], ⟨by omega, by omega⟩, rfl, ⟨fun _ _ _ => rfl, fun _ _ _ => rfl, fun _ _ _ => rfl, SEq.eq (congrArg (Value.int .i64) ?_), fun _ _ _ => rfl, trivial⟩, trivial, fun f hf => hf⟩
          simp only [nacc]
          omega
      · obtain rfl : j = 4 := by omega
        conv => whnf
        repeat' ((first | refine And.intro (by repeat' first | exact trivial | refine And.intro rfl ?_) (And.intro (by first | exact fun _ h => h | exact fun _ => List.mem_cons_of_mem _ | exact fun _ => List.mem_append_right _) ?_) | (refine And.intro (fun h => ?_) (fun h => ?_) <;> (try simp only [n1, n2, n3, n4, n5, n6] at h) <;> first | (exfalso; omega) | (cases h; done) | skip) | refine And.intro (by omega) ?_ | refine Exists.intro _ (And.intro (by first | exact And.intro rfl rfl | exact Pl.den (by repeat constructor) | with_reducible rfl | exact cast_succ _ | assumption | exact (Int.toNat_of_nonneg (by omega)).symm | rfl) ?_) | refine hD _ _ ?_ | refine hL _ _ ?_ | (intro h; (try simp only [n1, n2, n3, n4, n5, n6] at h); first | (exfalso; omega) | (cases h; done) | skip)) <;> (conv => whnf))
        rename_i _ m sp
        have hsp := h
        obtain ⟨b1, b2, b3⟩ := ofn3 (nacc s 0 4)
        have hr4 := rdec_four (s := s) (i := 0) (by omega) rfl
        refine ⟨⟨0 + 4, some ([bv (UInt8.ofNat (nacc s 0 4 / 65536)), bv (UInt8.ofNat (nacc s 0 4 / 256 % 256)), bv (UInt8.ofNat (nacc s 0 4 % 256))] ++ sp)⟩, [1], ⟨⟨by simp only; omega, show (0 + 4) % 4 = 0 from rfl, ⟨?_, by simp⟩⟩, by simp only; omega⟩, rfl, ⟨fun _ _ _ => rfl, SEq.ren rfl ?_, fun _ _ _ => rfl, trivial⟩, ⟨OSub.ren rfl ?_, trivial⟩, fun f hf => hf⟩
        · rw [hr4]; simp [rdec]
        · simp [ren, sg, hsp]; omega
        · simp only [renO, b1, b2, b3]
    · refine loop_rounds 1 (round_next tok ?_)
      conv => whnf
      repeat' ((first | refine And.intro (by repeat' first | exact trivial | refine And.intro rfl ?_) (And.intro (by first | exact fun _ h => h | exact fun _ => List.mem_cons_of_mem _ | exact fun _ => List.mem_append_right _) ?_) | (refine And.intro (fun h => ?_) (fun h => ?_) <;> (try simp only [n1, n2, n3, n4, n5, n6] at h) <;> first | (exfalso; omega) | (cases h; done) | skip) | refine And.intro (by omega) ?_ | refine Exists.intro _ (And.intro (by first | exact And.intro rfl rfl | exact Pl.den (by repeat constructor) | with_reducible rfl | exact cast_succ _ | assumption | exact (Int.toNat_of_nonneg (by omega)).symm | rfl) ?_) | refine hD _ _ ?_ | refine hL _ _ ?_ | (intro h; (try simp only [n1, n2, n3, n4, n5, n6] at h); first | (exfalso; omega) | (cases h; done) | skip)) <;> (conv => whnf))
      refine Tri.use (tRefEncode fx none 0 [] (by simp) ⟨fun _ => rfl, fun ad e => by cases e⟩).one [] rfl (args_ren rfl rfl) trivial (fun f hf => by first | exact hf | cases hf | simp_all) (fun u hu => ?_)
      conv => whnf
      repeat' ((first | refine And.intro (by repeat' first | exact trivial | refine And.intro rfl ?_) (And.intro (by first | exact fun _ h => h | exact fun _ => List.mem_cons_of_mem _ | exact fun _ => List.mem_append_right _) ?_) | (refine And.intro (fun h => ?_) (fun h => ?_) <;> (try simp only [n1, n2, n3, n4, n5, n6] at h) <;> first | (exfalso; omega) | (cases h; done) | skip) | refine And.intro (by omega) ?_ | refine Exists.intro _ (And.intro (by first | exact And.intro rfl rfl | exact Pl.den (by repeat constructor) | with_reducible rfl | exact cast_succ _ | assumption | exact (Int.toNat_of_nonneg (by omega)).symm | rfl) ?_) | refine hD _ _ ?_ | refine hL _ _ ?_ | (intro h; (try simp only [n1, n2, n3, n4, n5, n6] at h); first | (exfalso; omega) | (cases h; done) | skip)) <;> (conv => whnf))
      refine Tri.use (tSameRows fx (enc []) s.data.toList _ _ _ _ (show 0 < 9223372036854775808 by omega)) [0,1] rfl (args_ren rfl rfl) ⟨OSub.ren rfl rfl, OSub.ren rfl rfl, trivial⟩ (fun f hf => by first | exact hf | cases hf | simp_all) (fun u hu => ?_)
      conv => whnf
      repeat' ((first | refine And.intro (by repeat' first | exact trivial | refine And.intro rfl ?_) (And.intro (by first | exact fun _ h => h | exact fun _ => List.mem_cons_of_mem _ | exact fun _ => List.mem_append_right _) ?_) | (refine And.intro (fun h => ?_) (fun h => ?_) <;> (try simp only [n1, n2, n3, n4, n5, n6] at h) <;> first | (exfalso; omega) | (cases h; done) | skip) | refine And.intro (by omega) ?_ | refine Exists.intro _ (And.intro (by first | exact And.intro rfl rfl | exact Pl.den (by repeat constructor) | with_reducible rfl | exact cast_succ _ | assumption | exact (Int.toNat_of_nonneg (by omega)).symm | rfl) ?_) | refine hD _ _ ?_ | refine hL _ _ ?_ | (intro h; (try simp only [n1, n2, n3, n4, n5, n6] at h); first | (exfalso; omega) | (cases h; done) | skip)) <;> (conv => whnf))
      · exact ⟨.nil false, ⟨fun h => (by cases h), fun _ b e => by
          have h0 := rcut_enc b
          rw [← e] at h0
          have h1 := rdec_length s.data.toList
          rw [list_size, show s.size / 4 * 3 = 0 by omega] at h1
          rw [List.length_eq_zero_iff.1 h1] at h0
          simp only [List.take_nil] at h0
          subst h0
          exact absurd e.symm h⟩, Ret.mk [] [] (Fold.drop (by simp)) rfl (fun _ _ _ => rfl) trivial (fun _ h => by cases h)⟩
      · exact ⟨.nil true, ⟨fun _ => h.symm, fun h => (by cases h)⟩, Ret.mk [] [] (Fold.drop (by simp)) rfl (fun _ _ _ => rfl) trivial (fun _ h => by cases h)⟩
  | some xs =>
    obtain ⟨hr1, hr2⟩ := hr
    simp only [RdS.inv]
    conv => whnf
    repeat' ((first | refine And.intro (by repeat' first | exact trivial | refine And.intro rfl ?_) (And.intro (by first | exact fun _ h => h | exact fun _ => List.mem_cons_of_mem _ | exact fun _ => List.mem_append_right _) ?_) | (refine And.intro (fun h => ?_) (fun h => ?_) <;> (try simp only [n1, n2, n3, n4, n5, n6] at h) <;> first | (exfalso; omega) | (cases h; done) | skip) | refine And.intro (by omega) ?_ | refine Exists.intro _ (And.intro (by first | exact And.intro rfl rfl | exact Pl.den (by repeat constructor) | with_reducible rfl | exact cast_succ _ | assumption | exact (Int.toNat_of_nonneg (by omega)).symm | rfl) ?_) | refine hD _ _ ?_ | refine hL _ _ ?_ | (intro h; (try simp only [n1, n2, n3, n4, n5, n6] at h); first | (exfalso; omega) | (cases h; done) | skip)) <;> (conv => whnf))
    · refine loop_by tok (α := Nat) (fun j => ⟨[(0, .v (.string s)), (4, .s 0 0 (i / 4 * 3) xs.length), (5, .v (.int .i64 (i : Nat))), (6, .v (.int .i64 (nacc s i j))), (7, .v (.int .i64 (i + j : Nat)))], [(0, .row xs 5)], 1, fx⟩) (fun j => j ≤ 4) (fun j => 4 - j) 0 [0] (by omega) ⟨rfl, ?_, ⟨OSub.ren rfl rfl, trivial⟩, fun f hf => hf⟩ ?_
      · exact ⟨fun _ _ _ => rfl, SEq.ren rfl rfl, fun _ _ _ => rfl, fun _ _ _ => rfl, fun _ _ _ => rfl, trivial⟩
      rintro j hj
      have hna := nacc_lt s i j
      have hnb : nacc s i j < 16777216 := by
        have : (64 : Nat) ^ j ≤ 64 ^ 4 := Nat.pow_le_pow_right (by decide) hj
        omega
      by_cases hj4 : j < 4
      · have hk := val0_lt (sbyte s (i + j))
        conv => whnf
        repeat' ((first | refine And.intro (by repeat' first | exact trivial | refine And.intro rfl ?_) (And.intro (by first | exact fun _ h => h | exact fun _ => List.mem_cons_of_mem _ | exact fun _ => List.mem_append_right _) ?_) | (refine And.intro (fun h => ?_) (fun h => ?_) <;> (try simp only [n1, n2, n3, n4, n5, n6] at h) <;> first | (exfalso; omega) | (cases h; done) | skip) | refine And.intro (by omega) ?_ | refine Exists.intro _ (And.intro (by first | exact And.intro rfl rfl | exact Pl.den (by repeat constructor) | with_reducible rfl | exact cast_succ _ | assumption | exact (Int.toNat_of_nonneg (by omega)).symm | rfl) ?_) | refine hD _ _ ?_ | refine hL _ _ ?_ | (intro h; (try simp only [n1, n2, n3, n4, n5, n6] at h); first | (exfalso; omega) | (cases h; done) | skip)) <;> (conv => whnf))
        by_cases hv : val6 (sbyte s (i + j)) = 64
        · have hv0 : val0 (sbyte s (i + j)) = 0 := by unfold val0; rw [if_pos hv]
          refine Tri.use ((tValue fx (sbyte s (i + j))).one.reval (v' := .k .i64 (-1)) (fun _ => by rw [if_pos hv]; rfl)) [] rfl (args_ren rfl rfl) trivial (fun f hf => by first | exact hf | cases hf | simp_all) (fun u hu => ?_)
          conv => whnf
          repeat' ((first | refine And.intro (by repeat' first | exact trivial | refine And.intro rfl ?_) (And.intro (by first | exact fun _ h => h | exact fun _ => List.mem_cons_of_mem _ | exact fun _ => List.mem_append_right _) ?_) | (refine And.intro (fun h => ?_) (fun h => ?_) <;> (try simp only [n1, n2, n3, n4, n5, n6] at h) <;> first | (exfalso; omega) | (cases h; done) | skip) | refine And.intro (by omega) ?_ | refine Exists.intro _ (And.intro (by first | exact And.intro rfl rfl | exact Pl.den (by repeat constructor) | with_reducible rfl | exact cast_succ _ | assumption | exact (Int.toNat_of_nonneg (by omega)).symm | rfl) ?_) | refine hD _ _ ?_ | refine hL _ _ ?_ | (intro h; (try simp only [n1, n2, n3, n4, n5, n6] at h); first | (exfalso; omega) | (cases h; done) | skip)) <;> (conv => whnf))
          refine ⟨j + 1, [0], ⟨by omega, by omega⟩, rfl, ⟨fun _ _ _ => rfl, SEq.ren rfl rfl, fun _ _ _ => rfl, SEq.eq (congrArg (Value.int .i64) ?_), fun _ _ _ => rfl, trivial⟩, ⟨OSub.ren rfl rfl, trivial⟩, fun f hf => hf⟩
          simp only [nacc, hv0]
          omega
        · have hv0 : val0 (sbyte s (i + j)) = val6 (sbyte s (i + j)) := by unfold val0; rw [if_neg hv]
          refine Tri.use ((tValue fx (sbyte s (i + j))).one.reval (v' := .v (.int .i64 (val0 (sbyte s (i + j))))) (fun _ => by rw [if_neg hv, hv0])) [] rfl (args_ren rfl rfl) trivial (fun f hf => by first | exact hf | cases hf | simp_all) (fun u hu => ?_)
          conv => whnf
          repeat' ((first | refine And.intro (by repeat' first | exact trivial | refine And.intro rfl ?_) (And.intro (by first | exact fun _ h => h | exact fun _ => List.mem_cons_of_mem _ | exact fun _ => List.mem_append_right _) ?_) | (refine And.intro (fun h => ?_) (fun h => ?_) <;> (try simp only [n1, n2, n3, n4, n5, n6] at h) <;> first | (exfalso; omega) | (cases h; done) | skip) | refine And.intro (by omega) ?_ | refine Exists.intro _ (And.intro (by first | exact And.intro rfl rfl | exact Pl.den (by repeat constructor) | with_reducible rfl | exact cast_succ _ | assumption | exact (Int.toNat_of_nonneg (by omega)).symm | rfl) ?_) | refine hD _ _ ?_ | refine hL _ _ ?_ | (intro h; (try simp only [n1, n2, n3, n4, n5, n6] at h); first | (exfalso; omega) | (cases h; done) | skip)) <;> (conv => whnf))
          refine ⟨j + 1, [0], ⟨by omega, by omega⟩, rfl, ⟨fun _ _ _ => rfl, SEq.ren rfl rfl, fun _ _ _ => rfl, SEq.eq (congrArg (Value.int .i64) ?_), fun _ _ _ => rfl, trivial⟩, ⟨OSub.ren rfl rfl, trivial⟩, fun f hf => hf⟩
          simp only [nacc]
          omega
      · obtain rfl : j = 4 := by omega
        conv => whnf
        repeat' ((first | refine And.intro (by repeat' first | exact trivial | refine And.intro rfl ?_) (And.intro (by first | exact fun _ h => h | exact fun _ => List.mem_cons_of_mem _ | exact fun _ => List.mem_append_right _) ?_) | (refine And.intro (fun h => ?_) (fun h => ?_) <;> (try simp only [n1, n2, n3, n4, n5, n6] at h) <;> first | (exfalso; omega) | (cases h; done) | skip) | refine And.intro (by omega) ?_ | refine Exists.intro _ (And.intro (by first | exact And.intro rfl rfl | exact Pl.den (by repeat constructor) | with_reducible rfl | exact cast_succ _ | assumption | exact (Int.toNat_of_nonneg (by omega)).symm | rfl) ?_) | refine hD _ _ ?_ | refine hL _ _ ?_ | (intro h; (try simp only [n1, n2, n3, n4, n5, n6] at h); first | (exfalso; omega) | (cases h; done) | skip)) <;> (conv => whnf))
        refine ⟨⟨by omega, hr2, by omega, by simp [Value.oneCell']⟩, fun m sp hsp => ?_⟩
        conv => whnf
        repeat' ((first | refine And.intro (by repeat' first | exact trivial | refine And.intro rfl ?_) (And.intro (by first | exact fun _ h => h | exact fun _ => List.mem_cons_of_mem _ | exact fun _ => List.mem_append_right _) ?_) | (refine And.intro (fun h => ?_) (fun h => ?_) <;> (try simp only [n1, n2, n3, n4, n5, n6] at h) <;> first | (exfalso; omega) | (cases h; done) | skip) | refine And.intro (by omega) ?_ | refine Exists.intro _ (And.intro (by first | exact And.intro rfl rfl | exact Pl.den (by repeat constructor) | with_reducible rfl | exact cast_succ _ | assumption | exact (Int.toNat_of_nonneg (by omega)).symm | rfl) ?_) | refine hD _ _ ?_ | refine hL _ _ ?_ | (intro h; (try simp only [n1, n2, n3, n4, n5, n6] at h); first | (exfalso; omega) | (cases h; done) | skip)) <;> (conv => whnf))
        obtain ⟨b1, b2, b3⟩ := ofn3 (nacc s i 4)
        have hr4 := rdec_four (s := s) (i := i) (by omega) h4
        have hl1 := rdec_length (s.data.toList.take i)
        rw [List.length_take, list_size, Nat.min_eq_left (by omega)] at hl1
        have e0 : (i + 4) / 4 * 3 = i / 4 * 3 + 3 := by omega
        have e1 : (xs.take (i / 4 * 3 * 1) ++ [bv (UInt8.ofNat (nacc s i 4 / 65536)), bv (UInt8.ofNat (nacc s i 4 / 256 % 256)), bv (UInt8.ofNat (nacc s i 4 % 256))] ++ sp).take ((i + 4) / 4 * 3) = (rdec (s.data.toList.take (i + 4))).map bv := by
          rw [Nat.mul_one, hr1, hr4, List.map_append, e0]
          rw [List.take_left' (by simp [hl1])]
          rfl
        have e2 : (xs.take (i / 4 * 3 * 1) ++ [bv (UInt8.ofNat (nacc s i 4 / 65536)), bv (UInt8.ofNat (nacc s i 4 / 256 % 256)), bv (UInt8.ofNat (nacc s i 4 % 256))] ++ sp).length = i / 4 * 3 + 3 + m := by
          rw [Nat.mul_one, hr1]
          simp [hsp, hl1]
          omega
        refine ⟨⟨i + 4, some (xs.take (i / 4 * 3 * 1) ++ [bv (UInt8.ofNat (nacc s i 4 / 65536)), bv (UInt8.ofNat (nacc s i 4 / 256 % 256)), bv (UInt8.ofNat (nacc s i 4 % 256))] ++ sp)⟩, [2], ⟨⟨by simp only; omega, by simp only; omega, ⟨e1, show (i + 4) / 4 * 3 ≤ _ by rw [e2]; omega⟩⟩, by simp only; omega⟩, rfl, ⟨fun _ _ _ => rfl, SEq.ren rfl ?_, fun _ _ _ => rfl, trivial⟩, ⟨OSub.ren rfl ?_, trivial⟩, fun f hf => hf⟩
        · simp only [ren, e2, e0]
          simp [sg]
        · simp only [renO, b1, b2, b3]
    · obtain rfl : i = s.size := by omega
      have hl1 := rdec_length s.data.toList
      rw [list_size] at hl1
      rw [List.take_of_length_le (l := s.data.toList) (i := s.size) (by rw [list_size]; exact Nat.le_refl _)] at hr1
      generalize hL : s.size / 4 * 3 = L at hr1 hr2 hl1 ⊢
      refine loop_by tok (α := Nat) (fun k => ⟨[(0, .v (.string s)), (4, .s 0 0 (L - k) xs.length), (9, .v (.int .i64 k))], [(0, .row xs 5)], 1, fx⟩)
        (fun k => (k ≤ 2 ∧ k ≤ L) ∧ (1 ≤ k → s.data.toList[s.size - 1]? = some 61) ∧ (k = 2 → s.data.toList[s.size - 2]? = some 61)) (fun k => 2 - k) 0 [0] ⟨⟨by omega, by omega⟩, fun h => by omega, fun h => by omega⟩ ⟨rfl, ⟨fun _ _ _ => rfl, SEq.ren rfl rfl, fun _ _ _ => rfl, trivial⟩, ⟨OSub.ren rfl rfl, trivial⟩, fun f hf => hf⟩ ?_
      rintro k ⟨⟨hk, hkL⟩, hk1, hk2⟩
      conv => whnf
      repeat' ((first | (refine Exists.intro (s.size - 1 - k) (And.intro (show (s.size : Int) - 1 - (k : Int) = ((s.size - 1 - k : Nat) : Int) by omega) ?_)) | refine And.intro (by repeat' first | exact trivial | refine And.intro rfl ?_) (And.intro (by first | exact fun _ h => h | exact fun _ => List.mem_cons_of_mem _ | exact fun _ => List.mem_append_right _) ?_) | (refine And.intro (fun h => ?_) (fun h => ?_) <;> (try simp only [n1, n2, n3, n4, n5, n6] at h) <;> first | (exfalso; omega) | (cases h; done) | skip) | refine And.intro (by omega) ?_ | refine Exists.intro _ (And.intro (by first | exact And.intro rfl rfl | exact Pl.den (by repeat constructor) | with_reducible rfl | exact cast_succ _ | assumption | exact (Int.toNat_of_nonneg (by omega)).symm | rfl) ?_) | refine hD _ _ ?_ | refine hL _ _ ?_ | (intro h; (try simp only [n1, n2, n3, n4, n5, n6] at h); first | (exfalso; omega) | (cases h; done) | skip)) <;> (conv => whnf))
      · have hc := sbyte_get (s := s) (i := s.size - 1 - k) (by omega)
        have h61 : sbyte s (s.size - 1 - k) = 61 := UInt8.toNat_inj.1 (by rw [show (61 : UInt8).toNat = 61 from rfl]; omega)
        rw [h61] at hc
        refine ⟨k + 1, [0], ⟨⟨⟨by omega, by omega⟩, fun _ => ?_, fun h2 => ?_⟩, by omega⟩, rfl, ⟨fun _ _ _ => rfl, SEq.ren rfl ?_, fun _ _ _ => rfl, trivial⟩, ⟨OSub.ren rfl rfl, trivial⟩, fun f hf => hf⟩
        · by_cases hk0 : k = 0
          · subst hk0; exact hc
          · exact hk1 (by omega)
        · obtain rfl : k = 1 := by omega
          exact hc
        · simp only [ren, sg, List.getD_cons_zero]
          congr 1
          omega
      all_goals
        have hcut : rcut s.data.toList (rdec s.data.toList) = k := by
          refine rcut_is hk (by omega) (by rw [list_size]; exact hk1) (by rw [list_size]; exact hk2) ?_
          first
            | exact .inl (by omega)
            | exact .inr (.inl (by omega))
            | (refine .inr (.inr fun e => ?_)
               rw [list_size, sbyte_get (by omega)] at e
               have e2 := Option.some.inj e
               rw [e2] at h
               exact h rfl)
      all_goals (have hto : ((rdec s.data.toList).take (L - k)).length = L - k := by rw [List.length_take, hl1]; omega)
      all_goals refine Tri.lend 0 (xs := xs) (T := 5) (fun b => [.v (.slice (some ⟨b, 0, none⟩) (L - k) xs.length)]) (List.mem_cons_self ..) rowOf.row (fun _ => rfl) fun b => ?_
      all_goals refine Tri.use (tRefEncode _ (some ⟨b, 0, none⟩) xs.length ((rdec s.data.toList).take (L - k)) (by omega) (BytesAt.row (List.mem_cons_self ..) (by rw [hto, List.drop_zero, List.map_take, ← hr1, List.take_take, Nat.min_eq_left (by omega)]))).one [] rfl (fun _ _ _ => by rw [hto]; rfl) trivial (fun f hf => hf) fun u hu => ?_
      all_goals (
        conv => whnf
        refine And.intro rfl ?_
        conv => whnf
        repeat' ((first | refine And.intro (by repeat' first | exact trivial | refine And.intro rfl ?_) (And.intro (by first | exact fun _ h => h | exact fun _ => List.mem_cons_of_mem _ | exact fun _ => List.mem_append_right _) ?_) | (refine And.intro (fun h => ?_) (fun h => ?_) <;> (try simp only [n1, n2, n3, n4, n5, n6] at h) <;> first | (exfalso; omega) | (cases h; done) | skip) | refine And.intro (by omega) ?_ | refine Exists.intro _ (And.intro (by first | exact And.intro rfl rfl | exact Pl.den (by repeat constructor) | with_reducible rfl | exact cast_succ _ | assumption | exact (Int.toNat_of_nonneg (by omega)).symm | rfl) ?_) | refine hD _ _ ?_ | refine hL _ _ ?_ | (intro h; (try simp only [n1, n2, n3, n4, n5, n6] at h); first | (exfalso; omega) | (cases h; done) | skip)) <;> (conv => whnf))
        have hen := enc_length ((rdec s.data.toList).take (L - k))
        refine Tri.use (tSameRows fx (enc ((rdec s.data.toList).take (L - k))) s.data.toList _ _ _ _ (by omega)) [1,2] rfl (args_ren rfl rfl) ⟨OSub.ren rfl rfl, OSub.ren rfl rfl, trivial⟩ (fun f hf => by first | exact hf | cases hf | simp_all) (fun u hu => ?_)
        conv => whnf
        repeat' ((first | refine And.intro (by repeat' first | exact trivial | refine And.intro rfl ?_) (And.intro (by first | exact fun _ h => h | exact fun _ => List.mem_cons_of_mem _ | exact fun _ => List.mem_append_right _) ?_) | (refine And.intro (fun h => ?_) (fun h => ?_) <;> (try simp only [n1, n2, n3, n4, n5, n6] at h) <;> first | (exfalso; omega) | (cases h; done) | skip) | refine And.intro (by omega) ?_ | refine Exists.intro _ (And.intro (by first | exact And.intro rfl rfl | exact Pl.den (by repeat constructor) | with_reducible rfl | exact cast_succ _ | assumption | exact (Int.toNat_of_nonneg (by omega)).symm | rfl) ?_) | refine hD _ _ ?_ | refine hL _ _ ?_ | (intro h; (try simp only [n1, n2, n3, n4, n5, n6] at h); first | (exfalso; omega) | (cases h; done) | skip)) <;> (conv => whnf))
        · exact ⟨.nil false, ⟨fun h => (by cases h), fun _ b e => by
            have h0 := rcut_enc b
            rw [← e, hl1, hcut] at h0
            rw [h0] at h
            exact h e.symm⟩, Ret.mk [] [] (Fold.drop (by simp)) rfl (fun _ _ _ => rfl) trivial (fun _ h => by cases h)⟩
        · exact ⟨.row ((rdec s.data.toList).take (L - k)) xs, ⟨h.symm, by rw [hto, List.map_take, ← hr1, List.take_take, Nat.min_eq_left (by omega)], by omega⟩,
            Ret.mk [0] _ (Fold.refl _) rfl (SEq.ren rfl (by simp only [DecO.v, ren, renL, hto]; rfl)) ⟨OSub.ren rfl rfl, trivial⟩ (fun _ h => by cases h)⟩)
theorem tRefDecode (fx : List Fact) (s : ByteArray) (hs : s.size ≤ 1000000000) : Tri Tryd.prog 98 [.v (.string s)] [] 0 fx (RetE (α := Dc) 0 (Dc.pr s.data.toList) Dc.v (fun _ => []) 0 Dc.f) := (tRefDecode0 fx s hs).dc
end Go.Proofs.YtekgjjanikicnaaDoor.Sx

namespace Go.Proofs.YtekgjjanikicnaaDoor.Sx
open Go Go.RowKit
set_option maxRecDepth 100000
set_option linter.unusedSimpArgs false
set_option linter.unusedVariables false
/-- What a line is read as. -/
structure SgR where
  s : Sg
  ok : Bool
  f : List Fact
structure SgR.pr (fx : List Fact) (l : List UInt8) (x : SgR) : Prop where
  yes : x.ok = true → IsSig l x.s.pl ∧ x.s.Fit (x.f ++ fx)
  no : x.ok = false → ∀ s, ¬ IsSig l s
def SgR.v (x : SgR) : SV := .tup [.v x.s.v, .v (.bool x.ok)]
def nilSg : Sg := ⟨⟨#[]⟩, 0, 0, none, 0, []⟩
theorem five_of {α : Type} : ∀ {l : List α}, l.length = 5 → ∃ a b c d e, l = [a, b, c, d, e]
  | [a, b, c, d, e], _ => ⟨a, b, c, d, e, rfl⟩
theorem parts_le (c : UInt8) : ∀ (l : List UInt8), ∀ p ∈ parts c l, p.length ≤ l.length
  | [], p, hp => by
    obtain rfl := List.mem_singleton.1 (show p ∈ [[]] from hp)
    simp
  | x :: r, p, hp => by
    have ih := parts_le c r
    by_cases h : x = c
    · subst h
      rw [parts_eq] at hp
      rcases List.mem_cons.1 hp with rfl | hp
      · simp
      · have := ih p hp; simp only [List.length_cons]; omega
    · cases e : parts c r with
      | nil => exact absurd e (parts_ne c r)
      | cons q qs =>
        rw [parts_cons h e] at hp
        rw [e] at ih
        rcases List.mem_cons.1 hp with rfl | hp
        · have := ih q (List.mem_cons_self ..); simp only [List.length_cons]; omega
        · have := ih p (List.mem_cons_of_mem _ hp); simp only [List.length_cons]; omega
theorem tSig (fx : List Fact) (hg : gTab ∈ fx) (he : gErr ∈ fx) (hm : gMax ∈ fx) (l : List UInt8) (hl : l.length ≤ 4000) :
    Tri Tryd.prog 96 [.v (strS l)] [] 0 fx (RetE (α := SgR) 0 (SgR.pr fx l) SgR.v (fun _ => []) 0 SgR.f) := by
  have hls := arr_size l
  have T := tSplit fx hm ⟨l.toArray⟩ 32 (by omega)
  have el : (⟨l.toArray⟩ : ByteArray).data.toList = l := rfl
  rw [el] at T
  by_cases h5 : (parts 32 l).length = 5
  · obtain ⟨p0, p1, p2, p3, p4, e⟩ := five_of h5
    rw [e] at T
    have T' : Tri Tryd.prog 94 [.v (strS l), .v (.string ⟨#[32]⟩)] [] 0 fx (Ret 0 (.s 0 0 5 5) [(0, .row [strS p0, strS p1, strS p2, strS p3, strS p4] 9)] 1 []) := T
    refine Tri.of_code tok Tryd.func96 rfl rfl rfl (by decide) rfl (Nat.le_of_ble_eq_true rfl) ?_
    conv => whnf
    repeat' ((first | refine And.intro (by repeat' first | exact trivial | refine And.intro rfl ?_) (And.intro (by first | exact fun _ h => h | exact fun _ => List.mem_cons_of_mem _ | exact fun _ => List.mem_append_right _) ?_) | (refine And.intro (fun h => ?_) (fun h => ?_) <;> (try simp only [n1, n2, n3, n4, n5, n6] at h) <;> first | (exfalso; omega) | (cases h; done) | skip) | refine And.intro (by omega) ?_ | refine Exists.intro _ (And.intro (by first | exact And.intro rfl rfl | exact Pl.den (by repeat constructor) | with_reducible rfl | exact cast_succ _ | assumption | exact (Int.toNat_of_nonneg (by omega)).symm | rfl) ?_) | refine hD _ _ ?_ | refine hL _ _ ?_ | (intro h; (try simp only [n1, n2, n3, n4, n5, n6] at h); first | (exfalso; omega) | (cases h; done) | skip)) <;> (conv => whnf))
    refine Tri.use T'.one [] rfl (args_ren rfl rfl) trivial (fun f hf => by first | exact hf | cases hf | simp_all) (fun u hu => ?_)
    have hsp : ∀ s, IsSig l s → p0 = [115, 105, 103] ∧ p1 = s.name ∧ p2 = [s.kind] ∧ p3 = Lib.decDigits s.num ∧ p4 = enc s.bs := fun s hs => by
      have := e.symm.trans (sig_parts hs)
      simpa using this
    have hpl : ∀ p ∈ parts 32 l, p.length ≤ l.length := parts_le 32 l
    rw [e] at hpl
    have hl3 := hpl p3 (by simp)
    have hl4 := hpl p4 (by simp)
    have hl1 := hpl p1 (by simp)
    have hs2 := arr_size p2
    have hs3 := arr_size p3
    have hs4 := arr_size p4
    conv => whnf
    repeat' ((first | refine And.intro (by repeat' first | exact trivial | refine And.intro rfl ?_) (And.intro (by first | exact fun _ h => h | exact fun _ => List.mem_cons_of_mem _ | exact fun _ => List.mem_append_right _) ?_) | (refine And.intro (fun h => ?_) (fun h => ?_) <;> (try simp only [n1, n2, n3, n4, n5, n6] at h) <;> first | (exfalso; omega) | (cases h; done) | skip) | refine And.intro (by omega) ?_ | refine Exists.intro _ (And.intro (by first | exact And.intro rfl rfl | exact Pl.den (by repeat constructor) | with_reducible rfl | exact cast_succ _ | assumption | exact (Int.toNat_of_nonneg (by omega)).symm | rfl) ?_) | refine hD _ _ ?_ | refine hL _ _ ?_ | (intro h; (try simp only [n1, n2, n3, n4, n5, n6] at h); first | (exfalso; omega) | (cases h; done) | skip)) <;> (conv => whnf))
    · exact ⟨⟨nilSg, false, []⟩, ⟨fun h => (by cases h), fun _ s hs => by rw [(hsp s hs).1] at h; simp at h⟩, Ret.noneS rfl (fun _ _ => rfl) (fun g hg => by cases hg)⟩
    · exact ⟨⟨nilSg, false, []⟩, ⟨fun h => (by cases h), fun _ s hs => by rw [hs2, (hsp s hs).2.2.1] at h; simp at h⟩, Ret.noneS rfl (fun _ _ => rfl) (fun g hg => by cases hg)⟩
    rename_i hp0 _
    obtain ⟨c, hc⟩ : ∃ c, p2 = [c] := List.length_eq_one_iff.1 (by omega)
    subst hc
    have T3 := tNumber fx hg he ⟨p3.toArray⟩ (by omega)
    have el3 : (⟨p3.toArray⟩ : ByteArray).data.toList = p3 := rfl
    rw [el3] at T3
    have T4 := tDecode fx ⟨p4.toArray⟩ (by omega)
    have el4 : (⟨p4.toArray⟩ : ByteArray).data.toList = p4 := rfl
    rw [el4] at T4
    cases hn : numOf p3 with
    | none =>
      have hno : ∀ s, ¬ IsSig l s := fun s hs => by
        have := numOf_dec (u := s.num) (by have := hs.num; omega)
        rw [← (hsp s hs).2.2.2.1, hn] at this
        cases this
      rw [hn] at T3
      refine Tri.use (T3.one) [] rfl (fun _ _ _ => rfl) trivial (fun f hf => by first | exact hf | cases hf) (fun u hu => ?_)
      conv => whnf
      repeat' ((first | refine And.intro (by repeat' first | exact trivial | refine And.intro rfl ?_) (And.intro (by first | exact fun _ h => h | exact fun _ => List.mem_cons_of_mem _ | exact fun _ => List.mem_append_right _) ?_) | (refine And.intro (fun h => ?_) (fun h => ?_) <;> (try simp only [n1, n2, n3, n4, n5, n6] at h) <;> first | (exfalso; omega) | (cases h; done) | skip) | refine And.intro (by omega) ?_ | refine Exists.intro _ (And.intro (by first | exact And.intro rfl rfl | exact Pl.den (by repeat constructor) | with_reducible rfl | exact cast_succ _ | assumption | exact (Int.toNat_of_nonneg (by omega)).symm | rfl) ?_) | refine hD _ _ ?_ | refine hL _ _ ?_ | (intro h; (try simp only [n1, n2, n3, n4, n5, n6] at h); first | (exfalso; omega) | (cases h; done) | skip)) <;> (conv => whnf))
      refine Tri.use (T4) [] rfl (fun _ _ _ => rfl) trivial (fun f hf => by first | exact hf | cases hf) (fun x hx => ?_)
      obtain ⟨A, bs, cap, okd, fs⟩ := x
      conv => whnf
      refine appFK_intro ?_
      conv => whnf
      repeat' ((first | refine And.intro (by repeat' first | exact trivial | refine And.intro rfl ?_) (And.intro (by first | exact fun _ h => h | exact fun _ => List.mem_cons_of_mem _ | exact fun _ => List.mem_append_right _) ?_) | (refine And.intro (fun h => ?_) (fun h => ?_) <;> (try simp only [n1, n2, n3, n4, n5, n6] at h) <;> first | (exfalso; omega) | (cases h; done) | skip) | refine And.intro (by omega) ?_ | refine Exists.intro _ (And.intro (by first | exact And.intro rfl rfl | exact Pl.den (by repeat constructor) | with_reducible rfl | exact cast_succ _ | assumption | exact (Int.toNat_of_nonneg (by omega)).symm | rfl) ?_) | refine hD _ _ ?_ | refine hL _ _ ?_ | (intro h; (try simp only [n1, n2, n3, n4, n5, n6] at h); first | (exfalso; omega) | (cases h; done) | skip)) <;> (conv => whnf))
      refine draw_opaque fun KD hD => ?_
      refine draw_all tok (by kernel_rfl) [.any 0, .any 1, .any 3, .any 4, .any 7, .any 8, .any 9, .load 2, .load 5, .any 6, .any 10, .new 11, .last 12] [12] (by kernel_rfl) rfl rfl (by repeat' (first | exact trivial | refine And.intro rfl ?_)) ?_
      conv => whnf
      repeat' ((first | refine And.intro (by repeat' first | exact trivial | refine And.intro rfl ?_) (And.intro (by first | exact fun _ h => h | exact fun _ => List.mem_cons_of_mem _ | exact fun _ => List.mem_append_right _) ?_) | (refine And.intro (fun h => ?_) (fun h => ?_) <;> (try simp only [n1, n2, n3, n4, n5, n6] at h) <;> first | (exfalso; omega) | (cases h; done) | skip) | refine And.intro (by omega) ?_ | refine Exists.intro _ (And.intro (by first | exact And.intro rfl rfl | exact Pl.den (by repeat constructor) | with_reducible rfl | exact cast_succ _ | assumption | exact (Int.toNat_of_nonneg (by omega)).symm | rfl) ?_) | refine hD _ _ ?_ | refine hL _ _ ?_ | (intro h; (try simp only [n1, n2, n3, n4, n5, n6] at h); first | (exfalso; omega) | (cases h; done) | skip)) <;> (conv => whnf))
      refine draw_opaque fun KD hD => ?_
      refine draw_all tok (by kernel_rfl) [.any 1, .any 2, .any 3, .any 4, .any 5, .any 6, .any 7, .any 8, .any 9, .load 0, .one 10, .one 11, .any 12, .any 13, .any 16, .any 17, .one 14, .one 15, .any 18, .any 19, .last 20, .any 21] [20] (by kernel_rfl) rfl rfl (by repeat' (first | exact trivial | refine And.intro rfl ?_)) ?_
      conv => whnf
      repeat' ((first | refine And.intro (by repeat' first | exact trivial | refine And.intro rfl ?_) (And.intro (by first | exact fun _ h => h | exact fun _ => List.mem_cons_of_mem _ | exact fun _ => List.mem_append_right _) ?_) | (refine And.intro (fun h => ?_) (fun h => ?_) <;> (try simp only [n1, n2, n3, n4, n5, n6] at h) <;> first | (exfalso; omega) | (cases h; done) | skip) | refine And.intro (by omega) ?_ | refine Exists.intro _ (And.intro (by first | exact And.intro rfl rfl | exact Pl.den (by repeat constructor) | with_reducible rfl | exact cast_succ _ | assumption | exact (Int.toNat_of_nonneg (by omega)).symm | rfl) ?_) | refine hD _ _ ?_ | refine hL _ _ ?_ | (intro h; (try simp only [n1, n2, n3, n4, n5, n6] at h); first | (exfalso; omega) | (cases h; done) | skip)) <;> (conv => whnf))
      exact ⟨⟨⟨⟨p1.toArray⟩, c, 0, A, cap, bs⟩, false, fs⟩, ⟨fun h => (by cases h), fun _ => hno⟩, Ret.noneS rfl (fun _ _ => rfl) (fun g hg => List.mem_append_left _ hg)⟩
    | some n =>
      obtain ⟨hn64, hdn⟩ := numOf_some hn
      have ew : IntKind.u32.wrap (n : Int) = ((n % 4294967296 : Nat) : Int) := wrap_u32_nat n
      rw [hn] at T3
      refine Tri.use (T3.one) [] rfl (fun _ _ _ => rfl) trivial (fun f hf => by first | exact hf | cases hf) (fun u hu => ?_)
      conv => whnf
      repeat' ((first | refine And.intro (by repeat' first | exact trivial | refine And.intro rfl ?_) (And.intro (by first | exact fun _ h => h | exact fun _ => List.mem_cons_of_mem _ | exact fun _ => List.mem_append_right _) ?_) | (refine And.intro (fun h => ?_) (fun h => ?_) <;> (try simp only [n1, n2, n3, n4, n5, n6] at h) <;> first | (exfalso; omega) | (cases h; done) | skip) | refine And.intro (by omega) ?_ | refine Exists.intro _ (And.intro (by first | exact And.intro rfl rfl | exact Pl.den (by repeat constructor) | with_reducible rfl | exact cast_succ _ | assumption | exact (Int.toNat_of_nonneg (by omega)).symm | rfl) ?_) | refine hD _ _ ?_ | refine hL _ _ ?_ | (intro h; (try simp only [n1, n2, n3, n4, n5, n6] at h); first | (exfalso; omega) | (cases h; done) | skip)) <;> (conv => whnf))
      refine Tri.use (T4) [] rfl (fun _ _ _ => rfl) trivial (fun f hf => by first | exact hf | cases hf) (fun x hx => ?_)
      obtain ⟨A, bs, cap, okd, fs⟩ := x
      have hxno := hx.no
      have hxyes := hx.yes
      have hxat := hx.at_
      have hxcap := hx.cap
      simp only at hxno hxyes hxat hxcap
      conv => whnf
      refine appFK_intro ?_
      conv => whnf
      repeat' ((first | refine And.intro (by repeat' first | exact trivial | refine And.intro rfl ?_) (And.intro (by first | exact fun _ h => h | exact fun _ => List.mem_cons_of_mem _ | exact fun _ => List.mem_append_right _) ?_) | (refine And.intro (fun h => ?_) (fun h => ?_) <;> (try simp only [n1, n2, n3, n4, n5, n6] at h) <;> first | (exfalso; omega) | (cases h; done) | skip) | refine And.intro (by omega) ?_ | refine Exists.intro _ (And.intro (by first | exact And.intro rfl rfl | exact Pl.den (by repeat constructor) | with_reducible rfl | exact cast_succ _ | assumption | exact (Int.toNat_of_nonneg (by omega)).symm | rfl) ?_) | refine hD _ _ ?_ | refine hL _ _ ?_ | (intro h; (try simp only [n1, n2, n3, n4, n5, n6] at h); first | (exfalso; omega) | (cases h; done) | skip)) <;> (conv => whnf))
      refine draw_opaque fun KD hD => ?_
      refine draw_all tok (by kernel_rfl) [.any 0, .any 1, .any 3, .any 4, .any 7, .any 8, .any 9, .load 2, .load 5, .any 6, .any 10, .new 11, .last 12] [12] (by kernel_rfl) rfl rfl (by repeat' (first | exact trivial | refine And.intro rfl ?_)) ?_
      conv => whnf
      repeat' ((first | refine And.intro (by repeat' first | exact trivial | refine And.intro rfl ?_) (And.intro (by first | exact fun _ h => h | exact fun _ => List.mem_cons_of_mem _ | exact fun _ => List.mem_append_right _) ?_) | (refine And.intro (fun h => ?_) (fun h => ?_) <;> (try simp only [n1, n2, n3, n4, n5, n6] at h) <;> first | (exfalso; omega) | (cases h; done) | skip) | refine And.intro (by omega) ?_ | refine Exists.intro _ (And.intro (by first | exact And.intro rfl rfl | exact Pl.den (by repeat constructor) | with_reducible rfl | exact cast_succ _ | assumption | exact (Int.toNat_of_nonneg (by omega)).symm | rfl) ?_) | refine hD _ _ ?_ | refine hL _ _ ?_ | (intro h; (try simp only [n1, n2, n3, n4, n5, n6] at h); first | (exfalso; omega) | (cases h; done) | skip)) <;> (conv => whnf))
      cases okd with
      | false =>
        have hno : ∀ s, ¬ IsSig l s := fun s hs => (hxno rfl).2 s.bs (hsp s hs).2.2.2.2
        refine draw_opaque fun KD hD => ?_
        refine draw_all tok (by kernel_rfl) [.any 1, .any 2, .any 3, .any 4, .any 5, .any 6, .any 7, .any 8, .any 9, .load 0, .one 10, .one 11, .any 12, .any 13, .any 16, .any 17, .one 14, .one 15, .any 18, .any 19, .last 20, .any 21] [20] (by kernel_rfl) rfl rfl (by repeat' (first | exact trivial | refine And.intro rfl ?_)) ?_
        conv => whnf
        repeat' ((first | refine And.intro (by repeat' first | exact trivial | refine And.intro rfl ?_) (And.intro (by first | exact fun _ h => h | exact fun _ => List.mem_cons_of_mem _ | exact fun _ => List.mem_append_right _) ?_) | (refine And.intro (fun h => ?_) (fun h => ?_) <;> (try simp only [n1, n2, n3, n4, n5, n6] at h) <;> first | (exfalso; omega) | (cases h; done) | skip) | refine And.intro (by omega) ?_ | refine Exists.intro _ (And.intro (by first | exact And.intro rfl rfl | exact Pl.den (by repeat constructor) | with_reducible rfl | exact cast_succ _ | assumption | exact (Int.toNat_of_nonneg (by omega)).symm | rfl) ?_) | refine hD _ _ ?_ | refine hL _ _ ?_ | (intro h; (try simp only [n1, n2, n3, n4, n5, n6] at h); first | (exfalso; omega) | (cases h; done) | skip)) <;> (conv => whnf))
        exact ⟨⟨⟨⟨p1.toArray⟩, c, n % 4294967296, A, cap, bs⟩, false, fs⟩, ⟨fun h => (by cases h), fun _ => hno⟩, Ret.noneS rfl (fun _ _ => by simp only [SgR.v, Sg.v, Sg.cells, den, denL_cons, denL_nil, ew]; rfl) (fun g hg => List.mem_append_left _ hg)⟩
      | true =>
        have hp4 : p4 = enc bs := hxyes rfl
        have hbl : bs.length ≤ 4000 := by have := enc_length bs; rw [← hp4] at this; omega
        have hfit : Sg.Fit (fs ++ fx) ⟨⟨p1.toArray⟩, c, n % 4294967296, A, cap, bs⟩ := ⟨by simp only [arr_size]; omega, Nat.mod_lt _ (by omega), hxat.mono fun f hf => List.mem_append_left _ hf, hxcap, by simp only; omega⟩
        refine draw_opaque fun KD hD => ?_
        refine draw_all tok (by kernel_rfl) [.any 1, .any 2, .any 3, .any 4, .any 5, .any 6, .any 7, .any 8, .any 9, .load 0, .one 10, .one 11, .any 12, .any 13, .any 16, .any 17, .one 14, .one 15, .any 18, .any 19, .last 20, .any 21] [20] (by kernel_rfl) rfl rfl (by repeat' (first | exact trivial | refine And.intro rfl ?_)) ?_
        conv => whnf
        refine And.intro (fun hlt => ?_) (fun hlt => ?_)
        · have hlt2 : n < 4294967296 := by have := of_decide_eq_true hlt; omega
          clear hlt
          conv => whnf
          repeat' ((first | refine And.intro (by repeat' first | exact trivial | refine And.intro rfl ?_) (And.intro (by first | exact fun _ h => h | exact fun _ => List.mem_cons_of_mem _ | exact fun _ => List.mem_append_right _) ?_) | (refine And.intro (fun h => ?_) (fun h => ?_) <;> (try simp only [n1, n2, n3, n4, n5, n6] at h) <;> first | (exfalso; omega) | (cases h; done) | skip) | refine And.intro (by omega) ?_ | refine Exists.intro _ (And.intro (by first | exact And.intro rfl rfl | exact Pl.den (by repeat constructor) | with_reducible rfl | exact cast_succ _ | assumption | exact (Int.toNat_of_nonneg (by omega)).symm | rfl) ?_) | refine hD _ _ ?_ | refine hL _ _ ?_ | (intro h; (try simp only [n1, n2, n3, n4, n5, n6] at h); first | (exfalso; omega) | (cases h; done) | skip)) <;> (conv => whnf))
          have hun : ∀ s, IsSig l s → s = Sg.pl ⟨⟨p1.toArray⟩, c, n % 4294967296, A, cap, bs⟩ := fun s hs => by
            obtain ⟨_, q1, q2, q3, q4⟩ := hsp s hs
            have e1 := dec_inj (by have := hs.num; omega) hn64 (q3.symm.trans hdn.symm)
            have e2 := enc_inj (q4.symm.trans hp4)
            obtain ⟨nm, kd, nu, b⟩ := s
            simp only at q1 q2 e1 e2
            simp only [Sg.pl, Sp.mk.injEq]
            exact ⟨q1.symm, (List.cons.inj q2).1.symm, by omega, e2⟩
          have h10 : (⟨#[10]⟩ : ByteArray).size = 1 := rfl
          have e10 : (⟨#[10]⟩ : ByteArray) = ⟨([10] : List UInt8).toArray⟩ := rfl
          refine Tri.use ((tFormed (fs ++ fx) ⟨⟨p1.toArray⟩, c, n % 4294967296, A, cap, bs⟩ hfit).one) [] rfl (fun _ _ _ => by simp only [denL_cons, denL_nil, den, ew]; try rfl) trivial (fun f hf => by first | exact hf | cases hf) (fun v hv => ?_)
          conv => whnf
          repeat' ((first | refine And.intro (by repeat' first | exact trivial | refine And.intro rfl ?_) (And.intro (by first | exact fun _ h => h | exact fun _ => List.mem_cons_of_mem _ | exact fun _ => List.mem_append_right _) ?_) | (refine And.intro (fun h => ?_) (fun h => ?_) <;> (try simp only [n1, n2, n3, n4, n5, n6] at h) <;> first | (exfalso; omega) | (cases h; done) | skip) | refine And.intro (by omega) ?_ | refine Exists.intro _ (And.intro (by first | exact And.intro rfl rfl | exact Pl.den (by repeat constructor) | with_reducible rfl | exact cast_succ _ | assumption | exact (Int.toNat_of_nonneg (by omega)).symm | rfl) ?_) | refine hD _ _ ?_ | refine hL _ _ ?_ | (intro h; (try simp only [n1, n2, n3, n4, n5, n6] at h); first | (exfalso; omega) | (cases h; done) | skip)) <;> (conv => whnf))
          · have hok : Sg.ok ⟨⟨p1.toArray⟩, c, n % 4294967296, A, cap, bs⟩ = true := h
            refine Tri.use ((tLine (fs ++ fx) (List.mem_append_right _ hg) ⟨⟨p1.toArray⟩, c, n % 4294967296, A, cap, bs⟩ hfit hok).one) [] rfl (fun _ _ _ => by simp only [denL_cons, denL_nil, den, ew]; try rfl) trivial (fun f hf => by first | exact hf | cases hf) (fun v hv => ?_)
            conv => whnf
            repeat' ((first | (refine And.intro (by rw [hls, h10]; omega) ?_) | refine And.intro (by repeat' first | exact trivial | refine And.intro rfl ?_) (And.intro (by first | exact fun _ h => h | exact fun _ => List.mem_cons_of_mem _ | exact fun _ => List.mem_append_right _) ?_) | (refine And.intro (fun h => ?_) (fun h => ?_) <;> (try simp only [n1, n2, n3, n4, n5, n6] at h) <;> first | (exfalso; omega) | (cases h; done) | skip) | refine And.intro (by omega) ?_ | refine Exists.intro _ (And.intro (by first | exact And.intro rfl rfl | exact Pl.den (by repeat constructor) | with_reducible rfl | exact cast_succ _ | assumption | exact (Int.toNat_of_nonneg (by omega)).symm | rfl) ?_) | refine hD _ _ ?_ | refine hL _ _ ?_ | (intro h; (try simp only [n1, n2, n3, n4, n5, n6] at h); first | (exfalso; omega) | (cases h; done) | skip)) <;> (conv => whnf))
            have el10 : ((⟨l.toArray⟩ : ByteArray) ++ ⟨#[10]⟩).data.toList = l ++ [10] := by rw [app_list]
            refine ⟨⟨⟨⟨p1.toArray⟩, c, n % 4294967296, A, cap, bs⟩, (Sg.line ⟨⟨p1.toArray⟩, c, n % 4294967296, A, cap, bs⟩ == l ++ [10]), fs⟩, ⟨fun h => ⟨⟨hok, Nat.mod_lt _ (by omega), beq_iff_eq.1 h⟩, hfit⟩, fun h s hs => ?_⟩, Ret.noneS rfl (fun _ _ => by simp only [SgR.v, Sg.v, Sg.cells, den, denL_cons, denL_nil, ew, el10]; rfl) (fun g hg => List.mem_append_left _ hg)⟩
            have e1 := hun s hs
            have e2 := (ok_pl (s := s.sg) (t := ⟨⟨p1.toArray⟩, c, n % 4294967296, A, cap, bs⟩) (by rw [Sp.pl]; exact e1)).2
            have e3 := hs.line
            rw [e2] at e3
            simp only [e3, beq_self_eq_true] at h
            cases h
          · refine ⟨⟨⟨⟨p1.toArray⟩, c, n % 4294967296, A, cap, bs⟩, false, fs⟩, ⟨fun h => (by cases h), fun _ s hs => ?_⟩, Ret.noneS rfl (fun _ _ => by simp only [SgR.v, Sg.v, Sg.cells, den, denL_cons, denL_nil, ew]; rfl) (fun g hg => List.mem_append_left _ hg)⟩
            have e1 := hun s hs
            have e2 := (ok_pl (s := s.sg) (t := ⟨⟨p1.toArray⟩, c, n % 4294967296, A, cap, bs⟩) (by rw [Sp.pl]; exact e1)).1
            rw [hs.ok, h] at e2
            cases e2
        · have hlt2 : ¬ n < 4294967296 := by have := of_decide_eq_false hlt; omega
          clear hlt
          conv => whnf
          repeat' ((first | refine And.intro (by repeat' first | exact trivial | refine And.intro rfl ?_) (And.intro (by first | exact fun _ h => h | exact fun _ => List.mem_cons_of_mem _ | exact fun _ => List.mem_append_right _) ?_) | (refine And.intro (fun h => ?_) (fun h => ?_) <;> (try simp only [n1, n2, n3, n4, n5, n6] at h) <;> first | (exfalso; omega) | (cases h; done) | skip) | refine And.intro (by omega) ?_ | refine Exists.intro _ (And.intro (by first | exact And.intro rfl rfl | exact Pl.den (by repeat constructor) | with_reducible rfl | exact cast_succ _ | assumption | exact (Int.toNat_of_nonneg (by omega)).symm | rfl) ?_) | refine hD _ _ ?_ | refine hL _ _ ?_ | (intro h; (try simp only [n1, n2, n3, n4, n5, n6] at h); first | (exfalso; omega) | (cases h; done) | skip)) <;> (conv => whnf))
          refine ⟨⟨⟨⟨p1.toArray⟩, c, n % 4294967296, A, cap, bs⟩, false, fs⟩, ⟨fun h => (by cases h), fun _ s hs => ?_⟩, Ret.noneS rfl (fun _ _ => by simp only [SgR.v, Sg.v, Sg.cells, den, denL_cons, denL_nil, ew]; rfl) (fun g hg => List.mem_append_left _ hg)⟩
          have e1 := dec_inj (by have := hs.num; omega) hn64 ((hsp s hs).2.2.2.1.symm.trans hdn.symm)
          have := hs.num
          omega

  · have hno : ∀ s, ¬ IsSig l s := fun s hs => h5 (by rw [sig_parts hs]; rfl)
    refine Tri.of_code tok Tryd.func96 rfl rfl rfl (by decide) rfl (Nat.le_of_ble_eq_true rfl) ?_
    conv => whnf
    repeat' ((first | refine And.intro (by repeat' first | exact trivial | refine And.intro rfl ?_) (And.intro (by first | exact fun _ h => h | exact fun _ => List.mem_cons_of_mem _ | exact fun _ => List.mem_append_right _) ?_) | (refine And.intro (fun h => ?_) (fun h => ?_) <;> (try simp only [n1, n2, n3, n4, n5, n6] at h) <;> first | (exfalso; omega) | (cases h; done) | skip) | refine And.intro (by omega) ?_ | refine Exists.intro _ (And.intro (by first | exact And.intro rfl rfl | exact Pl.den (by repeat constructor) | with_reducible rfl | exact cast_succ _ | assumption | exact (Int.toNat_of_nonneg (by omega)).symm | rfl) ?_) | refine hD _ _ ?_ | refine hL _ _ ?_ | (intro h; (try simp only [n1, n2, n3, n4, n5, n6] at h); first | (exfalso; omega) | (cases h; done) | skip)) <;> (conv => whnf))
    refine Tri.use T.one [] rfl (args_ren rfl rfl) trivial (fun f hf => by first | exact hf | cases hf | simp_all) (fun u hu => ?_)
    conv => whnf
    repeat' ((first | refine And.intro (by repeat' first | exact trivial | refine And.intro rfl ?_) (And.intro (by first | exact fun _ h => h | exact fun _ => List.mem_cons_of_mem _ | exact fun _ => List.mem_append_right _) ?_) | (refine And.intro (fun h => ?_) (fun h => ?_) <;> (try simp only [n1, n2, n3, n4, n5, n6] at h) <;> first | (exfalso; omega) | (cases h; done) | skip) | refine And.intro (by omega) ?_ | refine Exists.intro _ (And.intro (by first | exact And.intro rfl rfl | exact Pl.den (by repeat constructor) | with_reducible rfl | exact cast_succ _ | assumption | exact (Int.toNat_of_nonneg (by omega)).symm | rfl) ?_) | refine hD _ _ ?_ | refine hL _ _ ?_ | (intro h; (try simp only [n1, n2, n3, n4, n5, n6] at h); first | (exfalso; omega) | (cases h; done) | skip)) <;> (conv => whnf))
    exact ⟨⟨nilSg, false, []⟩, ⟨fun h => (by cases h), fun _ => hno⟩, Ret.noneS rfl (fun _ _ => rfl) (fun g hg => by cases hg)⟩
end Go.Proofs.YtekgjjanikicnaaDoor.Sx

namespace Go.Proofs.YtekgjjanikicnaaDoor.Sx
open Go Go.RowKit
set_option maxRecDepth 100000
set_option linter.unusedSimpArgs false
set_option linter.unusedVariables false
/-- What a text is read as. -/
structure NtR where
  d : Hd
  l : List Sg
  A : Option Addr
  cap : Nat
  e : Nat
  f : List Fact
def hd0 : Hd := ⟨⟨#[]⟩, 0, List.replicate 32 0⟩
structure NtR.pr (fx : List Fact) (S : List UInt8) (x : NtR) : Prop where
  yes : x.e = 0 → (∃ p : Hp, IsNote S p (x.l.map Sg.pl) ∧ x.d = p.hd) ∧ SgsAt (x.f ++ fx) x.A x.l
  no : x.e ≠ 0 → x.d = hd0 ∧ x.l = [] ∧ x.A = none ∧ x.e = (if 4000 < S.length then 4 else 2) ∧ ∀ p m, ¬ IsNote S p m
def NtR.v (x : NtR) : SV := .tup [.v x.d.v, .v (.slice x.A x.l.length x.cap), .v (.int .i64 (x.e : Nat))]
/-- The same, with a row of its own. -/
structure NtO where
  d : Hd
  l : List Sg
  row : Option (Nat × List Value)
  e : Nat
  f : List Fact
structure NtO.pr (fx : List Fact) (S : List UInt8) (x : NtO) : Prop where
  yes : x.e = 0 → ∃ p : Hp, IsNote S p (x.l.map Sg.pl) ∧ x.d = p.hd
  fit : ∀ s ∈ x.l, s.Fit (x.f ++ fx)
  row : match x.row with
    | none => x.l = []
    | some (c, xs) => xs.take (x.l.length * 4) = sgRow x.l ∧ x.l.length ≤ c
  no : x.e ≠ 0 → x.d = hd0 ∧ x.l = [] ∧ x.row = none ∧ x.e = (if 4000 < S.length then 4 else 2) ∧ ∀ p m, ¬ IsNote S p m
def NtO.v (x : NtO) : SV := match x.row with
  | none => .tup [.v x.d.v, .v (.slice none 0 0), .v (.int .i64 (x.e : Nat))]
  | some (c, xs) => .tup [.v x.d.v, .s 0 0 x.l.length c, .v (.int .i64 (x.e : Nat))]
def NtO.h (x : NtO) : List (Nat × SObj) := match x.row with
  | none => []
  | some (c, xs) => [(0, .row xs 108)]
def nonote (e : Nat) : NtO := ⟨hd0, [], none, e, []⟩
theorem nonote_pr {fx : List Fact} {S : List UInt8} {e : Nat} (h : e = (if 4000 < S.length then 4 else 2)) (hno : ∀ p m, ¬ IsNote S p m) : NtO.pr fx S (nonote e) :=
  ⟨(fun h0 => by simp only [nonote] at h0; rw [h] at h0; split at h0 <;> cases h0), (fun s hs => by cases hs), rfl, fun _ => ⟨rfl, rfl, rfl, h, hno⟩⟩
theorem len32 {α : Type} : ∀ {l : List α}, l.length = 32 → ∃ b0 b1 b2 b3 b4 b5 b6 b7 b8 b9 b10 b11 b12 b13 b14 b15 b16 b17 b18 b19 b20 b21 b22 b23 b24 b25 b26 b27 b28 b29 b30 b31, l = [b0, b1, b2, b3, b4, b5, b6, b7, b8, b9, b10, b11, b12, b13, b14, b15, b16, b17, b18, b19, b20, b21, b22, b23, b24, b25, b26, b27, b28, b29, b30, b31]
  | [b0, b1, b2, b3, b4, b5, b6, b7, b8, b9, b10, b11, b12, b13, b14, b15, b16, b17, b18, b19, b20, b21, b22, b23, b24, b25, b26, b27, b28, b29, b30, b31], _ => ⟨b0, b1, b2, b3, b4, b5, b6, b7, b8, b9, b10, b11, b12, b13, b14, b15, b16, b17, b18, b19, b20, b21, b22, b23, b24, b25, b26, b27, b28, b29, b30, b31, rfl⟩
theorem glue_lines : ∀ (l : List (List UInt8)), glue 10 (l ++ [[]]) = l.flatMap (· ++ [10])
  | [] => rfl
  | p :: ps => by
    have ih := glue_lines ps
    cases ps with
    | nil => simp [glue]
    | cons q qs =>
      rw [List.cons_append, List.cons_append] at *
      rw [glue, ← List.cons_append]
      rw [List.cons_append, ih]
      simp
structure RdI where
  i : Nat
  row : Option (Nat × List Value)
  l : List Sg
  f : List Fact
def zc52 : List SV := [SV.v (Value.string ⟨#[]⟩), .k .i64 0] ++ List.replicate 32 (.k .u8 0)
def RdI.sl (m : Nat) (x : RdI) (y : SV) : List (Nat × SV) := [(2, .p 0 0), (10, .p 2 0), (11, y), (96, .s 1 4 m (m + 1)), (97, .v (.int .i64 m)), (98, .v (.int .i64 x.i))]
def RdI.inv (q : List Value) (d : Hd) (m : Nat) (fx : List Fact) (x : RdI) : SS := match x.row with
  | none => ⟨x.sl m (.v (.slice none 0 0)), [(0, .cells zc52 52), (1, .row q 9), (2, .row d.cells 52)], 3, x.f ++ fx⟩
  | some (c, xs) => ⟨x.sl m (.s 3 0 x.i c), [(0, .cells zc52 52), (1, .row q 9), (2, .row d.cells 52), (3, .row xs 108)], 4, x.f ++ fx⟩
structure RdI.Pr (mid : List (List UInt8)) (fx : List Fact) (x : RdI) : Prop where
  i : x.i ≤ mid.length
  l : x.l.length = x.i
  sig : ∀ (j : Nat) (p : List UInt8) (s : Sg), mid[j]? = some p → x.l[j]? = some s → IsSig p s.pl
  fit : ∀ s ∈ x.l, s.Fit (x.f ++ fx)
  row : match x.row with
    | none => x.i = 0
    | some (c, xs) => xs.take (x.i * 4) = sgRow x.l ∧ c * 4 = xs.length ∧ x.i ≤ c
theorem retN {v y : SV} {m : Nat} {h : List (Nat × SObj)} {f : List Fact} (hv : ∀ ρ ρ'', den ρ'' v = den ρ y) : Ret 0 v [] 1 [] y h m f :=
  Ret.mk [] [] (Fold.drop (by simp)) rfl (fun ρ ρ'' _ => hv ρ ρ'') trivial (fun g hg => by cases hg)
theorem more_of {α : Type} : ∀ {l : List α}, 5 ≤ l.length → ∃ a b c d mid z, l = a :: b :: c :: d :: (mid ++ [z])
  | a :: b :: c :: d :: x :: r, _ => ⟨a, b, c, d, (x :: r).dropLast, (x :: r).getLast (by simp), by rw [List.dropLast_concat_getLast]⟩
theorem lines_of : ∀ {mid : List (List UInt8)} {l : List Sg}, l.length = mid.length → (∀ (j : Nat) (q : List UInt8) (t : Sg), mid[j]? = some q → l[j]? = some t → IsSig q t.pl) →
    ((l.map Sg.pl).map Sp.sg).flatMap Sg.line = mid.flatMap (· ++ [10])
  | [], [], _, _ => rfl
  | [], t :: r, h, _ => by simp at h
  | q :: u, [], h, _ => by simp at h
  | q :: u, t :: r, h, hs => by
    have h1 := hs 0 q t rfl rfl
    have ih := lines_of (mid := u) (l := r) (by simpa using h) fun j a b e1 e2 => hs (j + 1) a b (by simpa using e1) (by simpa using e2)
    simp only [List.map_cons, List.flatMap_cons]
    rw [ih, h1.line]
theorem note_of {S : List UInt8} {P : Hp} {mid : List (List UInt8)} {l : List Sg} (e : parts 10 S = P.org :: Lib.decDigits P.size :: enc P.root :: [] :: (mid ++ [[]])) (h32 : P.root.length = 32) (hname : nameOk P.org = true) (hn : P.size < 2147483648) (hl : l.length = mid.length) (hfew : mid.length ≤ 8)
    (hs : ∀ (j : Nat) (q : List UInt8) (t : Sg), mid[j]? = some q → l[j]? = some t → IsSig q t.pl) : IsNote S P (l.map Sg.pl) := by
  refine ⟨?_, h32, fun x hx => ?_, by rw [List.length_map, hl]; exact hfew, ?_⟩
  · unfold Hd.ok
    rw [Bool.and_eq_true]
    exact ⟨hname, decide_eq_true ⟨by simp only [Hp.hd]; omega, by simp only [Hp.hd]; omega⟩⟩
  · obtain ⟨t, ht, rfl⟩ := List.mem_map.1 hx
    obtain ⟨j, hj⟩ := List.getElem?_of_mem ht
    have hlt := (List.getElem?_eq_some_iff.1 hj).1
    have h1 := hs j mid[j] t (List.getElem?_eq_getElem (by omega)) hj
    exact ⟨h1.ok, h1.num⟩
  · have h1 := glue_parts 10 S
    rw [e] at h1
    have h2 := glue_lines mid
    have h3 : glue 10 (P.org :: Lib.decDigits P.size :: enc P.root :: [] :: (mid ++ [[]])) = P.org ++ 10 :: (Lib.decDigits P.size ++ 10 :: (enc P.root ++ 10 :: ([] ++ 10 :: glue 10 (mid ++ [[]])))) := by
      cases hm : mid ++ [[]] with
      | nil => simp at hm
      | cons a b => rfl
    rw [h3, h2, ← lines_of hl hs] at h1
    rw [← h1]
    simp [noteL, Hd.text, Hp.hd]
set_option maxHeartbeats 4000000 in
theorem tRead0 (fx : List Fact) (hg : gTab ∈ fx) (he : gErr ∈ fx) (hm : gMax ∈ fx) (S : List UInt8) (hS : S.length ≤ 9223372036854775807) :
    Tri Tryd.prog 53 [.v (strS S)] [] 0 fx (RetE (α := NtO) 0 (NtO.pr fx S) NtO.v NtO.h 1 NtO.f) := by
  have hSs := arr_size S
  by_cases h4 : 4000 < S.length
  · have hno : ∀ p m, ¬ IsNote S p m := fun p m h => by have := h.len; omega
    refine Tri.of_code tok Tryd.func53 rfl rfl rfl (by decide) rfl (Nat.le_of_ble_eq_true rfl) ?_
    conv => whnf
    repeat' ((first | refine And.intro (by repeat' first | exact trivial | refine And.intro rfl ?_) (And.intro (by first | exact fun _ h => h | exact fun _ => List.mem_cons_of_mem _ | exact fun _ => List.mem_append_right _) ?_) | (refine And.intro (fun h => ?_) (fun h => ?_) <;> (try simp only [n1, n2, n3, n4, n5, n6] at h) <;> first | (exfalso; omega) | (cases h; done) | skip) | refine And.intro (by omega) ?_ | refine Exists.intro _ (And.intro (by first | exact And.intro rfl rfl | exact Pl.den (by repeat constructor) | with_reducible rfl | exact cast_succ _ | assumption | exact (Int.toNat_of_nonneg (by omega)).symm | rfl) ?_) | refine hD _ _ ?_ | refine hL _ _ ?_ | (intro h; (try simp only [n1, n2, n3, n4, n5, n6] at h); first | (exfalso; omega) | (cases h; done) | skip)) <;> (conv => whnf))
    exact ⟨nonote 4, nonote_pr (by rw [if_pos h4]) hno, retN fun _ _ => rfl⟩
  have T := tSplit fx hm ⟨S.toArray⟩ 10 (by omega)
  have el : (⟨S.toArray⟩ : ByteArray).data.toList = S := rfl
  rw [el] at T
  have bad : (∀ p m, ¬ IsNote S p m) → NtO.pr fx S (nonote 2) := fun hno => nonote_pr (by rw [if_neg h4]) hno
  by_cases hn : 5 ≤ (parts 10 S).length ∧ (parts 10 S).length ≤ 13
  · obtain ⟨q0, q1, q2, q3, mid, z, e⟩ := more_of hn.1
    have hpl := parts_le 10 S
    rw [e] at hpl T hn
    have hl : (q0 :: q1 :: q2 :: q3 :: (mid ++ [z])).length = mid.length + 5 := by simp
    have hz : (bsV (q0 :: q1 :: q2 :: q3 :: (mid ++ [z])))[mid.length + 4]? = some (strS z) := by
      simp [bsV]
    have hmid : ∀ i x, mid[i]? = some x → (bsV (q0 :: q1 :: q2 :: q3 :: (mid ++ [z])))[i + 4]? = some (strS x) := fun i x hx => by
      have hlt := (List.getElem?_eq_some_iff.1 hx).1
      simp only [bsV, List.map_cons, List.getElem?_cons_succ, List.map_append]
      rw [List.getElem?_append_left (by simpa using hlt), List.getElem?_map, hx]; rfl
    rw [hl] at T hn
    refine Tri.of_code tok Tryd.func53 rfl rfl rfl (by decide) rfl (Nat.le_of_ble_eq_true rfl) ?_
    conv => whnf
    repeat' ((first | refine And.intro (by repeat' first | exact trivial | refine And.intro rfl ?_) (And.intro (by first | exact fun _ h => h | exact fun _ => List.mem_cons_of_mem _ | exact fun _ => List.mem_append_right _) ?_) | (refine And.intro (fun h => ?_) (fun h => ?_) <;> (try simp only [n1, n2, n3, n4, n5, n6] at h) <;> first | (exfalso; omega) | (cases h; done) | skip) | refine And.intro (by omega) ?_ | refine Exists.intro _ (And.intro (by first | exact And.intro rfl rfl | exact Pl.den (by repeat constructor) | with_reducible rfl | exact cast_succ _ | assumption | exact (Int.toNat_of_nonneg (by omega)).symm | rfl) ?_) | refine hD _ _ ?_ | refine hL _ _ ?_ | (intro h; (try simp only [n1, n2, n3, n4, n5, n6] at h); first | (exfalso; omega) | (cases h; done) | skip)) <;> (conv => whnf))
    refine Tri.use T.one [] rfl (args_ren rfl rfl) trivial (fun f hf => by first | exact hf | cases hf | simp_all) (fun u hu => ?_)
    conv => whnf
    repeat' ((first | refine And.intro (by repeat' first | exact trivial | refine And.intro rfl ?_) (And.intro (by first | exact fun _ h => h | exact fun _ => List.mem_cons_of_mem _ | exact fun _ => List.mem_append_right _) ?_) | (refine And.intro (fun h => ?_) (fun h => ?_) <;> (try simp only [n1, n2, n3, n4, n5, n6] at h) <;> first | (exfalso; omega) | (cases h; done) | skip) | refine And.intro (by omega) ?_ | refine Exists.intro _ (And.intro (by first | exact And.intro rfl rfl | exact Pl.den (by repeat constructor) | with_reducible rfl | exact cast_succ _ | assumption | exact (Int.toNat_of_nonneg (by omega)).symm | rfl) ?_) | refine hD _ _ ?_ | refine hL _ _ ?_ | (intro h; (try simp only [n1, n2, n3, n4, n5, n6] at h); first | (exfalso; omega) | (cases h; done) | skip)) <;> (conv => whnf))
    have hsp : ∀ p m, IsNote S p m → q0 = p.org ∧ q1 = Lib.decDigits p.size ∧ q2 = enc p.root ∧ q3 = [] ∧ mid = m.map Sp.bare ∧ z = [] := fun p m h => by
      have := e.symm.trans (note_parts h)
      simp only [List.cons.injEq] at this
      obtain ⟨k0, k1, k2, k3, k4⟩ := this
      obtain ⟨k5, k6⟩ := List.append_inj' k4 rfl
      exact ⟨k0, k1, k2, k3, k5, (List.cons.inj k6).1⟩
    have hl0 := hpl q0 (by simp)
    have hl1 := hpl q1 (by simp)
    have hl2 := hpl q2 (by simp)
    have hs0 := arr_size q0
    have hs1 := arr_size q1
    have hs2 := arr_size q2
    have eix : 0 + (((mid.length + 5 : Nat) : Int) - 1).toNat * 1 = mid.length + 4 := by omega
    rw [eix]
    refine ⟨strS z, hz, ?_⟩
    conv => whnf
    repeat' ((first | refine And.intro (by repeat' first | exact trivial | refine And.intro rfl ?_) (And.intro (by first | exact fun _ h => h | exact fun _ => List.mem_cons_of_mem _ | exact fun _ => List.mem_append_right _) ?_) | (refine And.intro (fun h => ?_) (fun h => ?_) <;> (try simp only [n1, n2, n3, n4, n5, n6] at h) <;> first | (exfalso; omega) | (cases h; done) | skip) | refine And.intro (by omega) ?_ | refine Exists.intro _ (And.intro (by first | exact And.intro rfl rfl | exact Pl.den (by repeat constructor) | with_reducible rfl | exact cast_succ _ | assumption | exact (Int.toNat_of_nonneg (by omega)).symm | rfl) ?_) | refine hD _ _ ?_ | refine hL _ _ ?_ | (intro h; (try simp only [n1, n2, n3, n4, n5, n6] at h); first | (exfalso; omega) | (cases h; done) | skip)) <;> (conv => whnf))
    · exact ⟨nonote 2, bad fun p m k => by rw [(hsp p m k).2.2.2.2.2] at h; simp at h, retN fun _ _ => rfl⟩
    · exact ⟨nonote 2, bad fun p m k => by rw [(hsp p m k).2.2.2.1] at h; simp at h, retN fun _ _ => rfl⟩
    have hq3 : q3 = [] := by simpa using h
    rename_i hzz
    have hz0 : z = [] := by simpa using hzz
    have T3 := tNumber fx hg he ⟨q1.toArray⟩ (by omega)
    have el3 : (⟨q1.toArray⟩ : ByteArray).data.toList = q1 := rfl
    rw [el3] at T3
    have T4 := tDecode fx ⟨q2.toArray⟩ (by omega)
    have el4 : (⟨q2.toArray⟩ : ByteArray).data.toList = q2 := rfl
    rw [el4] at T4
    cases hnm : numOf q1 with
    | none =>
      have hno : ∀ p m, ¬ IsNote S p m := fun p m k => by
        have h3 := k.ok
        unfold Hd.ok at h3
        rw [Bool.and_eq_true] at h3
        have h4 : (0 : Int) ≤ (p.size : Int) ∧ (p.size : Int) < 2147483648 := of_decide_eq_true h3.2
        have := numOf_dec (u := p.size) (by omega)
        rw [← (hsp p m k).2.1, hnm] at this
        cases this
      rw [hnm] at T3
      refine Tri.use (T3.one) [] rfl (fun _ _ _ => rfl) trivial (fun f hf => by first | exact hf | cases hf) (fun u hu => ?_)
      conv => whnf
      repeat' ((first | refine And.intro (by repeat' first | exact trivial | refine And.intro rfl ?_) (And.intro (by first | exact fun _ h => h | exact fun _ => List.mem_cons_of_mem _ | exact fun _ => List.mem_append_right _) ?_) | (refine And.intro (fun h => ?_) (fun h => ?_) <;> (try simp only [n1, n2, n3, n4, n5, n6] at h) <;> first | (exfalso; omega) | (cases h; done) | skip) | refine And.intro (by omega) ?_ | refine Exists.intro _ (And.intro (by first | exact And.intro rfl rfl | exact Pl.den (by repeat constructor) | with_reducible rfl | exact cast_succ _ | assumption | exact (Int.toNat_of_nonneg (by omega)).symm | rfl) ?_) | refine hD _ _ ?_ | refine hL _ _ ?_ | (intro h; (try simp only [n1, n2, n3, n4, n5, n6] at h); first | (exfalso; omega) | (cases h; done) | skip)) <;> (conv => whnf))
      refine Tri.use (T4) [] rfl (fun _ _ _ => rfl) trivial (fun f hf => by first | exact hf | cases hf) (fun x hx => ?_)
      obtain ⟨A, bs, cap, okd, fs⟩ := x
      conv => whnf
      refine appFK_intro ?_
      conv => whnf
      repeat' ((first | refine And.intro (by repeat' first | exact trivial | refine And.intro rfl ?_) (And.intro (by first | exact fun _ h => h | exact fun _ => List.mem_cons_of_mem _ | exact fun _ => List.mem_append_right _) ?_) | (refine And.intro (fun h => ?_) (fun h => ?_) <;> (try simp only [n1, n2, n3, n4, n5, n6] at h) <;> first | (exfalso; omega) | (cases h; done) | skip) | refine And.intro (by omega) ?_ | refine Exists.intro _ (And.intro (by first | exact And.intro rfl rfl | exact Pl.den (by repeat constructor) | with_reducible rfl | exact cast_succ _ | assumption | exact (Int.toNat_of_nonneg (by omega)).symm | rfl) ?_) | refine hD _ _ ?_ | refine hL _ _ ?_ | (intro h; (try simp only [n1, n2, n3, n4, n5, n6] at h); first | (exfalso; omega) | (cases h; done) | skip)) <;> (conv => whnf))
      exact ⟨nonote 2, bad hno, retN fun _ _ => rfl⟩
    | some n =>
      rw [hnm] at T3
      obtain ⟨hn64, hdn⟩ := numOf_some hnm
      have hpn : ∀ p m, IsNote S p m → p.size = n ∧ n < 2147483648 ∧ nameOk q0 = true := fun p m k => by
        have h3 := k.ok
        unfold Hd.ok at h3
        rw [Bool.and_eq_true] at h3
        have h4 : (0 : Int) ≤ (p.size : Int) ∧ (p.size : Int) < 2147483648 := of_decide_eq_true h3.2
        have e1 := dec_inj (by omega) hn64 ((hsp p m k).2.1.symm.trans hdn.symm)
        exact ⟨e1, by omega, by rw [(hsp p m k).1]; exact h3.1⟩
      refine Tri.use (T3.one) [] rfl (fun _ _ _ => rfl) trivial (fun f hf => by first | exact hf | cases hf) (fun u hu => ?_)
      conv => whnf
      repeat' ((first | refine And.intro (by repeat' first | exact trivial | refine And.intro rfl ?_) (And.intro (by first | exact fun _ h => h | exact fun _ => List.mem_cons_of_mem _ | exact fun _ => List.mem_append_right _) ?_) | (refine And.intro (fun h => ?_) (fun h => ?_) <;> (try simp only [n1, n2, n3, n4, n5, n6] at h) <;> first | (exfalso; omega) | (cases h; done) | skip) | refine And.intro (by omega) ?_ | refine Exists.intro _ (And.intro (by first | exact And.intro rfl rfl | exact Pl.den (by repeat constructor) | with_reducible rfl | exact cast_succ _ | assumption | exact (Int.toNat_of_nonneg (by omega)).symm | rfl) ?_) | refine hD _ _ ?_ | refine hL _ _ ?_ | (intro h; (try simp only [n1, n2, n3, n4, n5, n6] at h); first | (exfalso; omega) | (cases h; done) | skip)) <;> (conv => whnf))
      refine Tri.use (T4) [] rfl (fun _ _ _ => rfl) trivial (fun f hf => by first | exact hf | cases hf) (fun x hx => ?_)
      obtain ⟨A, bs, cap, okd, fs⟩ := x
      have hxno := hx.no
      have hxyes := hx.yes
      have hxat := hx.at_
      have hxcap := hx.cap
      simp only at hxno hxyes hxat hxcap
      conv => whnf
      refine appFK_intro ?_
      conv => whnf
      repeat' ((first | refine And.intro (by repeat' first | exact trivial | refine And.intro rfl ?_) (And.intro (by first | exact fun _ h => h | exact fun _ => List.mem_cons_of_mem _ | exact fun _ => List.mem_append_right _) ?_) | (refine And.intro (fun h => ?_) (fun h => ?_) <;> (try simp only [n1, n2, n3, n4, n5, n6] at h) <;> first | (exfalso; omega) | (cases h; done) | skip) | refine And.intro (by omega) ?_ | refine Exists.intro _ (And.intro (by first | exact And.intro rfl rfl | exact Pl.den (by repeat constructor) | with_reducible rfl | exact cast_succ _ | assumption | exact (Int.toNat_of_nonneg (by omega)).symm | rfl) ?_) | refine hD _ _ ?_ | refine hL _ _ ?_ | (intro h; (try simp only [n1, n2, n3, n4, n5, n6] at h); first | (exfalso; omega) | (cases h; done) | skip)) <;> (conv => whnf))
      cases okd with
      | false =>
        conv => whnf
        repeat' ((first | refine And.intro (by repeat' first | exact trivial | refine And.intro rfl ?_) (And.intro (by first | exact fun _ h => h | exact fun _ => List.mem_cons_of_mem _ | exact fun _ => List.mem_append_right _) ?_) | (refine And.intro (fun h => ?_) (fun h => ?_) <;> (try simp only [n1, n2, n3, n4, n5, n6] at h) <;> first | (exfalso; omega) | (cases h; done) | skip) | refine And.intro (by omega) ?_ | refine Exists.intro _ (And.intro (by first | exact And.intro rfl rfl | exact Pl.den (by repeat constructor) | with_reducible rfl | exact cast_succ _ | assumption | exact (Int.toNat_of_nonneg (by omega)).symm | rfl) ?_) | refine hD _ _ ?_ | refine hL _ _ ?_ | (intro h; (try simp only [n1, n2, n3, n4, n5, n6] at h); first | (exfalso; omega) | (cases h; done) | skip)) <;> (conv => whnf))
        exact ⟨nonote 2, bad fun p m k => (hxno rfl).2 p.root (hsp p m k).2.2.1, retN fun _ _ => rfl⟩
      | true =>
        have hq2 : q2 = enc bs := hxyes rfl
        conv => whnf
        refine And.intro (fun hlt => ?_) (fun hlt => ?_)
        · have hlt2 : ¬ n < 2147483648 := by have := of_decide_eq_true hlt; omega
          clear hlt
          conv => whnf
          repeat' ((first | refine And.intro (by repeat' first | exact trivial | refine And.intro rfl ?_) (And.intro (by first | exact fun _ h => h | exact fun _ => List.mem_cons_of_mem _ | exact fun _ => List.mem_append_right _) ?_) | (refine And.intro (fun h => ?_) (fun h => ?_) <;> (try simp only [n1, n2, n3, n4, n5, n6] at h) <;> first | (exfalso; omega) | (cases h; done) | skip) | refine And.intro (by omega) ?_ | refine Exists.intro _ (And.intro (by first | exact And.intro rfl rfl | exact Pl.den (by repeat constructor) | with_reducible rfl | exact cast_succ _ | assumption | exact (Int.toNat_of_nonneg (by omega)).symm | rfl) ?_) | refine hD _ _ ?_ | refine hL _ _ ?_ | (intro h; (try simp only [n1, n2, n3, n4, n5, n6] at h); first | (exfalso; omega) | (cases h; done) | skip)) <;> (conv => whnf))
          exact ⟨nonote 2, bad fun p m k => hlt2 (hpn p m k).2.1, retN fun _ _ => rfl⟩
        have hlt2 : n < 2147483648 := by have := of_decide_eq_false hlt; omega
        clear hlt
        conv => whnf
        repeat' ((first | refine And.intro (by repeat' first | exact trivial | refine And.intro rfl ?_) (And.intro (by first | exact fun _ h => h | exact fun _ => List.mem_cons_of_mem _ | exact fun _ => List.mem_append_right _) ?_) | (refine And.intro (fun h => ?_) (fun h => ?_) <;> (try simp only [n1, n2, n3, n4, n5, n6] at h) <;> first | (exfalso; omega) | (cases h; done) | skip) | refine And.intro (by omega) ?_ | refine Exists.intro _ (And.intro (by first | exact And.intro rfl rfl | exact Pl.den (by repeat constructor) | with_reducible rfl | exact cast_succ _ | assumption | exact (Int.toNat_of_nonneg (by omega)).symm | rfl) ?_) | refine hD _ _ ?_ | refine hL _ _ ?_ | (intro h; (try simp only [n1, n2, n3, n4, n5, n6] at h); first | (exfalso; omega) | (cases h; done) | skip)) <;> (conv => whnf))
        · refine ⟨nonote 2, bad fun p m k => h ?_, retN fun _ _ => rfl⟩
          have := enc_inj (hq2.symm.trans (hsp p m k).2.2.1)
          rw [this, k.root]; rfl
        have hbs : bs.length = 32 := by omega
        refine Tri.use (tName ⟨q0.toArray⟩ (by omega)) [] rfl (fun _ _ _ => rfl) trivial (fun f hf => by first | exact hf | cases hf) (fun u hu => ?_)
        conv => whnf
        repeat' ((first | refine And.intro (by repeat' first | exact trivial | refine And.intro rfl ?_) (And.intro (by first | exact fun _ h => h | exact fun _ => List.mem_cons_of_mem _ | exact fun _ => List.mem_append_right _) ?_) | (refine And.intro (fun h => ?_) (fun h => ?_) <;> (try simp only [n1, n2, n3, n4, n5, n6] at h) <;> first | (exfalso; omega) | (cases h; done) | skip) | refine And.intro (by omega) ?_ | refine Exists.intro _ (And.intro (by first | exact And.intro rfl rfl | exact Pl.den (by repeat constructor) | with_reducible rfl | exact cast_succ _ | assumption | exact (Int.toNat_of_nonneg (by omega)).symm | rfl) ?_) | refine hD _ _ ?_ | refine hL _ _ ?_ | (intro h; (try simp only [n1, n2, n3, n4, n5, n6] at h); first | (exfalso; omega) | (cases h; done) | skip)) <;> (conv => whnf))
        · exact ⟨nonote 2, (bad fun p m k => by have := (hpn p m k).2.2; rw [show nameOk q0 = false from h] at this; cases this), retN fun _ _ => rfl⟩
        have hname : nameOk q0 = true := h
        refine draw_opaque fun KD hD => ?_
        refine draw_all tok (by kernel_rfl) [.any 0, .any 1, .any 3, .any 4, .any 5, .load 2, .one 6, .load 7, .any 8, .new 9, .last 10] [10] (by kernel_rfl) rfl rfl (by repeat' (first | exact trivial | refine And.intro rfl ?_)) ?_
        conv => whnf
        repeat' ((first | refine And.intro (by repeat' first | exact trivial | refine And.intro rfl ?_) (And.intro (by first | exact fun _ h => h | exact fun _ => List.mem_cons_of_mem _ | exact fun _ => List.mem_append_right _) ?_) | (refine And.intro (fun h => ?_) (fun h => ?_) <;> (try simp only [n1, n2, n3, n4, n5, n6] at h) <;> first | (exfalso; omega) | (cases h; done) | skip) | refine And.intro (by omega) ?_ | refine Exists.intro _ (And.intro (by first | exact And.intro rfl rfl | exact Pl.den (by repeat constructor) | with_reducible rfl | exact cast_succ _ | assumption | exact (Int.toNat_of_nonneg (by omega)).symm | rfl) ?_) | refine hD _ _ ?_ | refine hL _ _ ?_ | (intro h; (try simp only [n1, n2, n3, n4, n5, n6] at h); first | (exfalso; omega) | (cases h; done) | skip)) <;> (conv => whnf))
        obtain ⟨ad, hA⟩ : ∃ ad, A = some ad := by
          cases A with
          | none => have := hxat.1 rfl; rw [this] at hbs; cases hbs
          | some ad => exact ⟨ad, rfl⟩
        refine ⟨ad, hA, ?_⟩
        have hfc : ∀ j y, (bs.map bv)[j]? = some y → FC (fs ++ fx) (ad.add j) y := fun j y hj => by
          rw [List.getElem?_map] at hj
          cases hb : bs[j]? with
          | none => rw [hb] at hj; cases hj
          | some b =>
            rw [hb] at hj
            obtain ⟨f, k1, k2⟩ := hxat.2 ad hA j b hb
            exact ⟨f, List.mem_append_left _ k1, by cases hj; exact k2⟩
        obtain ⟨b0, b1, b2, b3, b4, b5, b6, b7, b8, b9, b10, b11, b12, b13, b14, b15, b16, b17, b18, b19, b20, b21, b22, b23, b24, b25, b26, b27, b28, b29, b30, b31, hb32⟩ := len32 hbs
        subst hb32
        conv => whnf
        repeat' ((first | (refine Exists.intro _ (And.intro ⟨rfl, hfc⟩ ?_)) | refine And.intro (by repeat' first | exact trivial | refine And.intro rfl ?_) (And.intro (by first | exact fun _ h => h | exact fun _ => List.mem_cons_of_mem _ | exact fun _ => List.mem_append_right _) ?_) | (refine And.intro (fun h => ?_) (fun h => ?_) <;> (try simp only [n1, n2, n3, n4, n5, n6] at h) <;> first | (exfalso; omega) | (cases h; done) | skip) | refine And.intro (by omega) ?_ | refine Exists.intro _ (And.intro (by first | exact And.intro rfl rfl | exact Pl.den (by repeat constructor) | with_reducible rfl | exact cast_succ _ | assumption | exact (Int.toNat_of_nonneg (by omega)).symm | rfl) ?_) | refine hD _ _ ?_ | refine hL _ _ ?_ | (intro h; (try simp only [n1, n2, n3, n4, n5, n6] at h); first | (exfalso; omega) | (cases h; done) | skip)) <;> (conv => whnf))
        obtain ⟨D, hDD⟩ : ∃ D : Hd, D = ⟨⟨q0.toArray⟩, (n : Int), [b0, b1, b2, b3, b4, b5, b6, b7, b8, b9, b10, b11, b12, b13, b14, b15, b16, b17, b18, b19, b20, b21, b22, b23, b24, b25, b26, b27, b28, b29, b30, b31]⟩ := ⟨_, rfl⟩
        have hP : ∃ p : Hp, D = p.hd ∧ p.org = q0 ∧ p.size = n ∧ q2 = enc p.root ∧ p.root.length = 32 := ⟨⟨q0, n, [b0, b1, b2, b3, b4, b5, b6, b7, b8, b9, b10, b11, b12, b13, b14, b15, b16, b17, b18, b19, b20, b21, b22, b23, b24, b25, b26, b27, b28, b29, b30, b31]⟩, hDD, rfl, rfl, hq2, hbs⟩
        refine loop_by tok (RdI.inv (bsV (q0 :: q1 :: q2 :: q3 :: (mid ++ [z]))) D mid.length fx) (RdI.Pr mid fx) (fun x => mid.length - x.i) ⟨0, none, [], fs⟩ [0, 1, 2] ⟨Nat.zero_le _, rfl, (fun j p s h1 h2 => by cases h2), (fun s hs => by cases hs), rfl⟩
          ⟨rfl, ⟨SEq.ren rfl rfl, SEq.ren rfl rfl, fun _ _ _ => rfl, ?_, fun _ _ _ => ?_, fun _ _ _ => rfl, trivial⟩, ⟨OSub.ren rfl rfl, OSub.ren rfl rfl, OSub.cells fun _ => by rw [hDD]; rfl, trivial⟩, fun f hf => hf⟩ ?_
        · intro ρ ρ'' ha
          simp only [den, offs]
          have e1 : ρ'' 1 = ρ 1 := ha 1 (by show 1 < 3; omega)
          have e2 : (((mid.length + 5 : Nat) : Int) - 1).toNat - 4 = mid.length := by omega
          rw [if_neg (by omega), e1, e2]
          congr 1
        · simp only [den]
          congr 1
          omega
        · clear hx hxno hxyes hq2 hbs hfc T3 T4 hDD hxat hxcap
          obtain ⟨P, hDP, hP0, hP1, hP2, hP3⟩ := hP
          have hD34 : D.cells.length = 34 := by rw [hDP]; simp [Hd.cells, Hp.hd, hP3]
          rintro ⟨i, row, l, f⟩ hp
          have hi := hp.i
          have hll := hp.l
          have hsig := hp.sig
          have hfit := hp.fit
          have hrow := hp.row
          simp only at hi hll hsig hfit hrow
          have hgF : gTab ∈ f ++ fx := List.mem_append_right _ hg
          have heF : gErr ∈ f ++ fx := List.mem_append_right _ he
          have hmF : gMax ∈ f ++ fx := List.mem_append_right _ hm
          cases row with
          | none =>
            obtain rfl : i = 0 := hrow
            obtain rfl : l = [] := List.length_eq_zero_iff.1 hll
            simp only [RdI.inv, RdI.sl]
            conv => whnf
            repeat' ((first | refine And.intro (by repeat' first | exact trivial | refine And.intro rfl ?_) (And.intro (by first | exact fun _ h => h | exact fun _ => List.mem_cons_of_mem _ | exact fun _ => List.mem_append_right _) ?_) | (refine And.intro (fun h => ?_) (fun h => ?_) <;> (try simp only [n1, n2, n3, n4, n5, n6] at h) <;> first | (exfalso; omega) | (cases h; done) | skip) | refine And.intro (by omega) ?_ | refine Exists.intro _ (And.intro (by first | exact And.intro rfl rfl | exact Pl.den (by repeat constructor) | with_reducible rfl | exact cast_succ _ | assumption | exact (Int.toNat_of_nonneg (by omega)).symm | rfl) ?_) | refine hD _ _ ?_ | refine hL _ _ ?_ | (intro h; (try simp only [n1, n2, n3, n4, n5, n6] at h); first | (exfalso; omega) | (cases h; done) | skip)) <;> (conv => whnf))
            · obtain ⟨p, hpi⟩ : ∃ p, mid[0]? = some p := ⟨_, List.getElem?_eq_getElem (by omega)⟩
              have hpl2 := hpl p (by
                have := List.mem_of_getElem? hpi
                simp only [List.mem_cons, List.mem_append]
                exact .inr (.inr (.inr (.inr (.inl this)))))
              have eix2 : 4 + 0 * 1 = 0 + 4 := by omega
              rw [eix2]
              refine ⟨strS p, hmid 0 p hpi, ?_⟩
              conv => whnf
              repeat' ((first | refine And.intro (by repeat' first | exact trivial | refine And.intro rfl ?_) (And.intro (by first | exact fun _ h => h | exact fun _ => List.mem_cons_of_mem _ | exact fun _ => List.mem_append_right _) ?_) | (refine And.intro (fun h => ?_) (fun h => ?_) <;> (try simp only [n1, n2, n3, n4, n5, n6] at h) <;> first | (exfalso; omega) | (cases h; done) | skip) | refine And.intro (by omega) ?_ | refine Exists.intro _ (And.intro (by first | exact And.intro rfl rfl | exact Pl.den (by repeat constructor) | with_reducible rfl | exact cast_succ _ | assumption | exact (Int.toNat_of_nonneg (by omega)).symm | rfl) ?_) | refine hD _ _ ?_ | refine hL _ _ ?_ | (intro h; (try simp only [n1, n2, n3, n4, n5, n6] at h); first | (exfalso; omega) | (cases h; done) | skip)) <;> (conv => whnf))
              refine Tri.use ((tSig (f ++ fx) hgF heF hmF p (by omega))) [] rfl (fun _ _ _ => rfl) trivial (fun f hf => by first | exact hf | cases hf) (fun x hx => ?_)
              obtain ⟨sg, ok, f2⟩ := x
              have hxy := hx.yes
              have hxn := hx.no
              simp only at hxy hxn
              conv => whnf
              refine appFK_in ?_
              cases ok with
              | false =>
                conv => whnf
                repeat' ((first | refine And.intro (by repeat' first | exact trivial | refine And.intro rfl ?_) (And.intro (by first | exact fun _ h => h | exact fun _ => List.mem_cons_of_mem _ | exact fun _ => List.mem_append_right _) ?_) | (refine And.intro (fun h => ?_) (fun h => ?_) <;> (try simp only [n1, n2, n3, n4, n5, n6] at h) <;> first | (exfalso; omega) | (cases h; done) | skip) | refine And.intro (by omega) ?_ | refine Exists.intro _ (And.intro (by first | exact And.intro rfl rfl | exact Pl.den (by repeat constructor) | with_reducible rfl | exact cast_succ _ | assumption | exact (Int.toNat_of_nonneg (by omega)).symm | rfl) ?_) | refine hD _ _ ?_ | refine hL _ _ ?_ | (intro h; (try simp only [n1, n2, n3, n4, n5, n6] at h); first | (exfalso; omega) | (cases h; done) | skip)) <;> (conv => whnf))
                have hno : ∀ p' m, ¬ IsNote S p' m := fun p' m k => by
                  have h1 := (hsp p' m k).2.2.2.2.1
                  rw [h1, List.getElem?_map] at hpi
                  cases hm2 : m[0]? with
                  | none => rw [hm2] at hpi; cases hpi
                  | some t =>
                    rw [hm2] at hpi
                    obtain rfl := Option.some.inj hpi
                    have h2 := k.all t (List.mem_of_getElem? hm2)
                    exact hxn rfl t (isSig_bare h2.1 h2.2)
                refine And.intro ⟨rfl, Sg.one⟩ (And.intro ⟨rfl, rfl⟩ ?_)
                conv => whnf
                repeat' ((first | refine And.intro (by repeat' first | exact trivial | refine And.intro rfl ?_) (And.intro (by first | exact fun _ h => h | exact fun _ => List.mem_cons_of_mem _ | exact fun _ => List.mem_append_right _) ?_) | (refine And.intro (fun h => ?_) (fun h => ?_) <;> (try simp only [n1, n2, n3, n4, n5, n6] at h) <;> first | (exfalso; omega) | (cases h; done) | skip) | refine And.intro (by omega) ?_ | refine Exists.intro _ (And.intro (by first | exact And.intro rfl rfl | exact Pl.den (by repeat constructor) | with_reducible rfl | exact cast_succ _ | assumption | exact (Int.toNat_of_nonneg (by omega)).symm | rfl) ?_) | refine hD _ _ ?_ | refine hL _ _ ?_ | (intro h; (try simp only [n1, n2, n3, n4, n5, n6] at h); first | (exfalso; omega) | (cases h; done) | skip)) <;> (conv => whnf))
                exact ⟨nonote 2, bad hno, retN fun _ _ => rfl⟩
              | true =>
                obtain ⟨hs1, hs2⟩ := hxy rfl
                have hlen1 : (([] : List Sg) ++ [sg]).length = 0 + 1 := rfl
                have hsig1 : ∀ (j : Nat) (q : List UInt8) (t : Sg), mid[j]? = some q → (([] : List Sg) ++ [sg])[j]? = some t → IsSig q t.pl := fun j q t h1 h2 => by
                  have hj : j = 0 := by
                    have := (List.getElem?_eq_some_iff.1 h2).1
                    simp only [List.nil_append, List.length_singleton] at this
                    omega
                  rw [hj] at h1 h2
                  obtain rfl := Option.some.inj h2
                  rw [hpi] at h1
                  obtain rfl := Option.some.inj h1
                  exact hs1
                have hfit1 : ∀ t ∈ ([] : List Sg) ++ [sg], t.Fit ((f2 ++ f) ++ fx) := fun t ht => by
                  rw [List.append_assoc]
                  obtain rfl := List.mem_singleton.1 ht
                  exact hs2
                conv => whnf
                repeat' ((first | refine And.intro (by repeat' first | exact trivial | refine And.intro rfl ?_) (And.intro (by first | exact fun _ h => h | exact fun _ => List.mem_cons_of_mem _ | exact fun _ => List.mem_append_right _) ?_) | (refine And.intro (fun h => ?_) (fun h => ?_) <;> (try simp only [n1, n2, n3, n4, n5, n6] at h) <;> first | (exfalso; omega) | (cases h; done) | skip) | refine And.intro (by omega) ?_ | refine Exists.intro _ (And.intro (by first | exact And.intro rfl rfl | exact Pl.den (by repeat constructor) | with_reducible rfl | exact cast_succ _ | assumption | exact (Int.toNat_of_nonneg (by omega)).symm | rfl) ?_) | refine hD _ _ ?_ | refine hL _ _ ?_ | (intro h; (try simp only [n1, n2, n3, n4, n5, n6] at h); first | (exfalso; omega) | (cases h; done) | skip)) <;> (conv => whnf))
                refine And.intro ⟨rfl, Sg.one⟩ (And.intro ⟨rfl, rfl⟩ ?_)
                conv => whnf
                repeat' ((first | (refine Exists.intro sg.cells (And.intro ⟨rfl, rfl⟩ ?_)) | refine And.intro (by repeat' first | exact trivial | refine And.intro rfl ?_) (And.intro (by first | exact fun _ h => h | exact fun _ => List.mem_cons_of_mem _ | exact fun _ => List.mem_append_right _) ?_) | (refine And.intro (fun h => ?_) (fun h => ?_) <;> (try simp only [n1, n2, n3, n4, n5, n6] at h) <;> first | (exfalso; omega) | (cases h; done) | skip) | refine And.intro (by omega) ?_ | refine Exists.intro _ (And.intro (by first | exact And.intro rfl rfl | exact Pl.den (by repeat constructor) | with_reducible rfl | exact cast_succ _ | assumption | exact (Int.toNat_of_nonneg (by omega)).symm | rfl) ?_) | refine hD _ _ ?_ | refine hL _ _ ?_ | (intro h; (try simp only [n1, n2, n3, n4, n5, n6] at h); first | (exfalso; omega) | (cases h; done) | skip)) <;> (conv => whnf))
                rename_i m sp
                have hsp3 := h
                refine ⟨⟨0 + 1, some (1 + m, sg.cells ++ sp), [] ++ [sg], f2 ++ f⟩, [0, 1, 2, 5], ⟨⟨by simp only; omega, hlen1, hsig1, hfit1, ?_, ?_, by simp only; omega⟩, by simp only; omega⟩, rfl, ⟨SEq.ren rfl rfl, SEq.ren rfl rfl, SEq.ren rfl rfl, SEq.ren rfl rfl, fun _ _ _ => rfl, fun _ _ _ => rfl, trivial⟩, ⟨OSub.ren rfl rfl, OSub.ren rfl rfl, OSub.ren rfl rfl, OSub.ren rfl rfl, trivial⟩, fun g hg => by simpa [List.append_assoc] using hg⟩
                · simp only
                  rw [List.take_left' (by simp [Sg.cells])]
                  simp [sgRow]
                · simp only [List.length_append, hsp3]
                  simp [Sg.cells]; omega
            · have hi0 : ¬ (0 : Nat) < mid.length := by omega
              conv => whnf
              repeat' ((first | (refine Exists.intro D.cells (And.intro ⟨by rw [List.drop_zero]; exact List.take_of_length_le (by rw [hD34]; exact Nat.le_refl _), hD34⟩ ?_)) | refine And.intro (by repeat' first | exact trivial | refine And.intro rfl ?_) (And.intro (by first | exact fun _ h => h | exact fun _ => List.mem_cons_of_mem _ | exact fun _ => List.mem_append_right _) ?_) | (refine And.intro (fun h => ?_) (fun h => ?_) <;> (try simp only [n1, n2, n3, n4, n5, n6] at h) <;> first | (exfalso; omega) | (cases h; done) | skip) | refine And.intro (by omega) ?_ | refine Exists.intro _ (And.intro (by first | exact And.intro rfl rfl | exact Pl.den (by repeat constructor) | with_reducible rfl | exact cast_succ _ | assumption | exact (Int.toNat_of_nonneg (by omega)).symm | rfl) ?_) | refine hD _ _ ?_ | refine hL _ _ ?_ | (intro h; (try simp only [n1, n2, n3, n4, n5, n6] at h); first | (exfalso; omega) | (cases h; done) | skip)) <;> (conv => whnf))
              refine And.intro ⟨hD34, by rw [hDP]; exact Hd.one⟩ (And.intro ⟨rfl, rfl⟩ ?_)
              conv => whnf
              repeat' ((first | (refine Exists.intro D.cells (And.intro ⟨by rw [List.drop_zero]; exact List.take_of_length_le (by rw [hD34]; exact Nat.le_refl _), hD34⟩ ?_)) | refine And.intro (by repeat' first | exact trivial | refine And.intro rfl ?_) (And.intro (by first | exact fun _ h => h | exact fun _ => List.mem_cons_of_mem _ | exact fun _ => List.mem_append_right _) ?_) | (refine And.intro (fun h => ?_) (fun h => ?_) <;> (try simp only [n1, n2, n3, n4, n5, n6] at h) <;> first | (exfalso; omega) | (cases h; done) | skip) | refine And.intro (by omega) ?_ | refine Exists.intro _ (And.intro (by first | exact And.intro rfl rfl | exact Pl.den (by repeat constructor) | with_reducible rfl | exact cast_succ _ | assumption | exact (Int.toNat_of_nonneg (by omega)).symm | rfl) ?_) | refine hD _ _ ?_ | refine hL _ _ ?_ | (intro h; (try simp only [n1, n2, n3, n4, n5, n6] at h); first | (exfalso; omega) | (cases h; done) | skip)) <;> (conv => whnf))
              have hm0 : mid = [] := List.length_eq_zero_iff.1 (by omega)
              refine ⟨⟨D, [], none, 0, []⟩, ⟨fun _ => ⟨P, ?_, hDP⟩, (fun t ht => by cases ht), rfl, fun h => absurd rfl h⟩, retN fun _ _ => rfl⟩
              exact note_of (mid := mid) (by rw [hP0, hP1, hdn, ← hP2, e, hq3, hz0]) hP3 (by rw [hP0]; exact hname) (by omega) (by rw [hm0]; rfl) (by omega) (by rw [hm0]; intro j q t h1; cases h1)
          | some r =>
            obtain ⟨c, xs⟩ := r
            simp only at hrow
            obtain ⟨hr1, hr2, hr3⟩ := hrow
            simp only [RdI.inv, RdI.sl]
            conv => whnf
            repeat' ((first | refine And.intro (by repeat' first | exact trivial | refine And.intro rfl ?_) (And.intro (by first | exact fun _ h => h | exact fun _ => List.mem_cons_of_mem _ | exact fun _ => List.mem_append_right _) ?_) | (refine And.intro (fun h => ?_) (fun h => ?_) <;> (try simp only [n1, n2, n3, n4, n5, n6] at h) <;> first | (exfalso; omega) | (cases h; done) | skip) | refine And.intro (by omega) ?_ | refine Exists.intro _ (And.intro (by first | exact And.intro rfl rfl | exact Pl.den (by repeat constructor) | with_reducible rfl | exact cast_succ _ | assumption | exact (Int.toNat_of_nonneg (by omega)).symm | rfl) ?_) | refine hD _ _ ?_ | refine hL _ _ ?_ | (intro h; (try simp only [n1, n2, n3, n4, n5, n6] at h); first | (exfalso; omega) | (cases h; done) | skip)) <;> (conv => whnf))
            · obtain ⟨p, hpi⟩ : ∃ p, mid[i]? = some p := ⟨_, List.getElem?_eq_getElem (by omega)⟩
              have hpl2 := hpl p (by
                have := List.mem_of_getElem? hpi
                simp only [List.mem_cons, List.mem_append]
                exact .inr (.inr (.inr (.inr (.inl this)))))
              have eix2 : 4 + i * 1 = i + 4 := by omega
              rw [eix2]
              refine ⟨strS p, hmid i p hpi, ?_⟩
              conv => whnf
              repeat' ((first | refine And.intro (by repeat' first | exact trivial | refine And.intro rfl ?_) (And.intro (by first | exact fun _ h => h | exact fun _ => List.mem_cons_of_mem _ | exact fun _ => List.mem_append_right _) ?_) | (refine And.intro (fun h => ?_) (fun h => ?_) <;> (try simp only [n1, n2, n3, n4, n5, n6] at h) <;> first | (exfalso; omega) | (cases h; done) | skip) | refine And.intro (by omega) ?_ | refine Exists.intro _ (And.intro (by first | exact And.intro rfl rfl | exact Pl.den (by repeat constructor) | with_reducible rfl | exact cast_succ _ | assumption | exact (Int.toNat_of_nonneg (by omega)).symm | rfl) ?_) | refine hD _ _ ?_ | refine hL _ _ ?_ | (intro h; (try simp only [n1, n2, n3, n4, n5, n6] at h); first | (exfalso; omega) | (cases h; done) | skip)) <;> (conv => whnf))
              refine Tri.use ((tSig (f ++ fx) hgF heF hmF p (by omega))) [] rfl (fun _ _ _ => rfl) trivial (fun f hf => by first | exact hf | cases hf) (fun x hx => ?_)
              obtain ⟨sg, ok, f2⟩ := x
              have hxy := hx.yes
              have hxn := hx.no
              simp only at hxy hxn
              conv => whnf
              refine appFK_in ?_
              cases ok with
              | false =>
                conv => whnf
                repeat' ((first | refine And.intro (by repeat' first | exact trivial | refine And.intro rfl ?_) (And.intro (by first | exact fun _ h => h | exact fun _ => List.mem_cons_of_mem _ | exact fun _ => List.mem_append_right _) ?_) | (refine And.intro (fun h => ?_) (fun h => ?_) <;> (try simp only [n1, n2, n3, n4, n5, n6] at h) <;> first | (exfalso; omega) | (cases h; done) | skip) | refine And.intro (by omega) ?_ | refine Exists.intro _ (And.intro (by first | exact And.intro rfl rfl | exact Pl.den (by repeat constructor) | with_reducible rfl | exact cast_succ _ | assumption | exact (Int.toNat_of_nonneg (by omega)).symm | rfl) ?_) | refine hD _ _ ?_ | refine hL _ _ ?_ | (intro h; (try simp only [n1, n2, n3, n4, n5, n6] at h); first | (exfalso; omega) | (cases h; done) | skip)) <;> (conv => whnf))
                have hno : ∀ p' m, ¬ IsNote S p' m := fun p' m k => by
                  have h1 := (hsp p' m k).2.2.2.2.1
                  rw [h1, List.getElem?_map] at hpi
                  cases hm2 : m[i]? with
                  | none => rw [hm2] at hpi; cases hpi
                  | some t =>
                    rw [hm2] at hpi
                    obtain rfl := Option.some.inj hpi
                    have h2 := k.all t (List.mem_of_getElem? hm2)
                    exact hxn rfl t (isSig_bare h2.1 h2.2)
                refine And.intro ⟨rfl, Sg.one⟩ (And.intro ⟨rfl, rfl⟩ ?_)
                conv => whnf
                repeat' ((first | refine And.intro (by repeat' first | exact trivial | refine And.intro rfl ?_) (And.intro (by first | exact fun _ h => h | exact fun _ => List.mem_cons_of_mem _ | exact fun _ => List.mem_append_right _) ?_) | (refine And.intro (fun h => ?_) (fun h => ?_) <;> (try simp only [n1, n2, n3, n4, n5, n6] at h) <;> first | (exfalso; omega) | (cases h; done) | skip) | refine And.intro (by omega) ?_ | refine Exists.intro _ (And.intro (by first | exact And.intro rfl rfl | exact Pl.den (by repeat constructor) | with_reducible rfl | exact cast_succ _ | assumption | exact (Int.toNat_of_nonneg (by omega)).symm | rfl) ?_) | refine hD _ _ ?_ | refine hL _ _ ?_ | (intro h; (try simp only [n1, n2, n3, n4, n5, n6] at h); first | (exfalso; omega) | (cases h; done) | skip)) <;> (conv => whnf))
                exact ⟨nonote 2, bad hno, retN fun _ _ => rfl⟩
              | true =>
                obtain ⟨hs1, hs2⟩ := hxy rfl
                have hlen1 : (l ++ [sg]).length = i + 1 := by rw [List.length_append, hll]; rfl
                have hsig1 : ∀ (j : Nat) (q : List UInt8) (t : Sg), mid[j]? = some q → (l ++ [sg])[j]? = some t → IsSig q t.pl := fun j q t h1 h2 => by
                  by_cases hj : j < i
                  · rw [List.getElem?_append_left (by omega)] at h2
                    exact hsig j q t h1 h2
                  · rw [List.getElem?_append_right (by omega)] at h2
                    have hj2 : j - l.length = 0 := by
                      have := (List.getElem?_eq_some_iff.1 h2).1
                      simp only [List.length_singleton] at this
                      omega
                    rw [hj2] at h2
                    obtain rfl := Option.some.inj h2
                    have hji : j = i := by omega
                    rw [hji, hpi] at h1
                    obtain rfl := Option.some.inj h1
                    exact hs1
                have hfit1 : ∀ t ∈ l ++ [sg], t.Fit ((f2 ++ f) ++ fx) := fun t ht => by
                  rw [List.append_assoc]
                  rcases List.mem_append.1 ht with ht | ht
                  · exact (hfit t ht).mono fun g hg => List.mem_append_right _ hg
                  · obtain rfl := List.mem_singleton.1 ht
                    exact hs2
                conv => whnf
                repeat' ((first | refine And.intro (by repeat' first | exact trivial | refine And.intro rfl ?_) (And.intro (by first | exact fun _ h => h | exact fun _ => List.mem_cons_of_mem _ | exact fun _ => List.mem_append_right _) ?_) | (refine And.intro (fun h => ?_) (fun h => ?_) <;> (try simp only [n1, n2, n3, n4, n5, n6] at h) <;> first | (exfalso; omega) | (cases h; done) | skip) | refine And.intro (by omega) ?_ | refine Exists.intro _ (And.intro (by first | exact And.intro rfl rfl | exact Pl.den (by repeat constructor) | with_reducible rfl | exact cast_succ _ | assumption | exact (Int.toNat_of_nonneg (by omega)).symm | rfl) ?_) | refine hD _ _ ?_ | refine hL _ _ ?_ | (intro h; (try simp only [n1, n2, n3, n4, n5, n6] at h); first | (exfalso; omega) | (cases h; done) | skip)) <;> (conv => whnf))
                refine And.intro ⟨rfl, Sg.one⟩ (And.intro ⟨rfl, rfl⟩ ?_)
                conv => whnf
                repeat' ((first | (refine Exists.intro sg.cells (And.intro ⟨rfl, rfl⟩ ?_)) | refine And.intro (by repeat' first | exact trivial | refine And.intro rfl ?_) (And.intro (by first | exact fun _ h => h | exact fun _ => List.mem_cons_of_mem _ | exact fun _ => List.mem_append_right _) ?_) | (refine And.intro (fun h => ?_) (fun h => ?_) <;> (try simp only [n1, n2, n3, n4, n5, n6] at h) <;> first | (exfalso; omega) | (cases h; done) | skip) | refine And.intro (by omega) ?_ | refine Exists.intro _ (And.intro (by first | exact And.intro rfl rfl | exact Pl.den (by repeat constructor) | with_reducible rfl | exact cast_succ _ | assumption | exact (Int.toNat_of_nonneg (by omega)).symm | rfl) ?_) | refine hD _ _ ?_ | refine hL _ _ ?_ | (intro h; (try simp only [n1, n2, n3, n4, n5, n6] at h); first | (exfalso; omega) | (cases h; done) | skip)) <;> (conv => whnf))
                refine ⟨⟨by omega, hr3, hr2, Sg.one⟩, fun m sp hsp2 => ?_⟩
                conv => whnf
                repeat' ((first | refine And.intro (by repeat' first | exact trivial | refine And.intro rfl ?_) (And.intro (by first | exact fun _ h => h | exact fun _ => List.mem_cons_of_mem _ | exact fun _ => List.mem_append_right _) ?_) | (refine And.intro (fun h => ?_) (fun h => ?_) <;> (try simp only [n1, n2, n3, n4, n5, n6] at h) <;> first | (exfalso; omega) | (cases h; done) | skip) | refine And.intro (by omega) ?_ | refine Exists.intro _ (And.intro (by first | exact And.intro rfl rfl | exact Pl.den (by repeat constructor) | with_reducible rfl | exact cast_succ _ | assumption | exact (Int.toNat_of_nonneg (by omega)).symm | rfl) ?_) | refine hD _ _ ?_ | refine hL _ _ ?_ | (intro h; (try simp only [n1, n2, n3, n4, n5, n6] at h); first | (exfalso; omega) | (cases h; done) | skip)) <;> (conv => whnf))
                have hlt2 : (sgRow l).length = i * 4 := by rw [← hr1, List.length_take]; omega
                refine ⟨⟨i + 1, some (i + 1 + m, xs.take (i * 4) ++ sg.cells ++ sp), l ++ [sg], f2 ++ f⟩, [0, 1, 2, 6], ⟨⟨by simp only; omega, hlen1, hsig1, hfit1, ?_, ?_, by simp only; omega⟩, by simp only; omega⟩, rfl, ⟨SEq.ren rfl rfl, SEq.ren rfl rfl, SEq.ren rfl rfl, SEq.ren rfl rfl, fun _ _ _ => rfl, fun _ _ _ => rfl, trivial⟩, ⟨OSub.ren rfl rfl, OSub.ren rfl rfl, OSub.ren rfl rfl, OSub.ren rfl rfl, trivial⟩, fun g hg => by simpa [List.append_assoc] using hg⟩
                · simp only
                  rw [hr1, List.take_left' (by rw [List.length_append, hlt2]; simp [Sg.cells]; omega)]
                  simp [sgRow]
                · simp only [List.length_append, hsp2, hr1, hlt2]
                  simp [Sg.cells]; omega
            · obtain rfl : i = mid.length := by omega
              conv => whnf
              repeat' ((first | (refine Exists.intro D.cells (And.intro ⟨by rw [List.drop_zero]; exact List.take_of_length_le (by rw [hD34]; exact Nat.le_refl _), hD34⟩ ?_)) | refine And.intro (by repeat' first | exact trivial | refine And.intro rfl ?_) (And.intro (by first | exact fun _ h => h | exact fun _ => List.mem_cons_of_mem _ | exact fun _ => List.mem_append_right _) ?_) | (refine And.intro (fun h => ?_) (fun h => ?_) <;> (try simp only [n1, n2, n3, n4, n5, n6] at h) <;> first | (exfalso; omega) | (cases h; done) | skip) | refine And.intro (by omega) ?_ | refine Exists.intro _ (And.intro (by first | exact And.intro rfl rfl | exact Pl.den (by repeat constructor) | with_reducible rfl | exact cast_succ _ | assumption | exact (Int.toNat_of_nonneg (by omega)).symm | rfl) ?_) | refine hD _ _ ?_ | refine hL _ _ ?_ | (intro h; (try simp only [n1, n2, n3, n4, n5, n6] at h); first | (exfalso; omega) | (cases h; done) | skip)) <;> (conv => whnf))
              refine And.intro ⟨hD34, by rw [hDP]; exact Hd.one⟩ (And.intro ⟨rfl, rfl⟩ ?_)
              conv => whnf
              repeat' ((first | (refine Exists.intro D.cells (And.intro ⟨by rw [List.drop_zero]; exact List.take_of_length_le (by rw [hD34]; exact Nat.le_refl _), hD34⟩ ?_)) | refine And.intro (by repeat' first | exact trivial | refine And.intro rfl ?_) (And.intro (by first | exact fun _ h => h | exact fun _ => List.mem_cons_of_mem _ | exact fun _ => List.mem_append_right _) ?_) | (refine And.intro (fun h => ?_) (fun h => ?_) <;> (try simp only [n1, n2, n3, n4, n5, n6] at h) <;> first | (exfalso; omega) | (cases h; done) | skip) | refine And.intro (by omega) ?_ | refine Exists.intro _ (And.intro (by first | exact And.intro rfl rfl | exact Pl.den (by repeat constructor) | with_reducible rfl | exact cast_succ _ | assumption | exact (Int.toNat_of_nonneg (by omega)).symm | rfl) ?_) | refine hD _ _ ?_ | refine hL _ _ ?_ | (intro h; (try simp only [n1, n2, n3, n4, n5, n6] at h); first | (exfalso; omega) | (cases h; done) | skip)) <;> (conv => whnf))
              refine ⟨⟨D, l, some (c, xs), 0, f⟩, ⟨fun _ => ⟨P, ?_, hDP⟩, hfit, ⟨by simp only [hll]; exact hr1, by simp only [hll]; exact hr3⟩, fun h => absurd rfl h⟩, ?_⟩
              · exact note_of (mid := mid) (by rw [hP0, hP1, hdn, ← hP2, e, hq3, hz0]) hP3 (by rw [hP0]; exact hname) (by omega) hll (by omega) hsig
              · refine Ret.mk [3] _ (Fold.refl _) rfl (fun ρ ρ'' ha => ?_) ⟨OSub.ren rfl rfl, trivial⟩ (fun g hg => List.mem_append_left _ hg)
                have e0 : ρ'' 0 = ρ 3 := ha 0 (by omega)
                simp only [NtO.v, den, denL_cons, denL_nil, hll, e0]
                rfl
  · have hno : ∀ p m, ¬ IsNote S p m := fun p m h => hn (by
      have := h.few
      rw [note_parts h]
      simp only [List.length_cons, List.length_append, List.length_map, List.length_nil]; omega)
    refine Tri.of_code tok Tryd.func53 rfl rfl rfl (by decide) rfl (Nat.le_of_ble_eq_true rfl) ?_
    conv => whnf
    repeat' ((first | refine And.intro (by repeat' first | exact trivial | refine And.intro rfl ?_) (And.intro (by first | exact fun _ h => h | exact fun _ => List.mem_cons_of_mem _ | exact fun _ => List.mem_append_right _) ?_) | (refine And.intro (fun h => ?_) (fun h => ?_) <;> (try simp only [n1, n2, n3, n4, n5, n6] at h) <;> first | (exfalso; omega) | (cases h; done) | skip) | refine And.intro (by omega) ?_ | refine Exists.intro _ (And.intro (by first | exact And.intro rfl rfl | exact Pl.den (by repeat constructor) | with_reducible rfl | exact cast_succ _ | assumption | exact (Int.toNat_of_nonneg (by omega)).symm | rfl) ?_) | refine hD _ _ ?_ | refine hL _ _ ?_ | (intro h; (try simp only [n1, n2, n3, n4, n5, n6] at h); first | (exfalso; omega) | (cases h; done) | skip)) <;> (conv => whnf))
    refine Tri.use T.one [] rfl (args_ren rfl rfl) trivial (fun f hf => by first | exact hf | cases hf | simp_all) (fun u hu => ?_)
    conv => whnf
    repeat' ((first | refine And.intro (by repeat' first | exact trivial | refine And.intro rfl ?_) (And.intro (by first | exact fun _ h => h | exact fun _ => List.mem_cons_of_mem _ | exact fun _ => List.mem_append_right _) ?_) | (refine And.intro (fun h => ?_) (fun h => ?_) <;> (try simp only [n1, n2, n3, n4, n5, n6] at h) <;> first | (exfalso; omega) | (cases h; done) | skip) | refine And.intro (by omega) ?_ | refine Exists.intro _ (And.intro (by first | exact And.intro rfl rfl | exact Pl.den (by repeat constructor) | with_reducible rfl | exact cast_succ _ | assumption | exact (Int.toNat_of_nonneg (by omega)).symm | rfl) ?_) | refine hD _ _ ?_ | refine hL _ _ ?_ | (intro h; (try simp only [n1, n2, n3, n4, n5, n6] at h); first | (exfalso; omega) | (cases h; done) | skip)) <;> (conv => whnf))
    all_goals exact ⟨nonote 2, bad hno, retN fun _ _ => rfl⟩
end Go.Proofs.YtekgjjanikicnaaDoor.Sx
