/- Notes: rows of signatures. -/
import Derived.Test.YtekgjjanikicnaaDoorNt2
namespace Go.Proofs.YtekgjjanikicnaaDoor.Sx
open Go Go.RowKit
set_option maxRecDepth 100000
set_option linter.unusedSimpArgs false
set_option linter.unusedVariables false
theorem appFK_in : ∀ {a b : List Fact} {k : List Fact → Prop}, k (a ++ b) → appFK a b k
  | [], _, _, h => h
  | _ :: r, b, k, h => appFK_in (a := r) (b := b) (k := fun l => k (_ :: l)) h
/-- The cells of some signatures, one behind the other. -/
def sgRow (l : List Sg) : List Value := l.flatMap Sg.cells
theorem sgRow_get : ∀ {l : List Sg} {i : Nat} {s : Sg} {j : Nat} {y : Value}, l[i]? = some s → s.cells[j]? = some y → (sgRow l)[i * 4 + j]? = some y
  | x :: r, 0, s, j, y, h, hj => by
    simp only [List.getElem?_cons_zero, Option.some.injEq] at h
    subst h
    have hlt : j < 4 := (List.getElem?_eq_some_iff.1 hj).1
    simp only [sgRow, List.flatMap_cons, Nat.zero_mul, Nat.zero_add]
    rw [List.getElem?_append_left (by simpa [Sg.cells] using hlt)]
    exact hj
  | x :: r, i + 1, s, j, y, h, hj => by
    have h' : r[i]? = some s := by simpa using h
    have ih := sgRow_get h' hj
    simp only [sgRow, List.flatMap_cons] at ih ⊢
    rw [List.getElem?_append_right (by simp [Sg.cells]; omega)]
    have e : (i + 1) * 4 + j - x.cells.length = i * 4 + j := by simp [Sg.cells]; omega
    rw [e]
    exact ih
theorem sgRow_inv : ∀ (l : List Sg) (j : Nat) (y : Value), (sgRow l)[j]? = some y → ∃ i k s, j = i * 4 + k ∧ l[i]? = some s ∧ s.cells[k]? = some y
  | [], j, y, h => by simp [sgRow] at h
  | x :: r, j, y, h => by
    simp only [sgRow, List.flatMap_cons] at h
    by_cases hj : j < 4
    · rw [List.getElem?_append_left (by simpa [Sg.cells] using hj)] at h
      exact ⟨0, j, x, by omega, rfl, h⟩
    · rw [List.getElem?_append_right (by simp [Sg.cells]; omega)] at h
      obtain ⟨i, k, s, h1, h2, h3⟩ := sgRow_inv r _ y h
      have : x.cells.length = 4 := rfl
      exact ⟨i + 1, k, s, by omega, by simpa using h2, h3⟩
/-- Signatures that facts tell. -/
structure SgsAt (fx : List Fact) (A : Option Addr) (l : List Sg) : Prop where
  row : RowAt fx A (sgRow l)
  fit : ∀ s ∈ l, s.Fit fx
theorem SgsAt.cell {fx : List Fact} {A : Option Addr} {l : List Sg} (h : SgsAt fx A l) {i : Nat} {s : Sg} (hi : l[i]? = some s) {ad : Addr} (hA : A = some ad) {j : Nat} {y : Value} (hj : s.cells[j]? = some y) : FC fx (ad.add (i * 4 + j)) y :=
  h.row.2 ad hA _ _ (sgRow_get hi hj)
theorem SgsAt.field {fx : List Fact} {A : Option Addr} {l : List Sg} (h : SgsAt fx A l) {i : Nat} {s : Sg} (hi : l[i]? = some s) {ad : Addr} (hA : A = some ad) (j : Nat) {y : Value} (hj : s.cells[j]? = some y) : FC fx ((ad.add (i * 4)).add j) y := by
  rw [Addr.add_add]; exact h.cell hi hA hj
theorem SgsAt.adr {fx : List Fact} {A : Option Addr} {l : List Sg} (h : SgsAt fx A l) {i : Nat} (hi : i < l.length) : ∃ ad, A = some ad := by
  cases A with
  | none =>
    have := h.row.1 rfl
    have hl : l = [] := by
      cases l with
      | nil => rfl
      | cons x r => simp [sgRow, Sg.cells] at this
    subst hl
    simp at hi
  | some ad => exact ⟨ad, rfl⟩
theorem tFew21 (fx : List Fact) (A : Option Addr) (l : List Sg) (cap : Nat) (hS : SgsAt fx A l) (hl : l.length < 9223372036854775808) :
    Tri Tryd.prog 33 [.v (.slice A l.length cap)] [] 0 fx (RetE (α := Bool) 0 (fun b => b = true → l.length ≤ 15 ∧ ∀ s ∈ l, s.name.size ≤ 100 ∧ s.bs.length ≤ 200) (fun b => .v (.bool b)) (fun _ => []) 0 (fun _ => [])) := by
  refine Tri.of_code tok Tryd.func33 rfl rfl rfl (by decide) rfl (Nat.le_of_ble_eq_true rfl) ?_
  conv => whnf
  repeat' ((first | refine And.intro (by repeat' first | exact trivial | refine And.intro rfl ?_) (And.intro (by first | exact fun _ h => h | exact fun _ => List.mem_cons_of_mem _ | exact fun _ => List.mem_append_right _) ?_) | (refine And.intro (fun h => ?_) (fun h => ?_) <;> (try simp only [n1, n2, n3, n4, n5, n6] at h) <;> first | (exfalso; omega) | (cases h; done) | skip) | refine And.intro (by omega) ?_ | refine Exists.intro _ (And.intro (by first | exact And.intro rfl rfl | exact Pl.den (by repeat constructor) | with_reducible rfl | exact cast_succ _ | assumption | exact (Int.toNat_of_nonneg (by omega)).symm | rfl) ?_) | refine hD _ _ ?_ | refine hL _ _ ?_ | (intro h; (try simp only [n1, n2, n3, n4, n5, n6] at h); first | (exfalso; omega) | (cases h; done) | skip)) <;> (conv => whnf))
  refine loop_by tok (α := Nat) (fun i => ⟨[(0, .v (.slice A l.length cap)), (3, .v (.int .i64 i))], [], 0, fx⟩) (fun i => i ≤ l.length ∧ i ≤ 20 ∧ ∀ j s, j < i → l[j]? = some s → s.name.size ≤ 100 ∧ s.bs.length ≤ 200) (fun i => l.length - i) 0 [] (by simp) ⟨rfl, ?_, trivial, fun f hf => hf⟩ ?_
  · exact ⟨fun _ _ _ => rfl, fun _ _ _ => rfl, trivial⟩
  · rintro i ⟨hi, h20, ha⟩
    conv => whnf
    repeat' ((first | refine And.intro (by repeat' first | exact trivial | refine And.intro rfl ?_) (And.intro (by first | exact fun _ h => h | exact fun _ => List.mem_cons_of_mem _ | exact fun _ => List.mem_append_right _) ?_) | (refine And.intro (fun h => ?_) (fun h => ?_) <;> (try simp only [n1, n2, n3, n4, n5, n6] at h) <;> first | (exfalso; omega) | (cases h; done) | skip) | refine And.intro (by omega) ?_ | refine Exists.intro _ (And.intro (by first | exact And.intro rfl rfl | exact Pl.den (by repeat constructor) | with_reducible rfl | exact cast_succ _ | assumption | exact (Int.toNat_of_nonneg (by omega)).symm | rfl) ?_) | refine hD _ _ ?_ | refine hL _ _ ?_ | (intro h; (try simp only [n1, n2, n3, n4, n5, n6] at h); first | (exfalso; omega) | (cases h; done) | skip)) <;> (conv => whnf))
    · have hlt : i < l.length := by omega
      obtain ⟨ad, hA⟩ := hS.adr hlt
      obtain ⟨s, hs⟩ : ∃ s, l[i]? = some s := ⟨l[i], List.getElem?_eq_getElem hlt⟩
      refine ⟨ad, hA, ?_⟩
      conv => whnf
      repeat' ((first | (refine Exists.intro _ (And.intro (hS.field hs hA 0 rfl) ?_)) | (refine Exists.intro _ (And.intro (hS.field hs hA 3 rfl) ?_)) | (refine Exists.intro ad (And.intro hA ?_)) | refine And.intro (by repeat' first | exact trivial | refine And.intro rfl ?_) (And.intro (by first | exact fun _ h => h | exact fun _ => List.mem_cons_of_mem _ | exact fun _ => List.mem_append_right _) ?_) | (refine And.intro (fun h => ?_) (fun h => ?_) <;> (try simp only [n1, n2, n3, n4, n5, n6] at h) <;> first | (exfalso; omega) | (cases h; done) | skip) | refine And.intro (by omega) ?_ | refine Exists.intro _ (And.intro (by first | exact And.intro rfl rfl | exact Pl.den (by repeat constructor) | with_reducible rfl | exact cast_succ _ | assumption | exact (Int.toNat_of_nonneg (by omega)).symm | rfl) ?_) | refine hD _ _ ?_ | refine hL _ _ ?_ | (intro h; (try simp only [n1, n2, n3, n4, n5, n6] at h); first | (exfalso; omega) | (cases h; done) | skip)) <;> (conv => whnf))
      · exact ⟨false, (fun h => by cases h), Ret.noneS rfl (fun _ _ => rfl) (fun g hg => by cases hg)⟩
      · exact ⟨false, (fun h => by cases h), Ret.noneS rfl (fun _ _ => rfl) (fun g hg => by cases hg)⟩
      · refine ⟨i + 1, [], ⟨⟨by omega, by omega, fun j s' hj hs' => ?_⟩, by omega⟩, rfl, ⟨fun _ _ _ => rfl, fun _ _ _ => rfl, trivial⟩, trivial, fun f hf => hf⟩
        by_cases hji : j < i
        · exact ha j s' hji hs'
        · obtain rfl : j = i := by omega
          obtain rfl := Option.some.inj (hs.symm.trans hs')
          exact ⟨by omega, by omega⟩
    · refine ⟨false, fun h => by simp at h, ?_⟩
      refine Ret.noneS rfl (fun _ _ => ?_) (fun g hg => by cases hg)
      simp only [den]; congr 1; rw [decide_eq_false (by omega)]
    · refine ⟨decide ((l.length : Int) ≤ 15), fun h => ⟨by have := of_decide_eq_true h; omega, fun s hs => ?_⟩, Ret.noneS rfl (fun _ _ => rfl) (fun g hg => by cases hg)⟩
      obtain ⟨j, hj⟩ := List.getElem?_of_mem hs
      exact ha j s (by have := (List.getElem?_eq_some_iff.1 hj).1; omega) hj
structure SgB where
  i : Nat
  row : Option (Nat × List Value)
def SgB.inv (T : TypeId) (A : Option Addr) (l : List Sg) (cap : Nat) (fx : List Fact) (x : SgB) : SS := match x.row with
  | none => ⟨[(0, .v (.slice A l.length cap)), (3, .v (.slice none 0 0)), (4, .v (.int .i64 x.i))], [], 0, fx⟩
  | some (c, xs) => ⟨[(0, .v (.slice A l.length cap)), (3, .s 0 0 x.i c), (4, .v (.int .i64 x.i))], [(0, .row xs T)], 1, fx⟩
structure SgB.Pr (l : List Sg) (x : SgB) : Prop where
  i : x.i ≤ l.length
  row : match x.row with
    | none => x.i = 0
    | some (c, xs) => xs.take (x.i * 4) = sgRow (l.take x.i) ∧ c * 4 = xs.length ∧ x.i ≤ c
theorem tSigs0 (fx : List Fact) (A : Option Addr) (l : List Sg) (cap : Nat) (hS : SgsAt fx A l) (hl : l.length ≤ 1000000) :
    Tri Tryd.prog 37 [.v (.slice A l.length cap)] [] 0 fx (RetE (α := Option (Nat × List Value)) 0 (fun x => match x with | none => l = [] | some (c, xs) => xs.take (l.length * 4) = sgRow l ∧ l.length ≤ c)
      (fun x => match x with | none => .v (.slice none 0 0) | some (c, xs) => .s 0 0 l.length c) (fun x => match x with | none => [] | some (c, xs) => [(0, .row xs 108)]) 1 (fun _ => [])) := by
  refine Tri.of_code tok Tryd.func37 rfl rfl rfl (by decide) rfl (Nat.le_of_ble_eq_true rfl) ?_
  conv => whnf
  repeat' ((first | refine And.intro (by repeat' first | exact trivial | refine And.intro rfl ?_) (And.intro (by first | exact fun _ h => h | exact fun _ => List.mem_cons_of_mem _ | exact fun _ => List.mem_append_right _) ?_) | (refine And.intro (fun h => ?_) (fun h => ?_) <;> (try simp only [n1, n2, n3, n4, n5, n6] at h) <;> first | (exfalso; omega) | (cases h; done) | skip) | refine And.intro (by omega) ?_ | refine Exists.intro _ (And.intro (by first | exact And.intro rfl rfl | exact Pl.den (by repeat constructor) | with_reducible rfl | exact cast_succ _ | assumption | exact (Int.toNat_of_nonneg (by omega)).symm | rfl) ?_) | refine hD _ _ ?_ | refine hL _ _ ?_ | (intro h; (try simp only [n1, n2, n3, n4, n5, n6] at h); first | (exfalso; omega) | (cases h; done) | skip)) <;> (conv => whnf))
  refine loop_by tok (SgB.inv 108 A l cap fx) (SgB.Pr l) (fun x => l.length - x.i) ⟨0, none⟩ [] ⟨Nat.zero_le _, rfl⟩ ⟨rfl, ⟨fun _ _ _ => rfl, fun _ _ _ => rfl, fun _ _ _ => rfl, trivial⟩, trivial, fun f hf => hf⟩ ?_
  rintro ⟨i, row⟩ hx
  have hi := hx.i
  have hr := hx.row
  simp only at hi hr
  cases row with
  | none =>
    obtain rfl : i = 0 := hr
    simp only [SgB.inv]
    conv => whnf
    repeat' ((first | refine And.intro (by repeat' first | exact trivial | refine And.intro rfl ?_) (And.intro (by first | exact fun _ h => h | exact fun _ => List.mem_cons_of_mem _ | exact fun _ => List.mem_append_right _) ?_) | (refine And.intro (fun h => ?_) (fun h => ?_) <;> (try simp only [n1, n2, n3, n4, n5, n6] at h) <;> first | (exfalso; omega) | (cases h; done) | skip) | refine And.intro (by omega) ?_ | refine Exists.intro _ (And.intro (by first | exact And.intro rfl rfl | exact Pl.den (by repeat constructor) | with_reducible rfl | exact cast_succ _ | assumption | exact (Int.toNat_of_nonneg (by omega)).symm | rfl) ?_) | refine hD _ _ ?_ | refine hL _ _ ?_ | (intro h; (try simp only [n1, n2, n3, n4, n5, n6] at h); first | (exfalso; omega) | (cases h; done) | skip)) <;> (conv => whnf))
    · have hlt : 0 < l.length := by omega
      obtain ⟨ad, hA⟩ := hS.adr hlt
      obtain ⟨s, hs⟩ : ∃ s, l[0]? = some s := ⟨l[0], List.getElem?_eq_getElem hlt⟩
      refine ⟨ad, hA, ?_⟩
      conv => whnf
      repeat' ((first | (refine Exists.intro s.cells (And.intro ⟨rfl, fun j y hj => hS.field hs hA j hj⟩ ?_)) | refine And.intro (by repeat' first | exact trivial | refine And.intro rfl ?_) (And.intro (by first | exact fun _ h => h | exact fun _ => List.mem_cons_of_mem _ | exact fun _ => List.mem_append_right _) ?_) | (refine And.intro (fun h => ?_) (fun h => ?_) <;> (try simp only [n1, n2, n3, n4, n5, n6] at h) <;> first | (exfalso; omega) | (cases h; done) | skip) | refine And.intro (by omega) ?_ | refine Exists.intro _ (And.intro (by first | exact And.intro rfl rfl | exact Pl.den (by repeat constructor) | with_reducible rfl | exact cast_succ _ | assumption | exact (Int.toNat_of_nonneg (by omega)).symm | rfl) ?_) | refine hD _ _ ?_ | refine hL _ _ ?_ | (intro h; (try simp only [n1, n2, n3, n4, n5, n6] at h); first | (exfalso; omega) | (cases h; done) | skip)) <;> (conv => whnf))
      rename_i m sp
      have hsp := h
      refine ⟨⟨1, some (1 + m, s.cells ++ sp)⟩, [1], ⟨⟨hlt, ?_, ?_, by simp only; omega⟩, by simp only; omega⟩, rfl, ⟨fun _ _ _ => rfl, SEq.ren rfl rfl, fun _ _ _ => rfl, trivial⟩, ⟨OSub.ren rfl rfl, trivial⟩, fun f hf => hf⟩
      · simp only
        rw [List.take_left' (by simp [Sg.cells]), take_succ_of hs]
        simp [sgRow]
      · simp only [List.length_append, hsp]
        simp [Sg.cells]; omega
    · exact ⟨none, List.length_eq_zero_iff.1 (by omega), Ret.mk [] [] (Fold.refl _) rfl (fun _ _ _ => rfl) trivial (fun _ h => by cases h)⟩
  | some r =>
    obtain ⟨c, xs⟩ := r
    simp only at hr
    obtain ⟨hr1, hr2, hr3⟩ := hr
    simp only [SgB.inv]
    conv => whnf
    repeat' ((first | refine And.intro (by repeat' first | exact trivial | refine And.intro rfl ?_) (And.intro (by first | exact fun _ h => h | exact fun _ => List.mem_cons_of_mem _ | exact fun _ => List.mem_append_right _) ?_) | (refine And.intro (fun h => ?_) (fun h => ?_) <;> (try simp only [n1, n2, n3, n4, n5, n6] at h) <;> first | (exfalso; omega) | (cases h; done) | skip) | refine And.intro (by omega) ?_ | refine Exists.intro _ (And.intro (by first | exact And.intro rfl rfl | exact Pl.den (by repeat constructor) | with_reducible rfl | exact cast_succ _ | assumption | exact (Int.toNat_of_nonneg (by omega)).symm | rfl) ?_) | refine hD _ _ ?_ | refine hL _ _ ?_ | (intro h; (try simp only [n1, n2, n3, n4, n5, n6] at h); first | (exfalso; omega) | (cases h; done) | skip)) <;> (conv => whnf))
    · have hlt : i < l.length := by omega
      obtain ⟨ad, hA⟩ := hS.adr hlt
      obtain ⟨s, hs⟩ : ∃ s, l[i]? = some s := ⟨l[i], List.getElem?_eq_getElem hlt⟩
      refine ⟨ad, hA, ?_⟩
      conv => whnf
      repeat' ((first | (refine Exists.intro s.cells (And.intro ⟨rfl, fun j y hj => hS.field hs hA j hj⟩ ?_)) | refine And.intro (by repeat' first | exact trivial | refine And.intro rfl ?_) (And.intro (by first | exact fun _ h => h | exact fun _ => List.mem_cons_of_mem _ | exact fun _ => List.mem_append_right _) ?_) | (refine And.intro (fun h => ?_) (fun h => ?_) <;> (try simp only [n1, n2, n3, n4, n5, n6] at h) <;> first | (exfalso; omega) | (cases h; done) | skip) | refine And.intro (by omega) ?_ | refine Exists.intro _ (And.intro (by first | exact And.intro rfl rfl | exact Pl.den (by repeat constructor) | with_reducible rfl | exact cast_succ _ | assumption | exact (Int.toNat_of_nonneg (by omega)).symm | rfl) ?_) | refine hD _ _ ?_ | refine hL _ _ ?_ | (intro h; (try simp only [n1, n2, n3, n4, n5, n6] at h); first | (exfalso; omega) | (cases h; done) | skip)) <;> (conv => whnf))
      refine ⟨⟨by omega, hr3, hr2, Sg.one⟩, fun m sp hsp => ?_⟩
      conv => whnf
      repeat' ((first | refine And.intro (by repeat' first | exact trivial | refine And.intro rfl ?_) (And.intro (by first | exact fun _ h => h | exact fun _ => List.mem_cons_of_mem _ | exact fun _ => List.mem_append_right _) ?_) | (refine And.intro (fun h => ?_) (fun h => ?_) <;> (try simp only [n1, n2, n3, n4, n5, n6] at h) <;> first | (exfalso; omega) | (cases h; done) | skip) | refine And.intro (by omega) ?_ | refine Exists.intro _ (And.intro (by first | exact And.intro rfl rfl | exact Pl.den (by repeat constructor) | with_reducible rfl | exact cast_succ _ | assumption | exact (Int.toNat_of_nonneg (by omega)).symm | rfl) ?_) | refine hD _ _ ?_ | refine hL _ _ ?_ | (intro h; (try simp only [n1, n2, n3, n4, n5, n6] at h); first | (exfalso; omega) | (cases h; done) | skip)) <;> (conv => whnf))
      have hlt2 : (sgRow (l.take i)).length = i * 4 := by rw [← hr1, List.length_take]; omega
      refine ⟨⟨i + 1, some (i + 1 + m, xs.take (i * 4) ++ s.cells ++ sp)⟩, [2], ⟨⟨hlt, ?_, ?_, by simp only; omega⟩, by simp only; omega⟩, rfl, ⟨fun _ _ _ => rfl, SEq.ren rfl rfl, fun _ _ _ => rfl, trivial⟩, ⟨OSub.ren rfl rfl, trivial⟩, fun f hf => hf⟩
      · simp only
        rw [hr1, List.take_left' (by rw [List.length_append, hlt2]; simp [Sg.cells]; omega), take_succ_of hs]
        simp [sgRow]
      · simp only [List.length_append, hsp, hr1, hlt2]
        simp [Sg.cells]; omega
    · obtain rfl : i = l.length := by omega
      refine ⟨some (c, xs), ⟨by rw [hr1, List.take_of_length_le (Nat.le_refl _)], hr3⟩, ?_⟩
      exact Ret.mk [0] _ (Fold.refl _) rfl (SEq.ren rfl rfl) ⟨OSub.ren rfl rfl, trivial⟩ (fun g hg => by cases hg)
theorem RowAt.row {fx : List Fact} {b n : Nat} {xs vs : List Value} {T : TypeId} (h : rowFact b xs T ∈ fx) (hx : xs.take n = vs) : RowAt fx (some ⟨b, 0, none⟩) vs := by
  refine ⟨fun e => (by cases e), fun ad e j y hj => ?_⟩
  obtain rfl := Option.some.inj e
  rw [add_at, Nat.zero_add]
  refine rowFact_FC h ?_
  rw [← hx] at hj
  have hlt := (List.getElem?_eq_some_iff.1 hj).1
  rw [List.length_take] at hlt
  rwa [List.getElem?_take, if_pos (by omega)] at hj
theorem Sg.Fit.mono {fx fx' : List Fact} {s : Sg} (h : s.Fit fx) (hf : ∀ f, f ∈ fx → f ∈ fx') : s.Fit fx' := ⟨h.name, h.num, h.bs.mono hf, h.cap, h.len⟩
/-- A row of signatures that was made. -/
structure SgW where
  A : Option Addr
  cap : Nat
  f : List Fact
def SgW.pr (fx : List Fact) (l : List Sg) (x : SgW) : Prop := SgsAt (x.f ++ fx) x.A l
def SgW.v (l : List Sg) (x : SgW) : SV := .v (.slice x.A l.length x.cap)
theorem tSigs (fx : List Fact) (A : Option Addr) (l : List Sg) (cap : Nat) (hS : SgsAt fx A l) (hl : l.length ≤ 1000000) :
    Tri Tryd.prog 37 [.v (.slice A l.length cap)] [] 0 fx (RetE (α := SgW) 0 (SgW.pr fx l) (SgW.v l) (fun _ => []) 0 SgW.f) := by
  refine (tSigs0 fx A l cap hS hl).conv.share2 fun y h m f ⟨a, hp, e1, e2, e3, e4⟩ => ?_
  subst e1 e2 e3 e4
  cases a with
  | none =>
    left
    obtain rfl : l = [] := hp
    refine ⟨⟨none, 0, []⟩, ⟨⟨fun _ => rfl, fun ad e => by cases e⟩, fun s hs => by cases hs⟩, ?_⟩
    exact Ret.mk [] [] (Fold.refl _) rfl (fun _ _ _ => rfl) trivial (fun _ h => h)
  | some r =>
    obtain ⟨c, xs⟩ := r
    right
    obtain ⟨h1, h2⟩ := hp
    refine ⟨0, xs, 108, List.mem_cons_self .., fun b => ⟨.v (.slice (some ⟨b, 0, none⟩) l.length c), fun ρ e => by simp only [den, e], ?_⟩⟩
    refine ⟨⟨some ⟨b, 0, none⟩, c, [rowFact b xs 108]⟩, ⟨RowAt.row (List.mem_cons_self ..) h1, fun s hs => (hS.fit s hs).mono fun f hf => List.mem_append_right _ hf⟩, ?_⟩
    exact Ret.mk [] [] (Fold.refl _) rfl (fun _ _ _ => rfl) trivial (fun _ h => h)
end Go.Proofs.YtekgjjanikicnaaDoor.Sx
