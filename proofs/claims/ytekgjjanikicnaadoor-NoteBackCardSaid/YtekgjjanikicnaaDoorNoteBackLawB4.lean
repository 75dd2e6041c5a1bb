/- Lemmas of this proof, part 4: 10 texts joined. -/
import Derived.Test.YtekgjjanikicnaaDoorNoteBackLawB3
import Derived.DeepKeys
import Derived.Test.YtekgjjanikicnaaDoorSxL
import Derived.Test.YtekgjjanikicnaaDoorSxO
import Derived.Test.YtekgjjanikicnaaDoorRows
import Derived.LaidLaws
import Derived.LaidHandle
import Derived.LaidMore
import Derived.MakeChecks
import Derived.Lib.LaidTab
import Derived.Lib.LaidU8
import Derived.OpenShut
import Derived.JoinedOf
import Derived.Stop.Joined
import Derived.Test.YtekgjjanikicnaaDoorNoteBackLawB1
import Derived.Test.YtekgjjanikicnaaDoorNoteBackLawB2
import Derived.Shelf.Vars
import Derived.HandedShaped
import Derived.Lay
namespace Go.Proofs.YtekgjjanikicnaaDoor.Sx
open Go Go.RowKit
set_option maxRecDepth 100000
set_option linter.unusedSimpArgs false
set_option linter.unusedVariables false
theorem four_of {α : Type} : ∀ {l : List α}, 4 ≤ l.length → ∃ a b c d r, l = a :: b :: c :: d :: r
  | a :: b :: c :: d :: r, _ => ⟨a, b, c, d, r, rfl⟩
theorem note_lines {S : List UInt8} {p : Hp} {m : List Sp} (h : IsNote S p m) : parts 10 S = (p.org :: Lib.decDigits p.size :: enc p.root :: [] :: m.map Sp.bare) ++ [[]] := by
  rw [note_parts h]; rfl
def RfI.sl (S : List UInt8) (m c0 : Nat) (x : RdI) (y : SV) : List (Nat × SV) := [(0, .v (strS S)), (2, .p 0 0), (5, .s 1 0 m c0), (11, .p 2 0), (12, y), (13, .v (.int .i64 ((x.i + 4 : Nat) : Int)))]
def RfI.inv (S : List UInt8) (c0 : Nat) (q : List Value) (d : Hd) (m : Nat) (fx : List Fact) (x : RdI) : SS := match x.row with
  | none => ⟨RfI.sl S m c0 x (.v (.slice none 0 0)), [(0, .cells zc52 47), (1, .row q 9), (2, .row d.cells 47)], 3, x.f ++ fx⟩
  | some (c, xs) => ⟨RfI.sl S m c0 x (.s 3 0 x.i c), [(0, .cells zc52 47), (1, .row q 9), (2, .row d.cells 47), (3, .row xs 106)], 4, x.f ++ fx⟩
theorem pl_line (t : Sg) : t.pl.sg.line = t.line ∧ (t.pl.sg.ok = t.ok) := by
  obtain ⟨e2, e3⟩ := ok_pl (s := t.pl.sg) (t := t) (by rw [Sp.pl])
  exact ⟨e3, e2⟩
theorem pl_lines : ∀ (l : List Sg), ((l.map Sg.pl).map Sp.sg).flatMap Sg.line = l.flatMap Sg.line
  | [] => rfl
  | t :: r => by
    simp only [List.map_cons, List.flatMap_cons, (pl_line t).1]
    rw [pl_lines r]
theorem ref_note {S : List UInt8} {P : Hp} {mid : List (List UInt8)} {l : List Sg} {x : List UInt8 × Nat} (h32 : P.root.length = 32) (hl : l.length = mid.length) (hs : ∀ (j : Nat) (q : List UInt8) (t : Sg), mid[j]? = some q → l[j]? = some t → IsSig q t.pl)
    (hx : WrP P.hd l x) (h0 : x.2 = 0) (h1 : x.1 = S) : IsNote S P (l.map Sg.pl) := by
  obtain ⟨k1, k2, k3⟩ := hx.yes h0
  refine ⟨k2, h32, fun y hy => ?_, by rw [List.length_map]; exact k3, ?_⟩
  · obtain ⟨t, ht, rfl⟩ := List.mem_map.1 hy
    obtain ⟨j, hj⟩ := List.getElem?_of_mem ht
    have hlt := (List.getElem?_eq_some_iff.1 hj).1
    have h1 := hs j mid[j] t (List.getElem?_eq_getElem (by omega)) hj
    exact ⟨h1.ok, h1.num⟩
  · rw [← h1, k1]
    unfold noteL
    rw [pl_lines]
theorem ref_only {S : List UInt8} {P p : Hp} {mid : List (List UInt8)} {m : List Sp} {l : List Sg} {x : List UInt8 × Nat} (hl : l.length = mid.length) (hs : ∀ (j : Nat) (q : List UInt8) (t : Sg), mid[j]? = some q → l[j]? = some t → IsSig q t.pl)
    (hx : WrP P.hd l x) (k : IsNote S p m) (hp : p = P) (hm : mid = m.map Sp.bare) : x.2 = 0 ∧ x.1 = S := by
  subst hp
  have e : m = l.map Sg.pl := by
    apply List.ext_getElem?
    intro j
    by_cases hj : j < m.length
    · have hj2 : j < l.length := by rw [hl, hm, List.length_map]; exact hj
      rw [List.getElem?_map, List.getElem?_eq_getElem hj, List.getElem?_eq_getElem hj2]
      have h1 := hs j m[j].bare l[j] (by rw [hm, List.getElem?_map, List.getElem?_eq_getElem hj]; rfl) (List.getElem?_eq_getElem hj2)
      have h2 := k.all m[j] (List.getElem_mem hj)
      rw [(isSig_bare h2.1 h2.2).inj h1]; rfl
    · have hj2 : ¬ j < l.length := by rw [hl, hm, List.length_map]; exact hj
      rw [List.getElem?_eq_none (by omega), List.getElem?_eq_none (by rw [List.length_map]; omega)]
  have h0 := hx.ok k.ok (fun t ht => by
    have := (k.all t.pl (by rw [e]; exact List.mem_map.2 ⟨t, ht, rfl⟩)).1
    rwa [(pl_line t).2] at this) (by have := k.few; rw [e, List.length_map] at this; exact this)
  refine ⟨h0, ?_⟩
  rw [(hx.yes h0).1, ← k.text, e]
  unfold noteL
  rw [pl_lines]
set_option maxHeartbeats 4000000 in
theorem tRefRead0 (fx : List Fact) (S : List UInt8) (hS : S.length ≤ 9223372036854775807) :
    Tri Tryd.prog 54 [.v (strS S)] [] 0 fx (RetE (α := NtO) 0 (NtO.pr fx S) NtO.v (fun x => match x.row with | none => [] | some (c, xs) => [(0, .row xs 106)]) 1 NtO.f) := by
  have hSs := arr_size S
  by_cases h4 : 4000 < S.length
  · have hno : ∀ p m, ¬ IsNote S p m := fun p m h => by have := h.len; omega
    refine Tri.of_code tok Tryd.func54 rfl rfl rfl (by decide) rfl (Nat.le_of_ble_eq_true rfl) ?_
    conv => whnf
    repeat' ((first | refine And.intro (by repeat' first | exact trivial | refine And.intro rfl ?_) (And.intro (by first | exact fun _ h => h | exact fun _ => List.mem_cons_of_mem _ | exact fun _ => List.mem_append_right _) ?_) | (refine And.intro (fun h => ?_) (fun h => ?_) <;> (try simp only [n1, n2, n3, n4, n5, n6] at h) <;> first | (exfalso; omega) | (cases h; done) | skip) | refine And.intro (by omega) ?_ | refine Exists.intro _ (And.intro (by first | exact And.intro rfl rfl | exact Pl.den (by repeat constructor) | with_reducible rfl | exact cast_succ _ | assumption | exact (Int.toNat_of_nonneg (by omega)).symm | rfl) ?_) | refine hD _ _ ?_ | refine hL _ _ ?_ | (intro h; (try simp only [n1, n2, n3, n4, n5, n6] at h); first | (exfalso; omega) | (cases h; done) | skip)) <;> (conv => whnf))
    exact ⟨nonote 4, nonote_pr (by rw [if_pos h4]) hno, retN fun _ _ => rfl⟩
  have bad : (∀ p m, ¬ IsNote S p m) → NtO.pr fx S (nonote 2) := fun hno => nonote_pr (by rw [if_neg h4]) hno
  have T := tLines fx S (by omega)
  refine Tri.of_code tok Tryd.func54 rfl rfl rfl (by decide) rfl (Nat.le_of_ble_eq_true rfl) ?_
  conv => whnf
  repeat' ((first | refine And.intro (by repeat' first | exact trivial | refine And.intro rfl ?_) (And.intro (by first | exact fun _ h => h | exact fun _ => List.mem_cons_of_mem _ | exact fun _ => List.mem_append_right _) ?_) | (refine And.intro (fun h => ?_) (fun h => ?_) <;> (try simp only [n1, n2, n3, n4, n5, n6] at h) <;> first | (exfalso; omega) | (cases h; done) | skip) | refine And.intro (by omega) ?_ | refine Exists.intro _ (And.intro (by first | exact And.intro rfl rfl | exact Pl.den (by repeat constructor) | with_reducible rfl | exact cast_succ _ | assumption | exact (Int.toNat_of_nonneg (by omega)).symm | rfl) ?_) | refine hD _ _ ?_ | refine hL _ _ ?_ | (intro h; (try simp only [n1, n2, n3, n4, n5, n6] at h); first | (exfalso; omega) | (cases h; done) | skip)) <;> (conv => whnf))
  refine Tri.use T [] rfl (fun _ _ _ => rfl) trivial (fun f hf => by first | exact hf | cases hf) (fun x hx => ?_)
  obtain ⟨L, z, row⟩ := x
  obtain ⟨hx1, hx2⟩ := hx
  simp only [LnR.fit] at hx1 hx2
  cases row with
  | none =>
    have hL : L = [] := hx2
    subst hL
    have hno : ∀ p m, ¬ IsNote S p m := fun p m h => by
      have := note_parts h
      rw [hx1] at this
      simp at this
    conv => whnf
    repeat' ((first | refine And.intro (by repeat' first | exact trivial | refine And.intro rfl ?_) (And.intro (by first | exact fun _ h => h | exact fun _ => List.mem_cons_of_mem _ | exact fun _ => List.mem_append_right _) ?_) | (refine And.intro (fun h => ?_) (fun h => ?_) <;> (try simp only [n1, n2, n3, n4, n5, n6] at h) <;> first | (exfalso; omega) | (cases h; done) | skip) | refine And.intro (by omega) ?_ | refine Exists.intro _ (And.intro (by first | exact And.intro rfl rfl | exact Pl.den (by repeat constructor) | with_reducible rfl | exact cast_succ _ | assumption | exact (Int.toNat_of_nonneg (by omega)).symm | rfl) ?_) | refine hD _ _ ?_ | refine hL _ _ ?_ | (intro h; (try simp only [n1, n2, n3, n4, n5, n6] at h); first | (exfalso; omega) | (cases h; done) | skip)) <;> (conv => whnf))
    all_goals exact ⟨nonote 2, bad hno, retN fun _ _ => rfl⟩
  | some r =>
    obtain ⟨c0, xs⟩ := r
    obtain ⟨hx3, hx4⟩ := hx2
    by_cases h5 : 4 ≤ L.length
    · obtain ⟨q0, q1, q2, q3, mid, e⟩ := four_of h5
      subst e
      have hLl : (q0 :: q1 :: q2 :: q3 :: mid).length = mid.length + 4 := rfl
      have hsp : ∀ p m, IsNote S p m → q0 = p.org ∧ q1 = Lib.decDigits p.size ∧ q2 = enc p.root ∧ q3 = [] ∧ mid = m.map Sp.bare ∧ z = [] := fun p m h => by
        have := hx1.symm.trans (note_lines h)
        obtain ⟨k5, k6⟩ := List.append_inj' this rfl
        simp only [List.cons.injEq] at k5
        obtain ⟨k0, k1, k2, k3, k4⟩ := k5
        exact ⟨k0, k1, k2, k3, k4, (List.cons.inj k6).1⟩
      have hpl := parts_le 10 S
      rw [hx1] at hpl
      have hl0 := hpl q0 (by simp)
      have hl1 := hpl q1 (by simp)
      have hl2 := hpl q2 (by simp)
      have hpl2 : ∀ p ∈ mid, p.length ≤ S.length := fun p hp => hpl p (by simp [hp])
      have hmids : mid.length ≤ S.length := by
        have h1 := parts_len 10 S
        have h2 := List.count_le_length (a := (10 : UInt8)) (l := S)
        rw [hx1, List.length_append, hLl] at h1
        simp only [List.length_singleton] at h1
        omega
      have hs0 := arr_size q0
      have hs1 := arr_size q1
      have hs2 := arr_size q2
      have hxi : ∀ (j : Nat) (q : List UInt8), (q0 :: q1 :: q2 :: q3 :: mid)[j]? = some q → xs[0 + j * 1]? = some (strS q) := fun j q hj => by
        have hlt := (List.getElem?_eq_some_iff.1 hj).1
        have h1 : (bsV (q0 :: q1 :: q2 :: q3 :: mid))[j]? = some (strS q) := by rw [bsV, List.getElem?_map, hj]; rfl
        rw [← hx3, List.getElem?_take, if_pos hlt] at h1
        rwa [Nat.zero_add, Nat.mul_one]
      have T3 := tRefNumber fx ⟨q1.toArray⟩ (by omega)
      have el3 : (⟨q1.toArray⟩ : ByteArray).data.toList = q1 := rfl
      rw [el3] at T3
      have T4 := tRefDecode fx ⟨q2.toArray⟩ (by omega)
      have el4 : (⟨q2.toArray⟩ : ByteArray).data.toList = q2 := rfl
      rw [el4] at T4
      conv => whnf
      repeat' ((first | refine And.intro (by repeat' first | exact trivial | refine And.intro rfl ?_) (And.intro (by first | exact fun _ h => h | exact fun _ => List.mem_cons_of_mem _ | exact fun _ => List.mem_append_right _) ?_) | (refine And.intro (fun h => ?_) (fun h => ?_) <;> (try simp only [n1, n2, n3, n4, n5, n6] at h) <;> first | (exfalso; omega) | (cases h; done) | skip) | refine And.intro (by omega) ?_ | refine Exists.intro _ (And.intro (by first | exact And.intro rfl rfl | exact Pl.den (by repeat constructor) | with_reducible rfl | exact cast_succ _ | assumption | exact (Int.toNat_of_nonneg (by omega)).symm | rfl) ?_) | refine hD _ _ ?_ | refine hL _ _ ?_ | (intro h; (try simp only [n1, n2, n3, n4, n5, n6] at h); first | (exfalso; omega) | (cases h; done) | skip)) <;> (conv => whnf))
      · exact ⟨nonote 2, bad (fun p m k => by rw [(hsp p m k).2.2.2.2.2] at h; simp at h), retN fun _ _ => rfl⟩
      have hz0 : z = [] := by simpa using h
      refine And.intro (by show 1 < mid.length + 4; omega) ?_
      conv => whnf
      repeat' ((first | (refine Exists.intro _ (And.intro (hxi 1 _ rfl) ?_)) | refine And.intro (by repeat' first | exact trivial | refine And.intro rfl ?_) (And.intro (by first | exact fun _ h => h | exact fun _ => List.mem_cons_of_mem _ | exact fun _ => List.mem_append_right _) ?_) | (refine And.intro (fun h => ?_) (fun h => ?_) <;> (try simp only [n1, n2, n3, n4, n5, n6] at h) <;> first | (exfalso; omega) | (cases h; done) | skip) | refine And.intro (by omega) ?_ | refine Exists.intro _ (And.intro (by first | exact And.intro rfl rfl | exact Pl.den (by repeat constructor) | with_reducible rfl | exact cast_succ _ | assumption | exact (Int.toNat_of_nonneg (by omega)).symm | rfl) ?_) | refine hD _ _ ?_ | refine hL _ _ ?_ | (intro h; (try simp only [n1, n2, n3, n4, n5, n6] at h); first | (exfalso; omega) | (cases h; done) | skip)) <;> (conv => whnf))
      obtain ⟨n, hn⟩ : ∃ n : Nat, n = (numOf q1).getD 0 := ⟨_, rfl⟩
      have hn64 : n < 18446744073709551616 := by
        cases h3 : numOf q1 with
        | none => rw [h3] at hn; simp at hn; omega
        | some u => rw [h3] at hn; simp at hn; rw [hn]; exact (numOf_some h3).1
      have hpn : ∀ p m, IsNote S p m → p.size = n ∧ n < 2147483648 := fun p m k => by
        have h3 := k.ok
        unfold Hd.ok at h3
        rw [Bool.and_eq_true] at h3
        have h4 : (0 : Int) ≤ (p.size : Int) ∧ (p.size : Int) < 2147483648 := of_decide_eq_true h3.2
        have h5 := numOf_dec (u := p.size) (by omega)
        rw [← (hsp p m k).2.1] at h5
        rw [h5] at hn
        simp at hn
        omega
      have T3' := T3.one.reval (v' := .tup [.v (.int .u64 (n : Int)), .v (.bool (numOf q1).isSome)]) (fun ρ => by rw [hn]; cases numOf q1 <;> rfl)
      refine Tri.use (T3') [] rfl (fun _ _ _ => rfl) trivial (fun f hf => by first | exact hf | cases hf) (fun u hu => ?_)
      conv => whnf
      repeat' ((first | refine And.intro (by repeat' first | exact trivial | refine And.intro rfl ?_) (And.intro (by first | exact fun _ h => h | exact fun _ => List.mem_cons_of_mem _ | exact fun _ => List.mem_append_right _) ?_) | (refine And.intro (fun h => ?_) (fun h => ?_) <;> (try simp only [n1, n2, n3, n4, n5, n6] at h) <;> first | (exfalso; omega) | (cases h; done) | skip) | refine And.intro (by omega) ?_ | refine Exists.intro _ (And.intro (by first | exact And.intro rfl rfl | exact Pl.den (by repeat constructor) | with_reducible rfl | exact cast_succ _ | assumption | exact (Int.toNat_of_nonneg (by omega)).symm | rfl) ?_) | refine hD _ _ ?_ | refine hL _ _ ?_ | (intro h; (try simp only [n1, n2, n3, n4, n5, n6] at h); first | (exfalso; omega) | (cases h; done) | skip)) <;> (conv => whnf))
      refine And.intro (by show 2 < mid.length + 4; omega) ?_
      conv => whnf
      repeat' ((first | (refine Exists.intro _ (And.intro (hxi 2 _ rfl) ?_)) | refine And.intro (by repeat' first | exact trivial | refine And.intro rfl ?_) (And.intro (by first | exact fun _ h => h | exact fun _ => List.mem_cons_of_mem _ | exact fun _ => List.mem_append_right _) ?_) | (refine And.intro (fun h => ?_) (fun h => ?_) <;> (try simp only [n1, n2, n3, n4, n5, n6] at h) <;> first | (exfalso; omega) | (cases h; done) | skip) | refine And.intro (by omega) ?_ | refine Exists.intro _ (And.intro (by first | exact And.intro rfl rfl | exact Pl.den (by repeat constructor) | with_reducible rfl | exact cast_succ _ | assumption | exact (Int.toNat_of_nonneg (by omega)).symm | rfl) ?_) | refine hD _ _ ?_ | refine hL _ _ ?_ | (intro h; (try simp only [n1, n2, n3, n4, n5, n6] at h); first | (exfalso; omega) | (cases h; done) | skip)) <;> (conv => whnf))
      refine Tri.use (T4) [] rfl (fun _ _ _ => rfl) trivial (fun f hf => by first | exact hf | cases hf) (fun y hy => ?_)
      obtain ⟨A, bs, cap, okd, fs⟩ := y
      have hxno := hy.no
      have hxyes := hy.yes
      have hxat := hy.at_
      have hxcap := hy.cap
      simp only at hxno hxyes hxat hxcap
      have hbsp : ∀ p m, IsNote S p m → bs = p.root := fun p m k => by
        have h4 := (hsp p m k).2.2.1
        cases okd with
        | false => exact absurd h4 ((hxno rfl).2 p.root)
        | true => exact enc_inj ((hxyes rfl).symm.trans h4)
      conv => whnf
      refine appFK_in ?_
      conv => whnf
      repeat' ((first | refine And.intro (by repeat' first | exact trivial | refine And.intro rfl ?_) (And.intro (by first | exact fun _ h => h | exact fun _ => List.mem_cons_of_mem _ | exact fun _ => List.mem_append_right _) ?_) | (refine And.intro (fun h => ?_) (fun h => ?_) <;> (try simp only [n1, n2, n3, n4, n5, n6] at h) <;> first | (exfalso; omega) | (cases h; done) | skip) | refine And.intro (by omega) ?_ | refine Exists.intro _ (And.intro (by first | exact And.intro rfl rfl | exact Pl.den (by repeat constructor) | with_reducible rfl | exact cast_succ _ | assumption | exact (Int.toNat_of_nonneg (by omega)).symm | rfl) ?_) | refine hD _ _ ?_ | refine hL _ _ ?_ | (intro h; (try simp only [n1, n2, n3, n4, n5, n6] at h); first | (exfalso; omega) | (cases h; done) | skip)) <;> (conv => whnf))
      · have hlt2 : ¬ n < 2147483648 := by omega
        exact ⟨nonote 2, bad fun p m k => hlt2 (hpn p m k).2, retN fun _ _ => rfl⟩
      · exact ⟨nonote 2, (bad fun p m k => by have := hbsp p m k; rw [this, k.root] at h; omega), retN fun _ _ => rfl⟩
      have hbs : bs.length = 32 := by omega
      have hlt2 : n < 2147483648 := by omega
      refine draw_opaque fun KD hD => ?_
      refine draw_all tok (by kernel_rfl) [.any 0, .any 1, .any 3, .any 4, .any 5, .load 2, .one 6, .load 7, .any 8, .new 9, .last 10] [10] (by kernel_rfl) rfl rfl (by repeat' (first | exact trivial | refine And.intro rfl ?_)) ?_
      conv => whnf
      repeat' ((first | refine And.intro (by repeat' first | exact trivial | refine And.intro rfl ?_) (And.intro (by first | exact fun _ h => h | exact fun _ => List.mem_cons_of_mem _ | exact fun _ => List.mem_append_right _) ?_) | (refine And.intro (fun h => ?_) (fun h => ?_) <;> (try simp only [n1, n2, n3, n4, n5, n6] at h) <;> first | (exfalso; omega) | (cases h; done) | skip) | refine And.intro (by omega) ?_ | refine Exists.intro _ (And.intro (by first | exact And.intro rfl rfl | exact Pl.den (by repeat constructor) | with_reducible rfl | exact cast_succ _ | assumption | exact (Int.toNat_of_nonneg (by omega)).symm | rfl) ?_) | refine hD _ _ ?_ | refine hL _ _ ?_ | (intro h; (try simp only [n1, n2, n3, n4, n5, n6] at h); first | (exfalso; omega) | (cases h; done) | skip)) <;> (conv => whnf))
      refine And.intro (by show 0 < mid.length + 4; omega) ?_
      conv => whnf
      repeat' ((first | (refine Exists.intro _ (And.intro (hxi 0 _ rfl) ?_)) | refine And.intro (by repeat' first | exact trivial | refine And.intro rfl ?_) (And.intro (by first | exact fun _ h => h | exact fun _ => List.mem_cons_of_mem _ | exact fun _ => List.mem_append_right _) ?_) | (refine And.intro (fun h => ?_) (fun h => ?_) <;> (try simp only [n1, n2, n3, n4, n5, n6] at h) <;> first | (exfalso; omega) | (cases h; done) | skip) | refine And.intro (by omega) ?_ | refine Exists.intro _ (And.intro (by first | exact And.intro rfl rfl | exact Pl.den (by repeat constructor) | with_reducible rfl | exact cast_succ _ | assumption | exact (Int.toNat_of_nonneg (by omega)).symm | rfl) ?_) | refine hD _ _ ?_ | refine hL _ _ ?_ | (intro h; (try simp only [n1, n2, n3, n4, n5, n6] at h); first | (exfalso; omega) | (cases h; done) | skip)) <;> (conv => whnf))
      obtain ⟨ad, hA⟩ : ∃ ad, A = some ad := by
        cases A with
        | none => have := hxat.1 rfl; rw [this] at hbs; cases hbs
        | some ad => exact ⟨ad, rfl⟩
      refine ⟨ad, hA, ?_⟩
      have hfc : ∀ j y, (bs.map bv)[j]? = some y → FC (fs ++ fx) (ad.add j) y := fun j y hj => by
        rw [List.getElem?_map] at hj
        cases hb : bs[j]? with
        | none => rw [hb] at hj; cases hj
        | some b =>
          rw [hb] at hj
          obtain ⟨f, k1, k2⟩ := hxat.2 ad hA j b hb
          exact ⟨f, List.mem_append_left _ k1, by cases hj; exact k2⟩
      obtain ⟨b0, b1, b2, b3, b4, b5, b6, b7, b8, b9, b10, b11, b12, b13, b14, b15, b16, b17, b18, b19, b20, b21, b22, b23, b24, b25, b26, b27, b28, b29, b30, b31, hb32⟩ := len32 hbs
      subst hb32
      conv => whnf
      repeat' ((first | (refine Exists.intro _ (And.intro ⟨rfl, hfc⟩ ?_)) | refine And.intro (by repeat' first | exact trivial | refine And.intro rfl ?_) (And.intro (by first | exact fun _ h => h | exact fun _ => List.mem_cons_of_mem _ | exact fun _ => List.mem_append_right _) ?_) | (refine And.intro (fun h => ?_) (fun h => ?_) <;> (try simp only [n1, n2, n3, n4, n5, n6] at h) <;> first | (exfalso; omega) | (cases h; done) | skip) | refine And.intro (by omega) ?_ | refine Exists.intro _ (And.intro (by first | exact And.intro rfl rfl | exact Pl.den (by repeat constructor) | with_reducible rfl | exact cast_succ _ | assumption | exact (Int.toNat_of_nonneg (by omega)).symm | rfl) ?_) | refine hD _ _ ?_ | refine hL _ _ ?_ | (intro h; (try simp only [n1, n2, n3, n4, n5, n6] at h); first | (exfalso; omega) | (cases h; done) | skip)) <;> (conv => whnf))
      obtain ⟨D, hDD⟩ : ∃ D : Hd, D = ⟨⟨q0.toArray⟩, (n : Int), [b0, b1, b2, b3, b4, b5, b6, b7, b8, b9, b10, b11, b12, b13, b14, b15, b16, b17, b18, b19, b20, b21, b22, b23, b24, b25, b26, b27, b28, b29, b30, b31]⟩ := ⟨_, rfl⟩
      have hP : ∃ p : Hp, D = p.hd ∧ p.org = q0 ∧ p.size = n ∧ p.root.length = 32 ∧ ∀ p' m, IsNote S p' m → p'.root = p.root := ⟨⟨q0, n, [b0, b1, b2, b3, b4, b5, b6, b7, b8, b9, b10, b11, b12, b13, b14, b15, b16, b17, b18, b19, b20, b21, b22, b23, b24, b25, b26, b27, b28, b29, b30, b31]⟩, hDD, rfl, rfl, hbs, fun p' m k => (hbsp p' m k).symm⟩
      refine loop_by tok (RfI.inv S c0 xs D (mid.length + 4) fx) (RdI.Pr mid fx) (fun x => mid.length - x.i) ⟨0, none, [], fs⟩ [0, 1, 2] ⟨Nat.zero_le _, rfl, (fun j p s h1 h2 => by cases h2), (fun s hs => by cases hs), rfl⟩
        ⟨rfl, ⟨fun _ _ _ => rfl, SEq.ren rfl rfl, SEq.ren rfl rfl, SEq.ren rfl rfl, fun _ _ _ => rfl, fun _ _ _ => rfl, trivial⟩, ⟨OSub.ren rfl rfl, OSub.ren rfl rfl, OSub.cells fun _ => by rw [hDD]; rfl, trivial⟩, fun f hf => hf⟩ ?_
      clear hy hxno hxyes hbs hfc T3 T3' T4 hDD hxat hxcap
      obtain ⟨P, hDP, hP0, hP1, hP3, hP4⟩ := hP
      have hD34 : D.cells.length = 34 := by rw [hDP]; simp [Hd.cells, Hp.hd, hP3]
      have hpe : ∀ p' m, IsNote S p' m → p' = P := fun p' m k => by
        have h1 := (hsp p' m k).1
        have h2 := (hpn p' m k).1
        have h3 := hP4 p' m k
        cases p'; cases P
        simp only at h1 h2 h3 hP0 hP1
        subst h1 h2 h3 hP0
        rw [hP1]
      rintro ⟨i, row, l, f⟩ hp
      have hi := hp.i
      have hll := hp.l
      have hsig := hp.sig
      have hfit := hp.fit
      have hrow := hp.row
      simp only at hi hll hsig hfit hrow
      cases row with
      | none =>
        obtain rfl : i = 0 := hrow
        obtain rfl : l = [] := List.length_eq_zero_iff.1 hll
        simp only [RfI.inv, RfI.sl]
        conv => whnf
        repeat' ((first | refine And.intro (by repeat' first | exact trivial | refine And.intro rfl ?_) (And.intro (by first | exact fun _ h => h | exact fun _ => List.mem_cons_of_mem _ | exact fun _ => List.mem_append_right _) ?_) | (refine And.intro (fun h => ?_) (fun h => ?_) <;> (try simp only [n1, n2, n3, n4, n5, n6] at h) <;> first | (exfalso; omega) | (cases h; done) | skip) | refine And.intro (by omega) ?_ | refine Exists.intro _ (And.intro (by first | exact And.intro rfl rfl | exact Pl.den (by repeat constructor) | with_reducible rfl | exact cast_succ _ | assumption | exact (Int.toNat_of_nonneg (by omega)).symm | rfl) ?_) | refine hD _ _ ?_ | refine hL _ _ ?_ | (intro h; (try simp only [n1, n2, n3, n4, n5, n6] at h); first | (exfalso; omega) | (cases h; done) | skip)) <;> (conv => whnf))
        · obtain ⟨p, hpi⟩ : ∃ p, mid[0]? = some p := ⟨_, List.getElem?_eq_getElem (by omega)⟩
          have hplp := hpl2 p (List.mem_of_getElem? hpi)
          refine ⟨strS p, hxi (0 + 4) p (by simpa using hpi), ?_⟩
          conv => whnf
          repeat' ((first | refine And.intro (by repeat' first | exact trivial | refine And.intro rfl ?_) (And.intro (by first | exact fun _ h => h | exact fun _ => List.mem_cons_of_mem _ | exact fun _ => List.mem_append_right _) ?_) | (refine And.intro (fun h => ?_) (fun h => ?_) <;> (try simp only [n1, n2, n3, n4, n5, n6] at h) <;> first | (exfalso; omega) | (cases h; done) | skip) | refine And.intro (by omega) ?_ | refine Exists.intro _ (And.intro (by first | exact And.intro rfl rfl | exact Pl.den (by repeat constructor) | with_reducible rfl | exact cast_succ _ | assumption | exact (Int.toNat_of_nonneg (by omega)).symm | rfl) ?_) | refine hD _ _ ?_ | refine hL _ _ ?_ | (intro h; (try simp only [n1, n2, n3, n4, n5, n6] at h); first | (exfalso; omega) | (cases h; done) | skip)) <;> (conv => whnf))
          refine Tri.use ((tRefSig (f ++ fx) p (by omega))) [] rfl (fun _ _ _ => rfl) trivial (fun f hf => by first | exact hf | cases hf) (fun x hx => ?_)
          obtain ⟨sg, ok, f2⟩ := x
          have hxy := hx.yes
          have hxn := hx.no
          simp only at hxy hxn
          conv => whnf
          refine appFK_in ?_
          cases ok with
          | false =>
            conv => whnf
            repeat' ((first | refine And.intro (by repeat' first | exact trivial | refine And.intro rfl ?_) (And.intro (by first | exact fun _ h => h | exact fun _ => List.mem_cons_of_mem _ | exact fun _ => List.mem_append_right _) ?_) | (refine And.intro (fun h => ?_) (fun h => ?_) <;> (try simp only [n1, n2, n3, n4, n5, n6] at h) <;> first | (exfalso; omega) | (cases h; done) | skip) | refine And.intro (by omega) ?_ | refine Exists.intro _ (And.intro (by first | exact And.intro rfl rfl | exact Pl.den (by repeat constructor) | with_reducible rfl | exact cast_succ _ | assumption | exact (Int.toNat_of_nonneg (by omega)).symm | rfl) ?_) | refine hD _ _ ?_ | refine hL _ _ ?_ | (intro h; (try simp only [n1, n2, n3, n4, n5, n6] at h); first | (exfalso; omega) | (cases h; done) | skip)) <;> (conv => whnf))
            have hno : ∀ p' m, ¬ IsNote S p' m := fun p' m k => by
              have h1 := (hsp p' m k).2.2.2.2.1
              rw [h1, List.getElem?_map] at hpi
              cases hm2 : m[0]? with
              | none => rw [hm2] at hpi; cases hpi
              | some t =>
                rw [hm2] at hpi
                obtain rfl := Option.some.inj hpi
                have h2 := k.all t (List.mem_of_getElem? hm2)
                exact hxn rfl t (isSig_bare h2.1 h2.2)
            refine And.intro ⟨rfl, Sg.one⟩ (And.intro ⟨rfl, rfl⟩ ?_)
            conv => whnf
            repeat' ((first | refine And.intro (by repeat' first | exact trivial | refine And.intro rfl ?_) (And.intro (by first | exact fun _ h => h | exact fun _ => List.mem_cons_of_mem _ | exact fun _ => List.mem_append_right _) ?_) | (refine And.intro (fun h => ?_) (fun h => ?_) <;> (try simp only [n1, n2, n3, n4, n5, n6] at h) <;> first | (exfalso; omega) | (cases h; done) | skip) | refine And.intro (by omega) ?_ | refine Exists.intro _ (And.intro (by first | exact And.intro rfl rfl | exact Pl.den (by repeat constructor) | with_reducible rfl | exact cast_succ _ | assumption | exact (Int.toNat_of_nonneg (by omega)).symm | rfl) ?_) | refine hD _ _ ?_ | refine hL _ _ ?_ | (intro h; (try simp only [n1, n2, n3, n4, n5, n6] at h); first | (exfalso; omega) | (cases h; done) | skip)) <;> (conv => whnf))
            exact ⟨nonote 2, bad hno, retN fun _ _ => rfl⟩
          | true =>
            obtain ⟨hs1, hs2⟩ := hxy rfl
            have hlen1 : (([] : List Sg) ++ [sg]).length = 0 + 1 := rfl
            have hsig1 : ∀ (j : Nat) (q : List UInt8) (t : Sg), mid[j]? = some q → (([] : List Sg) ++ [sg])[j]? = some t → IsSig q t.pl := fun j q t h1 h2 => by
              have hj : j = 0 := by
                have := (List.getElem?_eq_some_iff.1 h2).1
                simp only [List.nil_append, List.length_singleton] at this
                omega
              rw [hj] at h1 h2
              obtain rfl := Option.some.inj h2
              rw [hpi] at h1
              obtain rfl := Option.some.inj h1
              exact hs1
            have hfit1 : ∀ t ∈ ([] : List Sg) ++ [sg], t.Fit ((f2 ++ f) ++ fx) := fun t ht => by
              rw [List.append_assoc]
              obtain rfl := List.mem_singleton.1 ht
              exact hs2
            conv => whnf
            repeat' ((first | refine And.intro (by repeat' first | exact trivial | refine And.intro rfl ?_) (And.intro (by first | exact fun _ h => h | exact fun _ => List.mem_cons_of_mem _ | exact fun _ => List.mem_append_right _) ?_) | (refine And.intro (fun h => ?_) (fun h => ?_) <;> (try simp only [n1, n2, n3, n4, n5, n6] at h) <;> first | (exfalso; omega) | (cases h; done) | skip) | refine And.intro (by omega) ?_ | refine Exists.intro _ (And.intro (by first | exact And.intro rfl rfl | exact Pl.den (by repeat constructor) | with_reducible rfl | exact cast_succ _ | assumption | exact (Int.toNat_of_nonneg (by omega)).symm | rfl) ?_) | refine hD _ _ ?_ | refine hL _ _ ?_ | (intro h; (try simp only [n1, n2, n3, n4, n5, n6] at h); first | (exfalso; omega) | (cases h; done) | skip)) <;> (conv => whnf))
            refine And.intro ⟨rfl, Sg.one⟩ (And.intro ⟨rfl, rfl⟩ ?_)
            conv => whnf
            repeat' ((first | (refine Exists.intro sg.cells (And.intro ⟨rfl, rfl⟩ ?_)) | refine And.intro (by repeat' first | exact trivial | refine And.intro rfl ?_) (And.intro (by first | exact fun _ h => h | exact fun _ => List.mem_cons_of_mem _ | exact fun _ => List.mem_append_right _) ?_) | (refine And.intro (fun h => ?_) (fun h => ?_) <;> (try simp only [n1, n2, n3, n4, n5, n6] at h) <;> first | (exfalso; omega) | (cases h; done) | skip) | refine And.intro (by omega) ?_ | refine Exists.intro _ (And.intro (by first | exact And.intro rfl rfl | exact Pl.den (by repeat constructor) | with_reducible rfl | exact cast_succ _ | assumption | exact (Int.toNat_of_nonneg (by omega)).symm | rfl) ?_) | refine hD _ _ ?_ | refine hL _ _ ?_ | (intro h; (try simp only [n1, n2, n3, n4, n5, n6] at h); first | (exfalso; omega) | (cases h; done) | skip)) <;> (conv => whnf))
            rename_i m sp
            have hsp3 := h
            refine ⟨⟨0 + 1, some (1 + m, sg.cells ++ sp), [] ++ [sg], f2 ++ f⟩, [0, 1, 2, 5], ⟨⟨by simp only; omega, hlen1, hsig1, hfit1, ?_, ?_, by simp only; omega⟩, by simp only; omega⟩, rfl, ⟨fun _ _ _ => rfl, SEq.ren rfl rfl, SEq.ren rfl rfl, SEq.ren rfl rfl, SEq.ren rfl rfl, fun _ _ _ => rfl, trivial⟩, ⟨OSub.ren rfl rfl, OSub.ren rfl rfl, OSub.ren rfl rfl, OSub.ren rfl rfl, trivial⟩, fun g hg => by simpa [List.append_assoc] using hg⟩
            · simp only
              rw [List.take_left' (by simp [Sg.cells])]
              simp [sgRow]
            · simp only [List.length_append, hsp3]
              simp [Sg.cells]; omega
        · conv => whnf
          repeat' ((first | (refine Exists.intro D.cells (And.intro ⟨by rw [List.drop_zero]; exact List.take_of_length_le (by rw [hD34]; exact Nat.le_refl _), hD34⟩ ?_)) | refine And.intro (by repeat' first | exact trivial | refine And.intro rfl ?_) (And.intro (by first | exact fun _ h => h | exact fun _ => List.mem_cons_of_mem _ | exact fun _ => List.mem_append_right _) ?_) | (refine And.intro (fun h => ?_) (fun h => ?_) <;> (try simp only [n1, n2, n3, n4, n5, n6] at h) <;> first | (exfalso; omega) | (cases h; done) | skip) | refine And.intro (by omega) ?_ | refine Exists.intro _ (And.intro (by first | exact And.intro rfl rfl | exact Pl.den (by repeat constructor) | with_reducible rfl | exact cast_succ _ | assumption | exact (Int.toNat_of_nonneg (by omega)).symm | rfl) ?_) | refine hD _ _ ?_ | refine hL _ _ ?_ | (intro h; (try simp only [n1, n2, n3, n4, n5, n6] at h); first | (exfalso; omega) | (cases h; done) | skip)) <;> (conv => whnf))
          have hm0 : mid = [] := List.length_eq_zero_iff.1 (by omega)
          have hll' : ([] : List Sg).length = mid.length := by rw [hm0]; rfl
          have hDf : D.Fit := ⟨by rw [hDP]; exact hP3, by rw [hDP]; simp only [Hp.hd]; omega, by rw [hDP]; simp only [Hp.hd, arr_size, hP0]; omega⟩
          refine Tri.use ((tRefWrite (f ++ fx) D hDf none [] 0 ⟨⟨fun _ => rfl, fun ad e => by cases e⟩, fun s hs => by cases hs⟩ (by simp))) [] rfl (fun _ _ _ => rfl) trivial (fun f hf => by first | exact hf | cases hf) (fun y hy => ?_)
          obtain ⟨o, e⟩ := y
          rw [hDP] at hy
          have hye := hy.yes
          have hend := fun (p' : Hp) (m : List Sp) (k : IsNote S p' m) => ref_only (mid := mid) hll' hsig hy k (hpe p' m k) (hsp p' m k).2.2.2.2.1
          conv => whnf
          repeat' ((first | refine And.intro (by repeat' first | exact trivial | refine And.intro rfl ?_) (And.intro (by first | exact fun _ h => h | exact fun _ => List.mem_cons_of_mem _ | exact fun _ => List.mem_append_right _) ?_) | (refine And.intro (fun h => ?_) (fun h => ?_) <;> (try simp only [n1, n2, n3, n4, n5, n6] at h) <;> first | (exfalso; omega) | (cases h; done) | skip) | refine And.intro (by omega) ?_ | refine Exists.intro _ (And.intro (by first | exact And.intro rfl rfl | exact Pl.den (by repeat constructor) | with_reducible rfl | exact cast_succ _ | assumption | exact (Int.toNat_of_nonneg (by omega)).symm | rfl) ?_) | refine hD _ _ ?_ | refine hL _ _ ?_ | (intro h; (try simp only [n1, n2, n3, n4, n5, n6] at h); first | (exfalso; omega) | (cases h; done) | skip)) <;> (conv => whnf))
          · exact ⟨nonote 2, (bad fun p' m k => by have := (hend p' m k).1; simp only at this; first | omega | simp_all), retN fun _ _ => rfl⟩
          · exact ⟨nonote 2, (bad fun p' m k => by have := (hend p' m k).2; simp only at this; simp_all), retN fun _ _ => rfl⟩
          · refine Exists.intro D.cells (And.intro ⟨by rw [List.drop_zero]; exact List.take_of_length_le (by rw [hD34]; exact Nat.le_refl _), hD34⟩ ?_)
            conv => whnf
            repeat' ((first | refine And.intro (by repeat' first | exact trivial | refine And.intro rfl ?_) (And.intro (by first | exact fun _ h => h | exact fun _ => List.mem_cons_of_mem _ | exact fun _ => List.mem_append_right _) ?_) | (refine And.intro (fun h => ?_) (fun h => ?_) <;> (try simp only [n1, n2, n3, n4, n5, n6] at h) <;> first | (exfalso; omega) | (cases h; done) | skip) | refine And.intro (by omega) ?_ | refine Exists.intro _ (And.intro (by first | exact And.intro rfl rfl | exact Pl.den (by repeat constructor) | with_reducible rfl | exact cast_succ _ | assumption | exact (Int.toNat_of_nonneg (by omega)).symm | rfl) ?_) | refine hD _ _ ?_ | refine hL _ _ ?_ | (intro h; (try simp only [n1, n2, n3, n4, n5, n6] at h); first | (exfalso; omega) | (cases h; done) | skip)) <;> (conv => whnf))
            refine And.intro ⟨hD34, by rw [hDP]; exact Hd.one⟩ (And.intro ⟨rfl, rfl⟩ ?_)
            conv => whnf
            repeat' ((first | (refine Exists.intro D.cells (And.intro ⟨by rw [List.drop_zero]; exact List.take_of_length_le (by rw [hD34]; exact Nat.le_refl _), hD34⟩ ?_)) | refine And.intro (by repeat' first | exact trivial | refine And.intro rfl ?_) (And.intro (by first | exact fun _ h => h | exact fun _ => List.mem_cons_of_mem _ | exact fun _ => List.mem_append_right _) ?_) | (refine And.intro (fun h => ?_) (fun h => ?_) <;> (try simp only [n1, n2, n3, n4, n5, n6] at h) <;> first | (exfalso; omega) | (cases h; done) | skip) | refine And.intro (by omega) ?_ | refine Exists.intro _ (And.intro (by first | exact And.intro rfl rfl | exact Pl.den (by repeat constructor) | with_reducible rfl | exact cast_succ _ | assumption | exact (Int.toNat_of_nonneg (by omega)).symm | rfl) ?_) | refine hD _ _ ?_ | refine hL _ _ ?_ | (intro h; (try simp only [n1, n2, n3, n4, n5, n6] at h); first | (exfalso; omega) | (cases h; done) | skip)) <;> (conv => whnf))
            exact ⟨⟨D, [], none, 0, []⟩, ⟨fun _ => ⟨P, ref_note (mid := mid) hP3 hll' hsig hy (show e = 0 by omega) (show o = S by simpa using h), hDP⟩, (fun t ht => by cases ht), rfl, fun h => absurd rfl h⟩, retN fun _ _ => rfl⟩
      | some r =>
        obtain ⟨c, xs2⟩ := r
        simp only at hrow
        obtain ⟨hr1, hr2, hr3⟩ := hrow
        simp only [RfI.inv, RfI.sl]
        conv => whnf
        repeat' ((first | refine And.intro (by repeat' first | exact trivial | refine And.intro rfl ?_) (And.intro (by first | exact fun _ h => h | exact fun _ => List.mem_cons_of_mem _ | exact fun _ => List.mem_append_right _) ?_) | (refine And.intro (fun h => ?_) (fun h => ?_) <;> (try simp only [n1, n2, n3, n4, n5, n6] at h) <;> first | (exfalso; omega) | (cases h; done) | skip) | refine And.intro (by omega) ?_ | refine Exists.intro _ (And.intro (by first | exact And.intro rfl rfl | exact Pl.den (by repeat constructor) | with_reducible rfl | exact cast_succ _ | assumption | exact (Int.toNat_of_nonneg (by omega)).symm | rfl) ?_) | refine hD _ _ ?_ | refine hL _ _ ?_ | (intro h; (try simp only [n1, n2, n3, n4, n5, n6] at h); first | (exfalso; omega) | (cases h; done) | skip)) <;> (conv => whnf))
        · obtain ⟨p, hpi⟩ : ∃ p, mid[i]? = some p := ⟨_, List.getElem?_eq_getElem (by omega)⟩
          have hplp := hpl2 p (List.mem_of_getElem? hpi)
          refine ⟨strS p, hxi (i + 4) p (by simpa using hpi), ?_⟩
          conv => whnf
          repeat' ((first | refine And.intro (by repeat' first | exact trivial | refine And.intro rfl ?_) (And.intro (by first | exact fun _ h => h | exact fun _ => List.mem_cons_of_mem _ | exact fun _ => List.mem_append_right _) ?_) | (refine And.intro (fun h => ?_) (fun h => ?_) <;> (try simp only [n1, n2, n3, n4, n5, n6] at h) <;> first | (exfalso; omega) | (cases h; done) | skip) | refine And.intro (by omega) ?_ | refine Exists.intro _ (And.intro (by first | exact And.intro rfl rfl | exact Pl.den (by repeat constructor) | with_reducible rfl | exact cast_succ _ | assumption | exact (Int.toNat_of_nonneg (by omega)).symm | rfl) ?_) | refine hD _ _ ?_ | refine hL _ _ ?_ | (intro h; (try simp only [n1, n2, n3, n4, n5, n6] at h); first | (exfalso; omega) | (cases h; done) | skip)) <;> (conv => whnf))
          refine Tri.use ((tRefSig (f ++ fx) p (by omega))) [] rfl (fun _ _ _ => rfl) trivial (fun f hf => by first | exact hf | cases hf) (fun x hx => ?_)
          obtain ⟨sg, ok, f2⟩ := x
          have hxy := hx.yes
          have hxn := hx.no
          simp only at hxy hxn
          conv => whnf
          refine appFK_in ?_
          cases ok with
          | false =>
            conv => whnf
            repeat' ((first | refine And.intro (by repeat' first | exact trivial | refine And.intro rfl ?_) (And.intro (by first | exact fun _ h => h | exact fun _ => List.mem_cons_of_mem _ | exact fun _ => List.mem_append_right _) ?_) | (refine And.intro (fun h => ?_) (fun h => ?_) <;> (try simp only [n1, n2, n3, n4, n5, n6] at h) <;> first | (exfalso; omega) | (cases h; done) | skip) | refine And.intro (by omega) ?_ | refine Exists.intro _ (And.intro (by first | exact And.intro rfl rfl | exact Pl.den (by repeat constructor) | with_reducible rfl | exact cast_succ _ | assumption | exact (Int.toNat_of_nonneg (by omega)).symm | rfl) ?_) | refine hD _ _ ?_ | refine hL _ _ ?_ | (intro h; (try simp only [n1, n2, n3, n4, n5, n6] at h); first | (exfalso; omega) | (cases h; done) | skip)) <;> (conv => whnf))
            have hno : ∀ p' m, ¬ IsNote S p' m := fun p' m k => by
              have h1 := (hsp p' m k).2.2.2.2.1
              rw [h1, List.getElem?_map] at hpi
              cases hm2 : m[i]? with
              | none => rw [hm2] at hpi; cases hpi
              | some t =>
                rw [hm2] at hpi
                obtain rfl := Option.some.inj hpi
                have h2 := k.all t (List.mem_of_getElem? hm2)
                exact hxn rfl t (isSig_bare h2.1 h2.2)
            refine And.intro ⟨rfl, Sg.one⟩ (And.intro ⟨rfl, rfl⟩ ?_)
            conv => whnf
            repeat' ((first | refine And.intro (by repeat' first | exact trivial | refine And.intro rfl ?_) (And.intro (by first | exact fun _ h => h | exact fun _ => List.mem_cons_of_mem _ | exact fun _ => List.mem_append_right _) ?_) | (refine And.intro (fun h => ?_) (fun h => ?_) <;> (try simp only [n1, n2, n3, n4, n5, n6] at h) <;> first | (exfalso; omega) | (cases h; done) | skip) | refine And.intro (by omega) ?_ | refine Exists.intro _ (And.intro (by first | exact And.intro rfl rfl | exact Pl.den (by repeat constructor) | with_reducible rfl | exact cast_succ _ | assumption | exact (Int.toNat_of_nonneg (by omega)).symm | rfl) ?_) | refine hD _ _ ?_ | refine hL _ _ ?_ | (intro h; (try simp only [n1, n2, n3, n4, n5, n6] at h); first | (exfalso; omega) | (cases h; done) | skip)) <;> (conv => whnf))
            exact ⟨nonote 2, bad hno, retN fun _ _ => rfl⟩
          | true =>
            obtain ⟨hs1, hs2⟩ := hxy rfl
            have hlen1 : (l ++ [sg]).length = i + 1 := by rw [List.length_append, hll]; rfl
            have hsig1 : ∀ (j : Nat) (q : List UInt8) (t : Sg), mid[j]? = some q → (l ++ [sg])[j]? = some t → IsSig q t.pl := fun j q t h1 h2 => by
              by_cases hj : j < i
              · rw [List.getElem?_append_left (by omega)] at h2
                exact hsig j q t h1 h2
              · rw [List.getElem?_append_right (by omega)] at h2
                have hj2 : j - l.length = 0 := by
                  have := (List.getElem?_eq_some_iff.1 h2).1
                  simp only [List.length_singleton] at this
                  omega
                rw [hj2] at h2
                obtain rfl := Option.some.inj h2
                have hji : j = i := by omega
                rw [hji, hpi] at h1
                obtain rfl := Option.some.inj h1
                exact hs1
            have hfit1 : ∀ t ∈ l ++ [sg], t.Fit ((f2 ++ f) ++ fx) := fun t ht => by
              rw [List.append_assoc]
              rcases List.mem_append.1 ht with ht | ht
              · exact (hfit t ht).mono fun g hg => List.mem_append_right _ hg
              · obtain rfl := List.mem_singleton.1 ht
                exact hs2
            conv => whnf
            repeat' ((first | refine And.intro (by repeat' first | exact trivial | refine And.intro rfl ?_) (And.intro (by first | exact fun _ h => h | exact fun _ => List.mem_cons_of_mem _ | exact fun _ => List.mem_append_right _) ?_) | (refine And.intro (fun h => ?_) (fun h => ?_) <;> (try simp only [n1, n2, n3, n4, n5, n6] at h) <;> first | (exfalso; omega) | (cases h; done) | skip) | refine And.intro (by omega) ?_ | refine Exists.intro _ (And.intro (by first | exact And.intro rfl rfl | exact Pl.den (by repeat constructor) | with_reducible rfl | exact cast_succ _ | assumption | exact (Int.toNat_of_nonneg (by omega)).symm | rfl) ?_) | refine hD _ _ ?_ | refine hL _ _ ?_ | (intro h; (try simp only [n1, n2, n3, n4, n5, n6] at h); first | (exfalso; omega) | (cases h; done) | skip)) <;> (conv => whnf))
            refine And.intro ⟨rfl, Sg.one⟩ (And.intro ⟨rfl, rfl⟩ ?_)
            conv => whnf
            repeat' ((first | (refine Exists.intro sg.cells (And.intro ⟨rfl, rfl⟩ ?_)) | refine And.intro (by repeat' first | exact trivial | refine And.intro rfl ?_) (And.intro (by first | exact fun _ h => h | exact fun _ => List.mem_cons_of_mem _ | exact fun _ => List.mem_append_right _) ?_) | (refine And.intro (fun h => ?_) (fun h => ?_) <;> (try simp only [n1, n2, n3, n4, n5, n6] at h) <;> first | (exfalso; omega) | (cases h; done) | skip) | refine And.intro (by omega) ?_ | refine Exists.intro _ (And.intro (by first | exact And.intro rfl rfl | exact Pl.den (by repeat constructor) | with_reducible rfl | exact cast_succ _ | assumption | exact (Int.toNat_of_nonneg (by omega)).symm | rfl) ?_) | refine hD _ _ ?_ | refine hL _ _ ?_ | (intro h; (try simp only [n1, n2, n3, n4, n5, n6] at h); first | (exfalso; omega) | (cases h; done) | skip)) <;> (conv => whnf))
            refine ⟨⟨by omega, hr3, hr2, Sg.one⟩, fun m sp hsp2 => ?_⟩
            conv => whnf
            repeat' ((first | refine And.intro (by repeat' first | exact trivial | refine And.intro rfl ?_) (And.intro (by first | exact fun _ h => h | exact fun _ => List.mem_cons_of_mem _ | exact fun _ => List.mem_append_right _) ?_) | (refine And.intro (fun h => ?_) (fun h => ?_) <;> (try simp only [n1, n2, n3, n4, n5, n6] at h) <;> first | (exfalso; omega) | (cases h; done) | skip) | refine And.intro (by omega) ?_ | refine Exists.intro _ (And.intro (by first | exact And.intro rfl rfl | exact Pl.den (by repeat constructor) | with_reducible rfl | exact cast_succ _ | assumption | exact (Int.toNat_of_nonneg (by omega)).symm | rfl) ?_) | refine hD _ _ ?_ | refine hL _ _ ?_ | (intro h; (try simp only [n1, n2, n3, n4, n5, n6] at h); first | (exfalso; omega) | (cases h; done) | skip)) <;> (conv => whnf))
            have hlt2 : (sgRow l).length = i * 4 := by rw [← hr1, List.length_take]; omega
            refine ⟨⟨i + 1, some (i + 1 + m, xs2.take (i * 4) ++ sg.cells ++ sp), l ++ [sg], f2 ++ f⟩, [0, 1, 2, 6], ⟨⟨by simp only; omega, hlen1, hsig1, hfit1, ?_, ?_, by simp only; omega⟩, by simp only; omega⟩, rfl, ⟨fun _ _ _ => rfl, SEq.ren rfl rfl, SEq.ren rfl rfl, SEq.ren rfl rfl, SEq.ren rfl rfl, fun _ _ _ => (by simp only [den]; congr 2), trivial⟩, ⟨OSub.ren rfl rfl, OSub.ren rfl rfl, OSub.ren rfl rfl, OSub.ren rfl rfl, trivial⟩, fun g hg => by simpa [List.append_assoc] using hg⟩
            · simp only
              rw [hr1, List.take_left' (by rw [List.length_append, hlt2]; simp [Sg.cells]; omega)]
              simp [sgRow]
            · simp only [List.length_append, hsp2, hr1, hlt2]
              simp [Sg.cells]; omega
        · obtain rfl : i = mid.length := by omega
          conv => whnf
          repeat' ((first | (refine Exists.intro D.cells (And.intro ⟨by rw [List.drop_zero]; exact List.take_of_length_le (by rw [hD34]; exact Nat.le_refl _), hD34⟩ ?_)) | refine And.intro (by repeat' first | exact trivial | refine And.intro rfl ?_) (And.intro (by first | exact fun _ h => h | exact fun _ => List.mem_cons_of_mem _ | exact fun _ => List.mem_append_right _) ?_) | (refine And.intro (fun h => ?_) (fun h => ?_) <;> (try simp only [n1, n2, n3, n4, n5, n6] at h) <;> first | (exfalso; omega) | (cases h; done) | skip) | refine And.intro (by omega) ?_ | refine Exists.intro _ (And.intro (by first | exact And.intro rfl rfl | exact Pl.den (by repeat constructor) | with_reducible rfl | exact cast_succ _ | assumption | exact (Int.toNat_of_nonneg (by omega)).symm | rfl) ?_) | refine hD _ _ ?_ | refine hL _ _ ?_ | (intro h; (try simp only [n1, n2, n3, n4, n5, n6] at h); first | (exfalso; omega) | (cases h; done) | skip)) <;> (conv => whnf))
          refine Tri.lend 3 (xs := xs2) (T := 106) (fun b => [.v D.v, .v (.slice (some ⟨b, 0, none⟩) mid.length c)]) (List.mem_cons_of_mem _ (List.mem_cons_of_mem _ (List.mem_cons_of_mem _ (List.mem_cons_self ..)))) rowOf.row (fun _ => rfl) fun b => ?_
          have hDf : D.Fit := ⟨by rw [hDP]; exact hP3, by rw [hDP]; simp only [Hp.hd]; omega, by rw [hDP]; simp only [Hp.hd, arr_size, hP0]; omega⟩
          have TW := tRefWrite (rowFact b xs2 106 :: (f ++ fx)) D hDf (some ⟨b, 0, none⟩) l c ⟨RowAt.row (List.mem_cons_self ..) (by rw [← hr1]), fun t ht => (hfit t ht).mono fun g hg => List.mem_cons_of_mem _ hg⟩ (by omega)
          rw [hll] at TW
          refine Tri.use TW [] rfl (fun _ _ _ => rfl) trivial (fun f hf => hf) fun y hy => ?_
          conv => whnf
          refine And.intro rfl ?_
          obtain ⟨o, e⟩ := y
          rw [hDP] at hy
          have hye := hy.yes
          have hend := fun (p' : Hp) (m : List Sp) (k : IsNote S p' m) => ref_only (mid := mid) hll hsig hy k (hpe p' m k) (hsp p' m k).2.2.2.2.1
          conv => whnf
          repeat' ((first | refine And.intro (by repeat' first | exact trivial | refine And.intro rfl ?_) (And.intro (by first | exact fun _ h => h | exact fun _ => List.mem_cons_of_mem _ | exact fun _ => List.mem_append_right _) ?_) | (refine And.intro (fun h => ?_) (fun h => ?_) <;> (try simp only [n1, n2, n3, n4, n5, n6] at h) <;> first | (exfalso; omega) | (cases h; done) | skip) | refine And.intro (by omega) ?_ | refine Exists.intro _ (And.intro (by first | exact And.intro rfl rfl | exact Pl.den (by repeat constructor) | with_reducible rfl | exact cast_succ _ | assumption | exact (Int.toNat_of_nonneg (by omega)).symm | rfl) ?_) | refine hD _ _ ?_ | refine hL _ _ ?_ | (intro h; (try simp only [n1, n2, n3, n4, n5, n6] at h); first | (exfalso; omega) | (cases h; done) | skip)) <;> (conv => whnf))
          · exact ⟨nonote 2, (bad fun p' m k => by have := (hend p' m k).1; simp only at this; first | omega | simp_all), retN fun _ _ => rfl⟩
          · exact ⟨nonote 2, (bad fun p' m k => by have := (hend p' m k).2; simp only at this; simp_all), retN fun _ _ => rfl⟩
          · refine Exists.intro D.cells (And.intro ⟨by rw [List.drop_zero]; exact List.take_of_length_le (by rw [hD34]; exact Nat.le_refl _), hD34⟩ ?_)
            conv => whnf
            repeat' ((first | refine And.intro (by repeat' first | exact trivial | refine And.intro rfl ?_) (And.intro (by first | exact fun _ h => h | exact fun _ => List.mem_cons_of_mem _ | exact fun _ => List.mem_append_right _) ?_) | (refine And.intro (fun h => ?_) (fun h => ?_) <;> (try simp only [n1, n2, n3, n4, n5, n6] at h) <;> first | (exfalso; omega) | (cases h; done) | skip) | refine And.intro (by omega) ?_ | refine Exists.intro _ (And.intro (by first | exact And.intro rfl rfl | exact Pl.den (by repeat constructor) | with_reducible rfl | exact cast_succ _ | assumption | exact (Int.toNat_of_nonneg (by omega)).symm | rfl) ?_) | refine hD _ _ ?_ | refine hL _ _ ?_ | (intro h; (try simp only [n1, n2, n3, n4, n5, n6] at h); first | (exfalso; omega) | (cases h; done) | skip)) <;> (conv => whnf))
            refine And.intro ⟨hD34, by rw [hDP]; exact Hd.one⟩ (And.intro ⟨rfl, rfl⟩ ?_)
            conv => whnf
            repeat' ((first | (refine Exists.intro D.cells (And.intro ⟨by rw [List.drop_zero]; exact List.take_of_length_le (by rw [hD34]; exact Nat.le_refl _), hD34⟩ ?_)) | refine And.intro (by repeat' first | exact trivial | refine And.intro rfl ?_) (And.intro (by first | exact fun _ h => h | exact fun _ => List.mem_cons_of_mem _ | exact fun _ => List.mem_append_right _) ?_) | (refine And.intro (fun h => ?_) (fun h => ?_) <;> (try simp only [n1, n2, n3, n4, n5, n6] at h) <;> first | (exfalso; omega) | (cases h; done) | skip) | refine And.intro (by omega) ?_ | refine Exists.intro _ (And.intro (by first | exact And.intro rfl rfl | exact Pl.den (by repeat constructor) | with_reducible rfl | exact cast_succ _ | assumption | exact (Int.toNat_of_nonneg (by omega)).symm | rfl) ?_) | refine hD _ _ ?_ | refine hL _ _ ?_ | (intro h; (try simp only [n1, n2, n3, n4, n5, n6] at h); first | (exfalso; omega) | (cases h; done) | skip)) <;> (conv => whnf))
            refine ⟨⟨D, l, some (c, xs2), 0, f⟩, ⟨fun _ => ⟨P, ref_note (mid := mid) hP3 hll hsig hy (show e = 0 by omega) (show o = S by simpa using h), hDP⟩, hfit, ⟨by simp only [hll]; exact hr1, by simp only [hll]; exact hr3⟩, fun h => absurd rfl h⟩, ?_⟩
            refine Ret.mk [3] _ (Fold.refl _) rfl (fun ρ ρ'' ha => ?_) ⟨OSub.ren rfl rfl, trivial⟩ (fun g hg => List.mem_append_left _ hg)
            have e0 : ρ'' 0 = ρ 3 := ha 0 (by omega)
            simp only [NtO.v, den, denL_cons, denL_nil, hll, e0]
            rfl
    · have hno : ∀ p m, ¬ IsNote S p m := fun p m h => by
        have := congrArg List.length (note_lines h)
        rw [hx1] at this
        simp at this
        omega
      conv => whnf
      repeat' ((first | refine And.intro (by repeat' first | exact trivial | refine And.intro rfl ?_) (And.intro (by first | exact fun _ h => h | exact fun _ => List.mem_cons_of_mem _ | exact fun _ => List.mem_append_right _) ?_) | (refine And.intro (fun h => ?_) (fun h => ?_) <;> (try simp only [n1, n2, n3, n4, n5, n6] at h) <;> first | (exfalso; omega) | (cases h; done) | skip) | refine And.intro (by omega) ?_ | refine Exists.intro _ (And.intro (by first | exact And.intro rfl rfl | exact Pl.den (by repeat constructor) | with_reducible rfl | exact cast_succ _ | assumption | exact (Int.toNat_of_nonneg (by omega)).symm | rfl) ?_) | refine hD _ _ ?_ | refine hL _ _ ?_ | (intro h; (try simp only [n1, n2, n3, n4, n5, n6] at h); first | (exfalso; omega) | (cases h; done) | skip)) <;> (conv => whnf))
      all_goals exact ⟨nonote 2, bad hno, retN fun _ _ => rfl⟩
theorem tRefRead21 (fx : List Fact) (S : List UInt8) (hS : S.length ≤ 9223372036854775807) :
    Tri Tryd.prog 54 [.v (strS S)] [] 0 fx (RetE (α := NtR) 0 (NtR.pr fx S) NtR.v (fun _ => []) 0 NtR.f) :=
  NtO.told (fun _ _ => trivial) (tRefRead0 fx S hS)
end Go.Proofs.YtekgjjanikicnaaDoor.Sx

namespace Go.Proofs.YtekgjjanikicnaaDoor.Sx
open Go Go.RowKit
set_option maxRecDepth 100000
set_option linter.unusedSimpArgs false
set_option linter.unusedVariables false
theorem tBack0 (fx : List Fact) (A : Option Addr) (l : List Sg) (cap : Nat) (hS : SgsAt fx A l) (hl : l.length ≤ 1000000) :
    Tri Tryd.prog 56 [.v (.slice A l.length cap)] [] 0 fx (RetE (α := Option (Nat × List Value)) 0 (fun x => match x with | none => l = [] | some (c, xs) => xs.take (l.length * 4) = sgRow l ∧ l.length ≤ c)
      (fun x => match x with | none => .v (.slice none 0 0) | some (c, xs) => .s 0 0 l.length c) (fun x => match x with | none => [] | some (c, xs) => [(0, .row xs 106)]) 1 (fun _ => [])) := by
  refine Tri.of_code tok Tryd.func56 rfl rfl rfl (by decide) rfl (Nat.le_of_ble_eq_true rfl) ?_
  conv => whnf
  repeat' ((first | refine And.intro (by repeat' first | exact trivial | refine And.intro rfl ?_) (And.intro (by first | exact fun _ h => h | exact fun _ => List.mem_cons_of_mem _ | exact fun _ => List.mem_append_right _) ?_) | (refine And.intro (fun h => ?_) (fun h => ?_) <;> (try simp only [n1, n2, n3, n4, n5, n6] at h) <;> first | (exfalso; omega) | (cases h; done) | skip) | refine And.intro (by omega) ?_ | refine Exists.intro _ (And.intro (by first | exact And.intro rfl rfl | exact Pl.den (by repeat constructor) | with_reducible rfl | exact cast_succ _ | assumption | exact (Int.toNat_of_nonneg (by omega)).symm | rfl) ?_) | refine hD _ _ ?_ | refine hL _ _ ?_ | (intro h; (try simp only [n1, n2, n3, n4, n5, n6] at h); first | (exfalso; omega) | (cases h; done) | skip)) <;> (conv => whnf))
  refine loop_by tok (SgB.inv 106 A l cap fx) (SgB.Pr l) (fun x => l.length - x.i) ⟨0, none⟩ [] ⟨Nat.zero_le _, rfl⟩ ⟨rfl, ⟨fun _ _ _ => rfl, fun _ _ _ => rfl, fun _ _ _ => rfl, trivial⟩, trivial, fun f hf => hf⟩ ?_
  rintro ⟨i, row⟩ hx
  have hi := hx.i
  have hr := hx.row
  simp only at hi hr
  cases row with
  | none =>
    obtain rfl : i = 0 := hr
    simp only [SgB.inv]
    conv => whnf
    repeat' ((first | refine And.intro (by repeat' first | exact trivial | refine And.intro rfl ?_) (And.intro (by first | exact fun _ h => h | exact fun _ => List.mem_cons_of_mem _ | exact fun _ => List.mem_append_right _) ?_) | (refine And.intro (fun h => ?_) (fun h => ?_) <;> (try simp only [n1, n2, n3, n4, n5, n6] at h) <;> first | (exfalso; omega) | (cases h; done) | skip) | refine And.intro (by omega) ?_ | refine Exists.intro _ (And.intro (by first | exact And.intro rfl rfl | exact Pl.den (by repeat constructor) | with_reducible rfl | exact cast_succ _ | assumption | exact (Int.toNat_of_nonneg (by omega)).symm | rfl) ?_) | refine hD _ _ ?_ | refine hL _ _ ?_ | (intro h; (try simp only [n1, n2, n3, n4, n5, n6] at h); first | (exfalso; omega) | (cases h; done) | skip)) <;> (conv => whnf))
    · have hlt : 0 < l.length := by omega
      obtain ⟨ad, hA⟩ := hS.adr hlt
      obtain ⟨s, hs⟩ : ∃ s, l[0]? = some s := ⟨l[0], List.getElem?_eq_getElem hlt⟩
      refine ⟨ad, hA, ?_⟩
      conv => whnf
      repeat' ((first | (refine Exists.intro s.cells (And.intro ⟨rfl, fun j y hj => hS.field hs hA j hj⟩ ?_)) | refine And.intro (by repeat' first | exact trivial | refine And.intro rfl ?_) (And.intro (by first | exact fun _ h => h | exact fun _ => List.mem_cons_of_mem _ | exact fun _ => List.mem_append_right _) ?_) | (refine And.intro (fun h => ?_) (fun h => ?_) <;> (try simp only [n1, n2, n3, n4, n5, n6] at h) <;> first | (exfalso; omega) | (cases h; done) | skip) | refine And.intro (by omega) ?_ | refine Exists.intro _ (And.intro (by first | exact And.intro rfl rfl | exact Pl.den (by repeat constructor) | with_reducible rfl | exact cast_succ _ | assumption | exact (Int.toNat_of_nonneg (by omega)).symm | rfl) ?_) | refine hD _ _ ?_ | refine hL _ _ ?_ | (intro h; (try simp only [n1, n2, n3, n4, n5, n6] at h); first | (exfalso; omega) | (cases h; done) | skip)) <;> (conv => whnf))
      rename_i m sp
      have hsp := h
      refine ⟨⟨1, some (1 + m, s.cells ++ sp)⟩, [1], ⟨⟨hlt, ?_, ?_, by simp only; omega⟩, by simp only; omega⟩, rfl, ⟨fun _ _ _ => rfl, SEq.ren rfl rfl, fun _ _ _ => rfl, trivial⟩, ⟨OSub.ren rfl rfl, trivial⟩, fun f hf => hf⟩
      · simp only
        rw [List.take_left' (by simp [Sg.cells]), take_succ_of hs]
        simp [sgRow]
      · simp only [List.length_append, hsp]
        simp [Sg.cells]; omega
    · exact ⟨none, List.length_eq_zero_iff.1 (by omega), Ret.mk [] [] (Fold.refl _) rfl (fun _ _ _ => rfl) trivial (fun _ h => by cases h)⟩
  | some r =>
    obtain ⟨c, xs⟩ := r
    simp only at hr
    obtain ⟨hr1, hr2, hr3⟩ := hr
    simp only [SgB.inv]
    conv => whnf
    repeat' ((first | refine And.intro (by repeat' first | exact trivial | refine And.intro rfl ?_) (And.intro (by first | exact fun _ h => h | exact fun _ => List.mem_cons_of_mem _ | exact fun _ => List.mem_append_right _) ?_) | (refine And.intro (fun h => ?_) (fun h => ?_) <;> (try simp only [n1, n2, n3, n4, n5, n6] at h) <;> first | (exfalso; omega) | (cases h; done) | skip) | refine And.intro (by omega) ?_ | refine Exists.intro _ (And.intro (by first | exact And.intro rfl rfl | exact Pl.den (by repeat constructor) | with_reducible rfl | exact cast_succ _ | assumption | exact (Int.toNat_of_nonneg (by omega)).symm | rfl) ?_) | refine hD _ _ ?_ | refine hL _ _ ?_ | (intro h; (try simp only [n1, n2, n3, n4, n5, n6] at h); first | (exfalso; omega) | (cases h; done) | skip)) <;> (conv => whnf))
    · have hlt : i < l.length := by omega
      obtain ⟨ad, hA⟩ := hS.adr hlt
      obtain ⟨s, hs⟩ : ∃ s, l[i]? = some s := ⟨l[i], List.getElem?_eq_getElem hlt⟩
      refine ⟨ad, hA, ?_⟩
      conv => whnf
      repeat' ((first | (refine Exists.intro s.cells (And.intro ⟨rfl, fun j y hj => hS.field hs hA j hj⟩ ?_)) | refine And.intro (by repeat' first | exact trivial | refine And.intro rfl ?_) (And.intro (by first | exact fun _ h => h | exact fun _ => List.mem_cons_of_mem _ | exact fun _ => List.mem_append_right _) ?_) | (refine And.intro (fun h => ?_) (fun h => ?_) <;> (try simp only [n1, n2, n3, n4, n5, n6] at h) <;> first | (exfalso; omega) | (cases h; done) | skip) | refine And.intro (by omega) ?_ | refine Exists.intro _ (And.intro (by first | exact And.intro rfl rfl | exact Pl.den (by repeat constructor) | with_reducible rfl | exact cast_succ _ | assumption | exact (Int.toNat_of_nonneg (by omega)).symm | rfl) ?_) | refine hD _ _ ?_ | refine hL _ _ ?_ | (intro h; (try simp only [n1, n2, n3, n4, n5, n6] at h); first | (exfalso; omega) | (cases h; done) | skip)) <;> (conv => whnf))
      refine ⟨⟨by omega, hr3, hr2, Sg.one⟩, fun m sp hsp => ?_⟩
      conv => whnf
      repeat' ((first | refine And.intro (by repeat' first | exact trivial | refine And.intro rfl ?_) (And.intro (by first | exact fun _ h => h | exact fun _ => List.mem_cons_of_mem _ | exact fun _ => List.mem_append_right _) ?_) | (refine And.intro (fun h => ?_) (fun h => ?_) <;> (try simp only [n1, n2, n3, n4, n5, n6] at h) <;> first | (exfalso; omega) | (cases h; done) | skip) | refine And.intro (by omega) ?_ | refine Exists.intro _ (And.intro (by first | exact And.intro rfl rfl | exact Pl.den (by repeat constructor) | with_reducible rfl | exact cast_succ _ | assumption | exact (Int.toNat_of_nonneg (by omega)).symm | rfl) ?_) | refine hD _ _ ?_ | refine hL _ _ ?_ | (intro h; (try simp only [n1, n2, n3, n4, n5, n6] at h); first | (exfalso; omega) | (cases h; done) | skip)) <;> (conv => whnf))
      have hlt2 : (sgRow (l.take i)).length = i * 4 := by rw [← hr1, List.length_take]; omega
      refine ⟨⟨i + 1, some (i + 1 + m, xs.take (i * 4) ++ s.cells ++ sp)⟩, [2], ⟨⟨hlt, ?_, ?_, by simp only; omega⟩, by simp only; omega⟩, rfl, ⟨fun _ _ _ => rfl, SEq.ren rfl rfl, fun _ _ _ => rfl, trivial⟩, ⟨OSub.ren rfl rfl, trivial⟩, fun f hf => hf⟩
      · simp only
        rw [hr1, List.take_left' (by rw [List.length_append, hlt2]; simp [Sg.cells]; omega), take_succ_of hs]
        simp [sgRow]
      · simp only [List.length_append, hsp, hr1, hlt2]
        simp [Sg.cells]; omega
    · obtain rfl : i = l.length := by omega
      refine ⟨some (c, xs), ⟨by rw [hr1, List.take_of_length_le (Nat.le_refl _)], hr3⟩, ?_⟩
      exact Ret.mk [0] _ (Fold.refl _) rfl (SEq.ren rfl rfl) ⟨OSub.ren rfl rfl, trivial⟩ (fun g hg => by cases hg)
theorem tBack (fx : List Fact) (A : Option Addr) (l : List Sg) (cap : Nat) (hS : SgsAt fx A l) (hl : l.length ≤ 1000000) :
    Tri Tryd.prog 56 [.v (.slice A l.length cap)] [] 0 fx (RetE (α := SgW) 0 (SgW.pr fx l) (SgW.v l) (fun _ => []) 0 SgW.f) := by
  refine (tBack0 fx A l cap hS hl).conv.share2 fun y h m f ⟨a, hp, e1, e2, e3, e4⟩ => ?_
  subst e1 e2 e3 e4
  cases a with
  | none =>
    left
    obtain rfl : l = [] := hp
    refine ⟨⟨none, 0, []⟩, ⟨⟨fun _ => rfl, fun ad e => by cases e⟩, fun s hs => by cases hs⟩, ?_⟩
    exact Ret.mk [] [] (Fold.refl _) rfl (fun _ _ _ => rfl) trivial (fun _ h => h)
  | some r =>
    obtain ⟨c, xs⟩ := r
    right
    obtain ⟨h1, h2⟩ := hp
    refine ⟨0, xs, 106, List.mem_cons_self .., fun b => ⟨.v (.slice (some ⟨b, 0, none⟩) l.length c), fun ρ e => by simp only [den, e], ?_⟩⟩
    refine ⟨⟨some ⟨b, 0, none⟩, c, [rowFact b xs 106]⟩, ⟨RowAt.row (List.mem_cons_self ..) h1, fun s hs => (hS.fit s hs).mono fun f hf => List.mem_append_right _ hf⟩, ?_⟩
    exact Ret.mk [] [] (Fold.refl _) rfl (fun _ _ _ => rfl) trivial (fun _ h => h)
end Go.Proofs.YtekgjjanikicnaaDoor.Sx

namespace Go.Proofs.YtekgjjanikicnaaDoor.Sx
open Go Go.RowKit
set_option maxRecDepth 100000
set_option linter.unusedSimpArgs false
set_option linter.unusedVariables false
theorem tSame21 (fx : List Fact) (A B : Option Addr) (l m : List Sg) (ca cb : Nat) (hA : SgsAt fx A l) (hB : SgsAt fx B m) (he : l.map Sg.pl = m.map Sg.pl) (hl : l.length ≤ 1000000) :
    Tri Tryd.prog 55 [.v (.slice A l.length ca), .v (.slice B m.length cb)] [] 0 fx (Ret 0 (.b true) [] 0 []) := by
  have hlm : l.length = m.length := by simpa using congrArg List.length he
  refine Tri.of_code tok Tryd.func55 rfl rfl rfl (by decide) rfl (Nat.le_of_ble_eq_true rfl) ?_
  conv => whnf
  repeat' ((first | refine And.intro (by repeat' first | exact trivial | refine And.intro rfl ?_) (And.intro (by first | exact fun _ h => h | exact fun _ => List.mem_cons_of_mem _ | exact fun _ => List.mem_append_right _) ?_) | (refine And.intro (fun h => ?_) (fun h => ?_) <;> (try simp only [n1, n2, n3, n4, n5, n6] at h) <;> first | (exfalso; omega) | (cases h; done) | skip) | refine And.intro (by omega) ?_ | refine Exists.intro _ (And.intro (by first | exact And.intro rfl rfl | exact Pl.den (by repeat constructor) | with_reducible rfl | exact cast_succ _ | assumption | exact (Int.toNat_of_nonneg (by omega)).symm | rfl) ?_) | refine hD _ _ ?_ | refine hL _ _ ?_ | (intro h; (try simp only [n1, n2, n3, n4, n5, n6] at h); first | (exfalso; omega) | (cases h; done) | skip)) <;> (conv => whnf))
  refine loop_by tok (α := Nat) (fun i => ⟨[(0, .v (.slice A l.length ca)), (1, .v (.slice B m.length cb)), (5, .v (.int .i64 i))], [], 0, fx⟩) (fun i => i ≤ l.length) (fun i => l.length - i) 0 [] (Nat.zero_le _) ⟨rfl, ⟨fun _ _ _ => rfl, fun _ _ _ => rfl, fun _ _ _ => rfl, trivial⟩, trivial, fun f hf => hf⟩ ?_
  intro i hi
  by_cases hlt : i < l.length
  · obtain ⟨ad, hA2⟩ := hA.adr hlt
    obtain ⟨bd, hB2⟩ := hB.adr (by omega : i < m.length)
    obtain ⟨s, hs⟩ : ∃ s, l[i]? = some s := ⟨l[i], List.getElem?_eq_getElem hlt⟩
    obtain ⟨t, ht⟩ : ∃ t, m[i]? = some t := ⟨m[i], List.getElem?_eq_getElem (by omega)⟩
    have hst : s.pl = t.pl := by
      have := congrArg (fun k => k[i]?) he
      simpa [List.getElem?_map, hs, ht] using this
    have hsf := hA.fit s (List.mem_of_getElem? hs)
    have htf := hB.fit t (List.mem_of_getElem? ht)
    obtain ⟨nm, kd, nu, a1, c1, bs⟩ := s
    obtain ⟨nm2, kd2, nu2, a2, c2, bs2⟩ := t
    simp only [Sg.pl, Sp.mk.injEq] at hst
    obtain ⟨e1, e2, e3, e4⟩ := hst
    have e1' : nm = nm2 := by cases nm; cases nm2; simpa using e1
    subst e1' e2 e3 e4
    conv => whnf
    repeat' ((first | refine And.intro (by repeat' first | exact trivial | refine And.intro rfl ?_) (And.intro (by first | exact fun _ h => h | exact fun _ => List.mem_cons_of_mem _ | exact fun _ => List.mem_append_right _) ?_) | (refine And.intro (fun h => ?_) (fun h => ?_) <;> (try simp only [n1, n2, n3, n4, n5, n6] at h) <;> first | (exfalso; omega) | (cases h; done) | skip) | refine And.intro (by omega) ?_ | refine Exists.intro _ (And.intro (by first | exact And.intro rfl rfl | exact Pl.den (by repeat constructor) | with_reducible rfl | exact cast_succ _ | assumption | exact (Int.toNat_of_nonneg (by omega)).symm | rfl) ?_) | refine hD _ _ ?_ | refine hL _ _ ?_ | (intro h; (try simp only [n1, n2, n3, n4, n5, n6] at h); first | (exfalso; omega) | (cases h; done) | skip)) <;> (conv => whnf))
    refine draw_opaque fun KD hD => ?_
    refine draw_all tok (by kernel_rfl) [.any 0, .any 1, .any 2, .any 3, .any 5, .any 6, .any 7, .any 8, .load 4, .one 9, .any 10, .any 11, .any 12, .any 13, .any 14, .any 15, .any 17, .any 18, .any 19, .any 20, .load 16, .one 21, .any 22, .any 23, .any 24, .any 25, .any 26, .any 27, .any 28, .any 30, .any 31, .any 32, .any 33, .load 29, .one 34, .any 35, .any 36, .any 37, .any 38, .any 39, .any 40, .any 41, .any 43, .any 44, .any 45, .any 46, .load 42, .one 47, .one 48, .any 49, .any 50] [] (by kernel_rfl) rfl rfl (by repeat' (first | exact trivial | refine And.intro rfl ?_)) ?_
    conv => whnf
    repeat' ((first | (refine Exists.intro _ (And.intro (hA.field hs hA2 0 rfl) ?_)) | (refine Exists.intro _ (And.intro (hB.field ht hB2 0 rfl) ?_)) | (refine Exists.intro _ (And.intro (hA.field hs hA2 1 rfl) ?_)) | (refine Exists.intro _ (And.intro (hB.field ht hB2 1 rfl) ?_)) | (refine Exists.intro _ (And.intro (hA.field hs hA2 2 rfl) ?_)) | (refine Exists.intro _ (And.intro (hB.field ht hB2 2 rfl) ?_)) | (refine Exists.intro _ (And.intro (hA.field hs hA2 3 rfl) ?_)) | (refine Exists.intro _ (And.intro (hB.field ht hB2 3 rfl) ?_)) | (refine Exists.intro ad (And.intro hA2 ?_)) | (refine Exists.intro bd (And.intro hB2 ?_)) | refine And.intro (by repeat' first | exact trivial | refine And.intro rfl ?_) (And.intro (by first | exact fun _ h => h | exact fun _ => List.mem_cons_of_mem _ | exact fun _ => List.mem_append_right _) ?_) | (refine And.intro (fun h => ?_) (fun h => ?_) <;> (try simp only [n1, n2, n3, n4, n5, n6] at h) <;> first | (exfalso; omega) | (cases h; done) | skip) | refine And.intro (by omega) ?_ | refine Exists.intro _ (And.intro (by first | exact And.intro rfl rfl | exact Pl.den (by repeat constructor) | with_reducible rfl | exact cast_succ _ | assumption | exact (Int.toNat_of_nonneg (by omega)).symm | rfl) ?_) | refine hD _ _ ?_ | refine hL _ _ ?_ | (intro h; (try simp only [n1, n2, n3, n4, n5, n6] at h); first | (exfalso; omega) | (cases h; done) | skip)) <;> (conv => whnf))
    · simp at h
    refine Tri.use (((tSame fx a1 a2 c1 c2 bs bs hsf.bs htf.bs hsf.len).one.reval (v' := .b true) (fun ρ => by simp only [den]; simp))) [] rfl (fun _ _ _ => rfl) trivial (fun f hf => by first | exact hf | cases hf) (fun u hu => ?_)
    conv => whnf
    repeat' ((first | refine And.intro (by repeat' first | exact trivial | refine And.intro rfl ?_) (And.intro (by first | exact fun _ h => h | exact fun _ => List.mem_cons_of_mem _ | exact fun _ => List.mem_append_right _) ?_) | (refine And.intro (fun h => ?_) (fun h => ?_) <;> (try simp only [n1, n2, n3, n4, n5, n6] at h) <;> first | (exfalso; omega) | (cases h; done) | skip) | refine And.intro (by omega) ?_ | refine Exists.intro _ (And.intro (by first | exact And.intro rfl rfl | exact Pl.den (by repeat constructor) | with_reducible rfl | exact cast_succ _ | assumption | exact (Int.toNat_of_nonneg (by omega)).symm | rfl) ?_) | refine hD _ _ ?_ | refine hL _ _ ?_ | (intro h; (try simp only [n1, n2, n3, n4, n5, n6] at h); first | (exfalso; omega) | (cases h; done) | skip)) <;> (conv => whnf))
    exact ⟨i + 1, [], ⟨by omega, by omega⟩, rfl, ⟨fun _ _ _ => rfl, fun _ _ _ => rfl, fun _ _ _ => rfl, trivial⟩, trivial, fun f hf => hf⟩
  · conv => whnf
    repeat' ((first | refine And.intro (by repeat' first | exact trivial | refine And.intro rfl ?_) (And.intro (by first | exact fun _ h => h | exact fun _ => List.mem_cons_of_mem _ | exact fun _ => List.mem_append_right _) ?_) | (refine And.intro (fun h => ?_) (fun h => ?_) <;> (try simp only [n1, n2, n3, n4, n5, n6] at h) <;> first | (exfalso; omega) | (cases h; done) | skip) | refine And.intro (by omega) ?_ | refine Exists.intro _ (And.intro (by first | exact And.intro rfl rfl | exact Pl.den (by repeat constructor) | with_reducible rfl | exact cast_succ _ | assumption | exact (Int.toNat_of_nonneg (by omega)).symm | rfl) ?_) | refine hD _ _ ?_ | refine hL _ _ ?_ | (intro h; (try simp only [n1, n2, n3, n4, n5, n6] at h); first | (exfalso; omega) | (cases h; done) | skip)) <;> (conv => whnf))
    exact Ret.noneS rfl (fun _ _ => rfl) (fun g hg => by cases hg)
end Go.Proofs.YtekgjjanikicnaaDoor.Sx

namespace Go.Proofs.YtekgjjanikicnaaDoor.Sx
open Go Go.RowKit
set_option maxRecDepth 100000
set_option linter.unusedSimpArgs false
set_option linter.unusedVariables false
theorem mapM_all {α β : Type} {f : α → Option β} : ∀ {l : List α}, (∀ x ∈ l, ∃ y, f x = some y) → ∃ ys, l.mapM f = some ys
  | [], _ => ⟨[], by simp⟩
  | x :: r, h => by
    obtain ⟨y, hy⟩ := h x (List.mem_cons_self ..)
    obtain ⟨ys, hys⟩ := mapM_all (l := r) fun z hz => h z (List.mem_cons_of_mem _ hz)
    exact ⟨y :: ys, by simp [List.mapM_cons, hy, hys]⟩
theorem key_u8 (n : Nat) (b : UInt8) : ∃ l, Tryd.prog.keyLits (n + 1) 5 [bv b] = some l := by
  refine ⟨[.int .u8 (b.toNat : Int)], ?_⟩
  have hw : (Lit.int .u8 (b.toNat : Int)).wf = true := by
    have := b.toNat_lt
    simp [Lit.wf, IntKind.min, IntKind.max, IntKind.signed, IntKind.bits]; omega
  simp only [Program.keyLits, Tryd.underlying5, bv]
  rw [if_pos ⟨trivial, hw⟩]
theorem key_hash (n : Nat) (bs : List UInt8) (h : bs.length = 32) : ∃ l, Tryd.prog.keyLits (n + 2) 45 (bs.map bv) = some l := by
  have c5 : Tryd.prog.cellsOf 5 = 1 := by kernel_rfl
  have ch : Tryd.prog.cellsOf 45 = 32 := by kernel_rfl
  obtain ⟨ys, hy⟩ := mapM_all (l := List.range 32) (f := fun i => Tryd.prog.keyLits (n + 1) 5 (((bs.map bv).drop (i * 1)).take 1)) (fun i hi => by
    have hi : i < bs.length := by have := List.mem_range.1 hi; omega
    have e : ((bs.map bv).drop (i * 1)).take 1 = [bv bs[i]] := by
      rw [Nat.mul_one, ← List.map_drop, List.drop_eq_getElem_cons hi]; rfl
    simp only [e]
    exact key_u8 n _)
  refine ⟨ys.flatten, ?_⟩
  unfold Program.keyLits
  simp only [Tryd.underlying45]
  rw [if_pos (by rw [ch]; simpa using h), c5, hy]
  rfl
theorem key_hd {T : TypeId} {fs : Array Field} (hT : Tryd.prog.underlying T = some (.struct fs)) (hc : Tryd.prog.cellsOf T = 34) (hfs : fs.toList.map (fun f => (f.type, f.offset)) = [(9, 0), (3, 1), (45, 2)]) (hn : fs.all (·.name != "_") = true) (n : Nat) (d : Hd) (hd : d.Fit) (ho : d.org.size ≤ maxLen) :
    ∃ l, Tryd.prog.keyLits (n + 3) T d.cells = some l := by
  have c9 : Tryd.prog.cellsOf 9 = 1 := by kernel_rfl
  have c3 : Tryd.prog.cellsOf 3 = 1 := by kernel_rfl
  have ch : Tryd.prog.cellsOf 45 = 32 := by kernel_rfl
  obtain ⟨ys, hy⟩ := mapM_all (l := fs.toList) (f := fun f => Tryd.prog.keyLits (n + 2) f.type ((d.cells.drop f.offset).take (Tryd.prog.cellsOf f.type))) (fun f hf => by
    have hm : (f.type, f.offset) ∈ [(9, 0), (3, 1), (45, 2)] := by rw [← hfs]; exact List.mem_map.2 ⟨f, hf, rfl⟩
    simp only [List.mem_cons, List.not_mem_nil, or_false, Prod.mk.injEq] at hm
    rcases hm with ⟨e1, e2⟩ | ⟨e1, e2⟩ | ⟨e1, e2⟩
    · simp only [e1, e2, c9]
      refine ⟨[.string d.org.data.toList], ?_⟩
      show Tryd.prog.keyLits (n + 1 + 1) 9 [.string d.org] = _
      simp only [Program.keyLits, Tryd.underlying9]
      rw [if_pos ho]
    · simp only [e1, e2, c3]
      refine ⟨[.int .i64 d.size], ?_⟩
      have hw : (Lit.int .i64 d.size).wf = true := by
        have := hd.size
        simp [Lit.wf, IntKind.min, IntKind.max, IntKind.signed, IntKind.bits]; omega
      show Tryd.prog.keyLits (n + 1 + 1) 3 [.int .i64 d.size] = _
      simp only [Program.keyLits, Tryd.underlying3]
      rw [if_pos ⟨trivial, hw⟩]
    · simp only [e1, e2, ch]
      have e : (d.cells.drop 2).take 32 = d.root.map bv := by
        show (d.root.map bv).take 32 = _
        rw [List.take_of_length_le (by rw [List.length_map, hd.root]; exact Nat.le_refl _)]
      rw [e]
      exact key_hash n _ hd.root)
  refine ⟨ys.flatten, ?_⟩
  unfold Program.keyLits
  simp only [hT]
  rw [if_pos ⟨by rw [hc, Hd.len hd], hn⟩, hy]
  rfl
theorem same_hd {T : TypeId} {fs : Array Field} (hT : Tryd.prog.underlying T = some (.struct fs)) (hc : Tryd.prog.cellsOf T = 34) (hfs : fs.toList.map (fun f => (f.type, f.offset)) = [(9, 0), (3, 1), (45, 2)]) (hn : fs.all (·.name != "_") = true)
    (hk : Tryd.prog.keyTypeAt 5 T = true) (hkt : Tryd.prog.keyType T = true) (hg : Tryd.prog.eqGuardType Tryd.prog.depth T = false) (hsz : 2 ≤ Tryd.prog.types.size)
    (d : Hd) (hd : d.Fit) (ho : d.org.size ≤ maxLen) : AggEq Tryd.prog T d.cells d.cells true := by
  intro w
  constructor
  · obtain ⟨l, hl⟩ := key_hd hT hc hfs hn (Tryd.prog.types.size - 2) d hd ho
    have hkey : keyOf Tryd.prog T (.agg ⟨d.cells⟩) = some (.string (keyBytes l)) := by
      have hf : Value.formed Tryd.prog T (.agg ⟨d.cells⟩) = true := by
        simp [Value.formed, hT, hc, Hd.len hd]
      unfold keyOf
      simp only [hT, hkt, hf, Bool.and_self, if_true]
      rw [show Tryd.prog.types.size + 1 = Tryd.prog.types.size - 2 + 3 by omega]
      show (Tryd.prog.keyLits _ T d.cells).map _ = _
      rw [hl]
      rfl
    obtain ⟨r, h1, h2⟩ := run_equal_deep w (m := 5) (by decide) hk (by rw [hT]) hkey hkey
    rw [h1, h2.2 rfl]
  · intro o a b
    unfold eqGuard
    cases o <;> simp [hg]
theorem same_rhd (d : Hd) (hd : d.Fit) (ho : d.org.size ≤ maxLen) : AggEq Tryd.prog 47 d.cells d.cells true :=
  same_hd Tryd.underlying47 (by kernel_rfl) (by kernel_rfl) (by kernel_rfl) (by kernel_rfl) (by kernel_rfl) (by kernel_rfl) (Nat.le_of_ble_eq_true (by kernel_rfl)) d hd ho
theorem same_nhd (d : Hd) (hd : d.Fit) (ho : d.org.size ≤ maxLen) : AggEq Tryd.prog 52 d.cells d.cells true :=
  same_hd Tryd.underlying52 (by kernel_rfl) (by kernel_rfl) (by kernel_rfl) (by kernel_rfl) (by kernel_rfl) (by kernel_rfl) (Nat.le_of_ble_eq_true (by kernel_rfl)) d hd ho
theorem hd0_fit : hd0.Fit := ⟨rfl, by simp [hd0], by decide⟩
theorem hd0_org : hd0.org.size ≤ maxLen := by decide
theorem IsNote.fit {s : List UInt8} {d : Hp} {l : List Sp} (h : IsNote s d l) : d.hd.Fit ∧ d.hd.org.size ≤ maxLen := by
  have h1 := h.ok
  unfold Hd.ok at h1
  rw [Bool.and_eq_true] at h1
  have h2 := of_decide_eq_true h1.2
  have h3 := nameOk_len h1.1
  rw [list_size] at h3
  exact ⟨⟨h.root, by omega, by omega⟩, by unfold maxLen; omega⟩
theorem SgsAt.nil {fx : List Fact} : SgsAt fx none [] := ⟨⟨fun _ => rfl, fun ad e => by cases e⟩, fun s hs => by cases hs⟩
theorem SgsAt.more {fx fx' : List Fact} {A : Option Addr} {l : List Sg} (h : SgsAt fx A l) (hf : ∀ f, f ∈ fx → f ∈ fx') : SgsAt fx' A l :=
  ⟨⟨h.row.1, fun ad e j y hj => by obtain ⟨f, h1, h2⟩ := h.row.2 ad e j y hj; exact ⟨f, hf f h1, h2⟩⟩, fun s hs => (h.fit s hs).mono hf⟩
/-- What a text is read as, told at once. -/
structure NtR.Is (fx : List Fact) (S : List UInt8) (x : NtR) : Prop where
  at_ : SgsAt (x.f ++ fx) x.A x.l
  few : x.l.length ≤ 8
  fit : x.d.Fit ∧ x.d.org.size ≤ maxLen
theorem NtR.pr.is {fx : List Fact} {S : List UInt8} {x : NtR} (h : x.pr fx S) : x.Is fx S := by
  by_cases he : x.e = 0
  · obtain ⟨⟨p, h1, h2⟩, h3⟩ := h.yes he
    exact ⟨h3, by have := h1.few; rwa [List.length_map] at this, by rw [h2]; exact h1.fit⟩
  · obtain ⟨h1, h2, h3, h4, h5⟩ := h.no he
    exact ⟨by rw [h2, h3]; exact SgsAt.nil, by rw [h2]; decide, by rw [h1]; exact ⟨hd0_fit, hd0_org⟩⟩
/-- Two readings of a text are alike. -/
theorem NtR.pr.same {fx gx : List Fact} {S : List UInt8} {x y : NtR} (h : x.pr fx S) (k : y.pr gx S) : x.d = y.d ∧ x.e = y.e ∧ x.l.map Sg.pl = y.l.map Sg.pl := by
  by_cases he : x.e = 0
  · obtain ⟨⟨p, h1, h2⟩, h3⟩ := h.yes he
    by_cases ke : y.e = 0
    · obtain ⟨⟨q, k1, k2⟩, k3⟩ := k.yes ke
      obtain ⟨e1, e2⟩ := h1.inj k1
      subst e1
      exact ⟨by rw [h2, k2], by rw [he, ke], e2⟩
    · exact absurd h1 ((k.no ke).2.2.2.2 _ _)
  · obtain ⟨h1, h2, h3, h4, h5⟩ := h.no he
    by_cases ke : y.e = 0
    · obtain ⟨⟨q, k1, k2⟩, k3⟩ := k.yes ke
      exact absurd k1 (h5 _ _)
    · obtain ⟨k1, k2, k3, k4, k5⟩ := k.no ke
      exact ⟨by rw [h1, k1], by rw [h4, k4], by rw [h2, k2]⟩
end Go.Proofs.YtekgjjanikicnaaDoor.Sx

namespace Go.Proofs.YtekgjjanikicnaaDoor.Sx
open Go Go.RowKit
set_option maxRecDepth 100000
set_option linter.unusedSimpArgs false
set_option linter.unusedVariables false
theorem tNoteReads (fx : List Fact) (hg : gTab ∈ fx) (he : gErr ∈ fx) (hm : gMax ∈ fx) (S : List UInt8) (hS : S.length ≤ 9223372036854775807) :
    Tri Tryd.prog 16 [.v (strS S)] [] 0 fx (Ret 0 (.b true) [] 0 []) := by
  have hSs := arr_size S
  refine Tri.of_code tok Tryd.func16 rfl rfl rfl (by decide) rfl (Nat.le_of_ble_eq_true rfl) ?_
  conv => whnf
  repeat' ((first | refine And.intro (by repeat' first | exact trivial | refine And.intro rfl ?_) (And.intro (by first | exact fun _ h => h | exact fun _ => List.mem_cons_of_mem _ | exact fun _ => List.mem_append_right _) ?_) | (refine And.intro (fun h => ?_) (fun h => ?_) <;> (try simp only [n1, n2, n3, n4, n5, n6] at h) <;> first | (exfalso; omega) | (cases h; done) | skip) | refine And.intro (by omega) ?_ | refine Exists.intro _ (And.intro (by first | exact And.intro rfl rfl | exact Pl.den (by repeat constructor) | with_reducible rfl | exact cast_succ _ | assumption | exact (Int.toNat_of_nonneg (by omega)).symm | rfl) ?_) | refine hD _ _ ?_ | refine hL _ _ ?_ | (intro h; (try simp only [n1, n2, n3, n4, n5, n6] at h); first | (exfalso; omega) | (cases h; done) | skip)) <;> (conv => whnf))
  refine Tri.use ((tAwake21 fx hg).one) [] rfl (fun _ _ _ => rfl) trivial (fun f hf => by first | exact hf | cases hf) (fun u hu => ?_)
  conv => whnf
  repeat' ((first | refine And.intro (by repeat' first | exact trivial | refine And.intro rfl ?_) (And.intro (by first | exact fun _ h => h | exact fun _ => List.mem_cons_of_mem _ | exact fun _ => List.mem_append_right _) ?_) | (refine And.intro (fun h => ?_) (fun h => ?_) <;> (try simp only [n1, n2, n3, n4, n5, n6] at h) <;> first | (exfalso; omega) | (cases h; done) | skip) | refine And.intro (by omega) ?_ | refine Exists.intro _ (And.intro (by first | exact And.intro rfl rfl | exact Pl.den (by repeat constructor) | with_reducible rfl | exact cast_succ _ | assumption | exact (Int.toNat_of_nonneg (by omega)).symm | rfl) ?_) | refine hD _ _ ?_ | refine hL _ _ ?_ | (intro h; (try simp only [n1, n2, n3, n4, n5, n6] at h); first | (exfalso; omega) | (cases h; done) | skip)) <;> (conv => whnf))
  · refine Tri.use ((tAwake21 fx hg).one) [] rfl (fun _ _ _ => rfl) trivial (fun f hf => by first | exact hf | cases hf) (fun u hu => ?_)
    conv => whnf
    repeat' ((first | refine And.intro (by repeat' first | exact trivial | refine And.intro rfl ?_) (And.intro (by first | exact fun _ h => h | exact fun _ => List.mem_cons_of_mem _ | exact fun _ => List.mem_append_right _) ?_) | (refine And.intro (fun h => ?_) (fun h => ?_) <;> (try simp only [n1, n2, n3, n4, n5, n6] at h) <;> first | (exfalso; omega) | (cases h; done) | skip) | refine And.intro (by omega) ?_ | refine Exists.intro _ (And.intro (by first | exact And.intro rfl rfl | exact Pl.den (by repeat constructor) | with_reducible rfl | exact cast_succ _ | assumption | exact (Int.toNat_of_nonneg (by omega)).symm | rfl) ?_) | refine hD _ _ ?_ | refine hL _ _ ?_ | (intro h; (try simp only [n1, n2, n3, n4, n5, n6] at h); first | (exfalso; omega) | (cases h; done) | skip)) <;> (conv => whnf))
    exact Ret.noneS rfl (fun _ _ => rfl) (fun g hg => by cases hg)
  refine Tri.use ((tRead21 fx hg he hm S hS)) [] rfl (fun _ _ _ => rfl) trivial (fun f hf => by first | exact hf | cases hf) (fun x hx => ?_)
  have hxi := hx.is
  obtain ⟨d, l, A, cap, e, f⟩ := x
  conv => whnf
  refine appFK_in ?_
  conv => whnf
  repeat' ((first | refine And.intro (by repeat' first | exact trivial | refine And.intro rfl ?_) (And.intro (by first | exact fun _ h => h | exact fun _ => List.mem_cons_of_mem _ | exact fun _ => List.mem_append_right _) ?_) | (refine And.intro (fun h => ?_) (fun h => ?_) <;> (try simp only [n1, n2, n3, n4, n5, n6] at h) <;> first | (exfalso; omega) | (cases h; done) | skip) | refine And.intro (by omega) ?_ | refine Exists.intro _ (And.intro (by first | exact And.intro rfl rfl | exact Pl.den (by repeat constructor) | with_reducible rfl | exact cast_succ _ | assumption | exact (Int.toNat_of_nonneg (by omega)).symm | rfl) ?_) | refine hD _ _ ?_ | refine hL _ _ ?_ | (intro h; (try simp only [n1, n2, n3, n4, n5, n6] at h); first | (exfalso; omega) | (cases h; done) | skip)) <;> (conv => whnf))
  refine And.intro ⟨Hd.len hxi.fit.1, Hd.one⟩ (And.intro ⟨rfl, rfl⟩ ?_)
  conv => whnf
  repeat' ((first | refine And.intro (by repeat' first | exact trivial | refine And.intro rfl ?_) (And.intro (by first | exact fun _ h => h | exact fun _ => List.mem_cons_of_mem _ | exact fun _ => List.mem_append_right _) ?_) | (refine And.intro (fun h => ?_) (fun h => ?_) <;> (try simp only [n1, n2, n3, n4, n5, n6] at h) <;> first | (exfalso; omega) | (cases h; done) | skip) | refine And.intro (by omega) ?_ | refine Exists.intro _ (And.intro (by first | exact And.intro rfl rfl | exact Pl.den (by repeat constructor) | with_reducible rfl | exact cast_succ _ | assumption | exact (Int.toNat_of_nonneg (by omega)).symm | rfl) ?_) | refine hD _ _ ?_ | refine hL _ _ ?_ | (intro h; (try simp only [n1, n2, n3, n4, n5, n6] at h); first | (exfalso; omega) | (cases h; done) | skip)) <;> (conv => whnf))
  refine Tri.use ((tRefRead21 (f ++ fx) S hS)) [] rfl (fun _ _ _ => rfl) trivial (fun f hf => by first | exact hf | cases hf) (fun y hy => ?_)
  have hyi := hy.is
  have hsame := hx.same hy
  obtain ⟨d2, l2, A2, cap2, e2, f2⟩ := y
  simp only at hsame
  obtain ⟨e1, e3, e4⟩ := hsame
  subst e1 e3
  conv => whnf
  refine appFK_in ?_
  conv => whnf
  repeat' ((first | refine And.intro (by repeat' first | exact trivial | refine And.intro rfl ?_) (And.intro (by first | exact fun _ h => h | exact fun _ => List.mem_cons_of_mem _ | exact fun _ => List.mem_append_right _) ?_) | (refine And.intro (fun h => ?_) (fun h => ?_) <;> (try simp only [n1, n2, n3, n4, n5, n6] at h) <;> first | (exfalso; omega) | (cases h; done) | skip) | refine And.intro (by omega) ?_ | refine Exists.intro _ (And.intro (by first | exact And.intro rfl rfl | exact Pl.den (by repeat constructor) | with_reducible rfl | exact cast_succ _ | assumption | exact (Int.toNat_of_nonneg (by omega)).symm | rfl) ?_) | refine hD _ _ ?_ | refine hL _ _ ?_ | (intro h; (try simp only [n1, n2, n3, n4, n5, n6] at h); first | (exfalso; omega) | (cases h; done) | skip)) <;> (conv => whnf))
  refine And.intro ⟨Hd.len hxi.fit.1, Hd.one⟩ (And.intro ⟨rfl, rfl⟩ ?_)
  conv => whnf
  repeat' ((first | (refine Exists.intro d.cells (And.intro (Hd.all hxi.fit.1) ?_)) | (refine Exists.intro true (And.intro (same_rhd d hxi.fit.1 hxi.fit.2) ?_)) | refine And.intro (by repeat' first | exact trivial | refine And.intro rfl ?_) (And.intro (by first | exact fun _ h => h | exact fun _ => List.mem_cons_of_mem _ | exact fun _ => List.mem_append_right _) ?_) | (refine And.intro (fun h => ?_) (fun h => ?_) <;> (try simp only [n1, n2, n3, n4, n5, n6] at h) <;> first | (exfalso; omega) | (cases h; done) | skip) | refine And.intro (by omega) ?_ | refine Exists.intro _ (And.intro (by first | exact And.intro rfl rfl | exact Pl.den (by repeat constructor) | with_reducible rfl | exact cast_succ _ | assumption | exact (Int.toNat_of_nonneg (by omega)).symm | rfl) ?_) | refine hD _ _ ?_ | refine hL _ _ ?_ | (intro h; (try simp only [n1, n2, n3, n4, n5, n6] at h); first | (exfalso; omega) | (cases h; done) | skip)) <;> (conv => whnf))
  all_goals first
    | exact absurd trivial (by assumption)
    | skip
  have hS1 : SgsAt (f2 ++ (f ++ fx)) A l := hxi.at_.more fun g hg => List.mem_append_right _ hg
  have hS2 : SgsAt (f2 ++ (f ++ fx)) A2 l2 := hyi.at_
  have hl1 := hxi.few
  have hl2 := hyi.few
  simp only at hl1 hl2
  refine Tri.use ((tBack (f2 ++ (f ++ fx)) A l cap hS1 (by omega))) [] rfl (fun _ _ _ => rfl) trivial (fun f hf => by first | exact hf | cases hf) (fun z hz => ?_)
  conv => whnf
  refine appFK_in ?_
  conv => whnf
  repeat' ((first | refine And.intro (by repeat' first | exact trivial | refine And.intro rfl ?_) (And.intro (by first | exact fun _ h => h | exact fun _ => List.mem_cons_of_mem _ | exact fun _ => List.mem_append_right _) ?_) | (refine And.intro (fun h => ?_) (fun h => ?_) <;> (try simp only [n1, n2, n3, n4, n5, n6] at h) <;> first | (exfalso; omega) | (cases h; done) | skip) | refine And.intro (by omega) ?_ | refine Exists.intro _ (And.intro (by first | exact And.intro rfl rfl | exact Pl.den (by repeat constructor) | with_reducible rfl | exact cast_succ _ | assumption | exact (Int.toNat_of_nonneg (by omega)).symm | rfl) ?_) | refine hD _ _ ?_ | refine hL _ _ ?_ | (intro h; (try simp only [n1, n2, n3, n4, n5, n6] at h); first | (exfalso; omega) | (cases h; done) | skip)) <;> (conv => whnf))
  refine Tri.use (((tSame21 (z.f ++ (f2 ++ (f ++ fx))) z.A A2 l l2 z.cap cap2 hz (hS2.more fun g hg => List.mem_append_right _ hg) e4 (by omega)).one)) [] rfl (fun _ _ _ => rfl) trivial (fun f hf => by first | exact hf | cases hf) (fun u hu => ?_)
  conv => whnf
  repeat' ((first | refine And.intro (by repeat' first | exact trivial | refine And.intro rfl ?_) (And.intro (by first | exact fun _ h => h | exact fun _ => List.mem_cons_of_mem _ | exact fun _ => List.mem_append_right _) ?_) | (refine And.intro (fun h => ?_) (fun h => ?_) <;> (try simp only [n1, n2, n3, n4, n5, n6] at h) <;> first | (exfalso; omega) | (cases h; done) | skip) | refine And.intro (by omega) ?_ | refine Exists.intro _ (And.intro (by first | exact And.intro rfl rfl | exact Pl.den (by repeat constructor) | with_reducible rfl | exact cast_succ _ | assumption | exact (Int.toNat_of_nonneg (by omega)).symm | rfl) ?_) | refine hD _ _ ?_ | refine hL _ _ ?_ | (intro h; (try simp only [n1, n2, n3, n4, n5, n6] at h); first | (exfalso; omega) | (cases h; done) | skip)) <;> (conv => whnf))
  exact Ret.mk [] [] (Fold.drop (by simp)) rfl (fun _ _ _ => rfl) trivial (fun g hg => by cases hg)
end Go.Proofs.YtekgjjanikicnaaDoor.Sx

namespace Go.Proofs.YtekgjjanikicnaaDoor.Sx
open Go Go.RowKit
set_option maxRecDepth 100000
set_option linter.unusedSimpArgs false
set_option linter.unusedVariables false
theorem wErr_zero {d : Hd} {l : List Sg} : wErr d l = 0 ↔ d.ok = true ∧ l.all Sg.ok = true ∧ l.length ≤ 8 := by
  unfold wErr
  cases d.ok <;> cases l.all Sg.ok <;> simp
theorem written_note {d : Hd} (hf : d.Fit) {l : List Sg} {fx : List Fact} {A : Option Addr} (hS : SgsAt fx A l) (h : wErr d l = 0) : IsNote (noteL d l) ⟨d.org.data.toList, d.size.toNat, d.root⟩ (l.map Sg.pl) ∧ (⟨d.org.data.toList, d.size.toNat, d.root⟩ : Hp).hd = d := by
  obtain ⟨h1, h2, h3⟩ := wErr_zero.1 h
  have e : (⟨d.org.data.toList, d.size.toNat, d.root⟩ : Hp).hd = d := by
    have h4 := h1
    unfold Hd.ok at h4
    rw [Bool.and_eq_true] at h4
    have h5 := of_decide_eq_true h4.2
    obtain ⟨org, size, root⟩ := d
    simp only [Hp.hd] at h5 ⊢
    rw [Int.toNat_of_nonneg h5.1]
  refine ⟨⟨by rw [e]; exact h1, hf.root, fun x hx => ?_, by rw [List.length_map]; exact h3, ?_⟩, e⟩
  · obtain ⟨t, ht, rfl⟩ := List.mem_map.1 hx
    exact ⟨by rw [(pl_line t).2]; exact List.all_eq_true.1 h2 t ht, (hS.fit t ht).num⟩
  · rw [e]
    simp only [noteL, pl_lines]
theorem note_written {S : List UInt8} {p : Hp} {l : List Sg} (h : IsNote S p (l.map Sg.pl)) : wErr p.hd l = 0 ∧ noteL p.hd l = S := by
  refine ⟨wErr_zero.2 ⟨h.ok, List.all_eq_true.2 fun t ht => ?_, by have := h.few; rwa [List.length_map] at this⟩, ?_⟩
  · have := (h.all t.pl (List.mem_map.2 ⟨t, ht, rfl⟩)).1
    rwa [(pl_line t).2] at this
  · have := h.text
    simp only [noteL, pl_lines] at this
    exact this
theorem tNoteBack (fx : List Fact) (hg : gTab ∈ fx) (he : gErr ∈ fx) (hm : gMax ∈ fx) (d : Hd) (hf : d.Fit) (ho : d.org.size ≤ maxLen) (A : Option Addr) (l : List Sg) (cap : Nat) (hS : SgsAt fx A l) (hl : l.length < 9223372036854775808) (S : List UInt8) (hlS : S.length ≤ 9223372036854775807) :
    Tri Tryd.prog 17 [.v d.v, .v (.slice A l.length cap), .v (strS S)] [] 0 fx (Ret 0 (.b true) [] 0 []) := by
  have hSs := arr_size S
  refine Tri.of_code tok Tryd.func17 rfl rfl rfl (by decide) rfl (Nat.le_of_ble_eq_true rfl) ?_
  conv => whnf
  repeat' ((first | refine And.intro (by repeat' first | exact trivial | refine And.intro rfl ?_) (And.intro (by first | exact fun _ h => h | exact fun _ => List.mem_cons_of_mem _ | exact fun _ => List.mem_append_right _) ?_) | (refine And.intro (fun h => ?_) (fun h => ?_) <;> (try simp only [n1, n2, n3, n4, n5, n6] at h) <;> first | (exfalso; omega) | (cases h; done) | skip) | refine And.intro (by omega) ?_ | refine Exists.intro _ (And.intro (by first | exact And.intro rfl rfl | exact Pl.den (by repeat constructor) | with_reducible rfl | exact cast_succ _ | assumption | exact (Int.toNat_of_nonneg (by omega)).symm | rfl) ?_) | refine hD _ _ ?_ | refine hL _ _ ?_ | (intro h; (try simp only [n1, n2, n3, n4, n5, n6] at h); first | (exfalso; omega) | (cases h; done) | skip)) <;> (conv => whnf))
  refine And.intro Hd.one ?_
  conv => whnf
  repeat' ((first | refine And.intro (by repeat' first | exact trivial | refine And.intro rfl ?_) (And.intro (by first | exact fun _ h => h | exact fun _ => List.mem_cons_of_mem _ | exact fun _ => List.mem_append_right _) ?_) | (refine And.intro (fun h => ?_) (fun h => ?_) <;> (try simp only [n1, n2, n3, n4, n5, n6] at h) <;> first | (exfalso; omega) | (cases h; done) | skip) | refine And.intro (by omega) ?_ | refine Exists.intro _ (And.intro (by first | exact And.intro rfl rfl | exact Pl.den (by repeat constructor) | with_reducible rfl | exact cast_succ _ | assumption | exact (Int.toNat_of_nonneg (by omega)).symm | rfl) ?_) | refine hD _ _ ?_ | refine hL _ _ ?_ | (intro h; (try simp only [n1, n2, n3, n4, n5, n6] at h); first | (exfalso; omega) | (cases h; done) | skip)) <;> (conv => whnf))
  refine Tri.use ((tAwake21 fx hg).one) [] rfl (fun _ _ _ => rfl) trivial (fun f hf => by first | exact hf | cases hf) (fun u hu => ?_)
  conv => whnf
  repeat' ((first | refine And.intro (by repeat' first | exact trivial | refine And.intro rfl ?_) (And.intro (by first | exact fun _ h => h | exact fun _ => List.mem_cons_of_mem _ | exact fun _ => List.mem_append_right _) ?_) | (refine And.intro (fun h => ?_) (fun h => ?_) <;> (try simp only [n1, n2, n3, n4, n5, n6] at h) <;> first | (exfalso; omega) | (cases h; done) | skip) | refine And.intro (by omega) ?_ | refine Exists.intro _ (And.intro (by first | exact And.intro rfl rfl | exact Pl.den (by repeat constructor) | with_reducible rfl | exact cast_succ _ | assumption | exact (Int.toNat_of_nonneg (by omega)).symm | rfl) ?_) | refine hD _ _ ?_ | refine hL _ _ ?_ | (intro h; (try simp only [n1, n2, n3, n4, n5, n6] at h); first | (exfalso; omega) | (cases h; done) | skip)) <;> (conv => whnf))
  refine Tri.use ((tFew21 fx A l cap hS hl)) [] rfl (fun _ _ _ => rfl) trivial (fun f hf => by first | exact hf | cases hf) (fun b hb => ?_)
  conv => whnf
  repeat' ((first | refine And.intro (by repeat' first | exact trivial | refine And.intro rfl ?_) (And.intro (by first | exact fun _ h => h | exact fun _ => List.mem_cons_of_mem _ | exact fun _ => List.mem_append_right _) ?_) | (refine And.intro (fun h => ?_) (fun h => ?_) <;> (try simp only [n1, n2, n3, n4, n5, n6] at h) <;> first | (exfalso; omega) | (cases h; done) | skip) | refine And.intro (by omega) ?_ | refine Exists.intro _ (And.intro (by first | exact And.intro rfl rfl | exact Pl.den (by repeat constructor) | with_reducible rfl | exact cast_succ _ | assumption | exact (Int.toNat_of_nonneg (by omega)).symm | rfl) ?_) | refine hD _ _ ?_ | refine hL _ _ ?_ | (intro h; (try simp only [n1, n2, n3, n4, n5, n6] at h); first | (exfalso; omega) | (cases h; done) | skip)) <;> (conv => whnf))
  · refine Tri.use ((tAwake21 fx hg).one) [] rfl (fun _ _ _ => rfl) trivial (fun f hf => by first | exact hf | cases hf) (fun u hu => ?_)
    conv => whnf
    repeat' ((first | refine And.intro (by repeat' first | exact trivial | refine And.intro rfl ?_) (And.intro (by first | exact fun _ h => h | exact fun _ => List.mem_cons_of_mem _ | exact fun _ => List.mem_append_right _) ?_) | (refine And.intro (fun h => ?_) (fun h => ?_) <;> (try simp only [n1, n2, n3, n4, n5, n6] at h) <;> first | (exfalso; omega) | (cases h; done) | skip) | refine And.intro (by omega) ?_ | refine Exists.intro _ (And.intro (by first | exact And.intro rfl rfl | exact Pl.den (by repeat constructor) | with_reducible rfl | exact cast_succ _ | assumption | exact (Int.toNat_of_nonneg (by omega)).symm | rfl) ?_) | refine hD _ _ ?_ | refine hL _ _ ?_ | (intro h; (try simp only [n1, n2, n3, n4, n5, n6] at h); first | (exfalso; omega) | (cases h; done) | skip)) <;> (conv => whnf))
    exact Ret.mk [] [] (Fold.drop (by simp)) rfl (fun _ _ _ => rfl) trivial (fun g hg => by cases hg)
  · refine Tri.use ((tAwake21 fx hg).one) [] rfl (fun _ _ _ => rfl) trivial (fun f hf => by first | exact hf | cases hf) (fun u hu => ?_)
    conv => whnf
    repeat' ((first | refine And.intro (by repeat' first | exact trivial | refine And.intro rfl ?_) (And.intro (by first | exact fun _ h => h | exact fun _ => List.mem_cons_of_mem _ | exact fun _ => List.mem_append_right _) ?_) | (refine And.intro (fun h => ?_) (fun h => ?_) <;> (try simp only [n1, n2, n3, n4, n5, n6] at h) <;> first | (exfalso; omega) | (cases h; done) | skip) | refine And.intro (by omega) ?_ | refine Exists.intro _ (And.intro (by first | exact And.intro rfl rfl | exact Pl.den (by repeat constructor) | with_reducible rfl | exact cast_succ _ | assumption | exact (Int.toNat_of_nonneg (by omega)).symm | rfl) ?_) | refine hD _ _ ?_ | refine hL _ _ ?_ | (intro h; (try simp only [n1, n2, n3, n4, n5, n6] at h); first | (exfalso; omega) | (cases h; done) | skip)) <;> (conv => whnf))
    exact Ret.mk [] [] (Fold.drop (by simp)) rfl (fun _ _ _ => rfl) trivial (fun g hg => by cases hg)
  · refine Tri.use ((tAwake21 fx hg).one) [] rfl (fun _ _ _ => rfl) trivial (fun f hf => by first | exact hf | cases hf) (fun u hu => ?_)
    conv => whnf
    repeat' ((first | refine And.intro (by repeat' first | exact trivial | refine And.intro rfl ?_) (And.intro (by first | exact fun _ h => h | exact fun _ => List.mem_cons_of_mem _ | exact fun _ => List.mem_append_right _) ?_) | (refine And.intro (fun h => ?_) (fun h => ?_) <;> (try simp only [n1, n2, n3, n4, n5, n6] at h) <;> first | (exfalso; omega) | (cases h; done) | skip) | refine And.intro (by omega) ?_ | refine Exists.intro _ (And.intro (by first | exact And.intro rfl rfl | exact Pl.den (by repeat constructor) | with_reducible rfl | exact cast_succ _ | assumption | exact (Int.toNat_of_nonneg (by omega)).symm | rfl) ?_) | refine hD _ _ ?_ | refine hL _ _ ?_ | (intro h; (try simp only [n1, n2, n3, n4, n5, n6] at h); first | (exfalso; omega) | (cases h; done) | skip)) <;> (conv => whnf))
    exact Ret.mk [] [] (Fold.drop (by simp)) rfl (fun _ _ _ => rfl) trivial (fun g hg => by cases hg)
  rename_i hb1 _
  obtain ⟨h15, _⟩ := hb hb1
  refine draw_opaque fun KD hD => ?_
  refine draw_all tok (by kernel_rfl) [.any 1, .load 0, .one 2, .one 3, .any 4, .any 5, .any 6, .any 7, .any 8] [] (by kernel_rfl) rfl rfl (by repeat' (first | exact trivial | refine And.intro rfl ?_)) ?_
  conv => whnf
  repeat' ((first | (refine Exists.intro d.cells (And.intro (Hd.all hf) ?_)) | refine And.intro (by repeat' first | exact trivial | refine And.intro rfl ?_) (And.intro (by first | exact fun _ h => h | exact fun _ => List.mem_cons_of_mem _ | exact fun _ => List.mem_append_right _) ?_) | (refine And.intro (fun h => ?_) (fun h => ?_) <;> (try simp only [n1, n2, n3, n4, n5, n6] at h) <;> first | (exfalso; omega) | (cases h; done) | skip) | refine And.intro (by omega) ?_ | refine Exists.intro _ (And.intro (by first | exact And.intro rfl rfl | exact Pl.den (by repeat constructor) | with_reducible rfl | exact cast_succ _ | assumption | exact (Int.toNat_of_nonneg (by omega)).symm | rfl) ?_) | refine hD _ _ ?_ | refine hL _ _ ?_ | (intro h; (try simp only [n1, n2, n3, n4, n5, n6] at h); first | (exfalso; omega) | (cases h; done) | skip)) <;> (conv => whnf))
  refine Tri.use ((tSigs fx A l cap hS (by omega))) [] rfl (fun _ _ _ => rfl) trivial (fun f hf => by first | exact hf | cases hf) (fun x hx => ?_)
  conv => whnf
  refine appFK_in ?_
  conv => whnf
  repeat' ((first | refine And.intro (by repeat' first | exact trivial | refine And.intro rfl ?_) (And.intro (by first | exact fun _ h => h | exact fun _ => List.mem_cons_of_mem _ | exact fun _ => List.mem_append_right _) ?_) | (refine And.intro (fun h => ?_) (fun h => ?_) <;> (try simp only [n1, n2, n3, n4, n5, n6] at h) <;> first | (exfalso; omega) | (cases h; done) | skip) | refine And.intro (by omega) ?_ | refine Exists.intro _ (And.intro (by first | exact And.intro rfl rfl | exact Pl.den (by repeat constructor) | with_reducible rfl | exact cast_succ _ | assumption | exact (Int.toNat_of_nonneg (by omega)).symm | rfl) ?_) | refine hD _ _ ?_ | refine hL _ _ ?_ | (intro h; (try simp only [n1, n2, n3, n4, n5, n6] at h); first | (exfalso; omega) | (cases h; done) | skip)) <;> (conv => whnf))
  refine Tri.use ((tWrite21 (x.f ++ fx) (List.mem_append_right _ hg) d hf x.A l x.cap hx h15).one) [] rfl (fun _ _ _ => rfl) trivial (fun f hf => by first | exact hf | cases hf) (fun u hu => ?_)
  conv => whnf
  repeat' ((first | refine And.intro (by repeat' first | exact trivial | refine And.intro rfl ?_) (And.intro (by first | exact fun _ h => h | exact fun _ => List.mem_cons_of_mem _ | exact fun _ => List.mem_append_right _) ?_) | (refine And.intro (fun h => ?_) (fun h => ?_) <;> (try simp only [n1, n2, n3, n4, n5, n6] at h) <;> first | (exfalso; omega) | (cases h; done) | skip) | refine And.intro (by omega) ?_ | refine Exists.intro _ (And.intro (by first | exact And.intro rfl rfl | exact Pl.den (by repeat constructor) | with_reducible rfl | exact cast_succ _ | assumption | exact (Int.toNat_of_nonneg (by omega)).symm | rfl) ?_) | refine hD _ _ ?_ | refine hL _ _ ?_ | (intro h; (try simp only [n1, n2, n3, n4, n5, n6] at h); first | (exfalso; omega) | (cases h; done) | skip)) <;> (conv => whnf))
  · have k0 : wErr d l = 0 := by omega
    obtain ⟨q1, q2⟩ := written_note hf hS k0
    have q3 := q1.len
    have eo : wOut d l = noteL d l := by unfold wOut; rw [if_pos k0]
    rw [eo]
    refine Tri.use ((tRead21 (x.f ++ fx) (List.mem_append_right _ hg) (List.mem_append_right _ he) (List.mem_append_right _ hm) (noteL d l) (by omega))) [] rfl (fun _ _ _ => rfl) trivial (fun f hf => by first | exact hf | cases hf) (fun y hy => ?_)
    have hyi := hy.is
    have hyy := hy.yes
    have hyn := hy.no
    obtain ⟨d2, l2, A2, cap2, e2, f2⟩ := y
    simp only at hyy hyn
    have h0 : e2 = 0 := Decidable.byContradiction fun hne => (hyn hne).2.2.2.2 _ _ q1
    subst h0
    obtain ⟨⟨p, k1, k2⟩, k3⟩ := hyy rfl
    obtain ⟨e5, e6⟩ := k1.inj q1
    have e7 : d2 = d := by rw [k2, e5, q2]
    subst e7
    have hS2 : SgsAt (f2 ++ (x.f ++ fx)) A2 l2 := hyi.at_
    have hl2 := hyi.few
    simp only at hl2
    conv => whnf
    refine appFK_in ?_
    conv => whnf
    repeat' ((first | refine And.intro (by repeat' first | exact trivial | refine And.intro rfl ?_) (And.intro (by first | exact fun _ h => h | exact fun _ => List.mem_cons_of_mem _ | exact fun _ => List.mem_append_right _) ?_) | (refine And.intro (fun h => ?_) (fun h => ?_) <;> (try simp only [n1, n2, n3, n4, n5, n6] at h) <;> first | (exfalso; omega) | (cases h; done) | skip) | refine And.intro (by omega) ?_ | refine Exists.intro _ (And.intro (by first | exact And.intro rfl rfl | exact Pl.den (by repeat constructor) | with_reducible rfl | exact cast_succ _ | assumption | exact (Int.toNat_of_nonneg (by omega)).symm | rfl) ?_) | refine hD _ _ ?_ | refine hL _ _ ?_ | (intro h; (try simp only [n1, n2, n3, n4, n5, n6] at h); first | (exfalso; omega) | (cases h; done) | skip)) <;> (conv => whnf))
    refine And.intro ⟨Hd.len hf, Hd.one⟩ (And.intro ⟨rfl, rfl⟩ ?_)
    conv => whnf
    repeat' ((first | (refine Exists.intro d2.cells (And.intro (Hd.all hf) ?_)) | (refine Exists.intro true (And.intro (same_rhd d2 hf ho) ?_)) | refine And.intro (by repeat' first | exact trivial | refine And.intro rfl ?_) (And.intro (by first | exact fun _ h => h | exact fun _ => List.mem_cons_of_mem _ | exact fun _ => List.mem_append_right _) ?_) | (refine And.intro (fun h => ?_) (fun h => ?_) <;> (try simp only [n1, n2, n3, n4, n5, n6] at h) <;> first | (exfalso; omega) | (cases h; done) | skip) | refine And.intro (by omega) ?_ | refine Exists.intro _ (And.intro (by first | exact And.intro rfl rfl | exact Pl.den (by repeat constructor) | with_reducible rfl | exact cast_succ _ | assumption | exact (Int.toNat_of_nonneg (by omega)).symm | rfl) ?_) | refine hD _ _ ?_ | refine hL _ _ ?_ | (intro h; (try simp only [n1, n2, n3, n4, n5, n6] at h); first | (exfalso; omega) | (cases h; done) | skip)) <;> (conv => whnf))
    refine Tri.use ((tBack (f2 ++ (x.f ++ fx)) A2 l2 cap2 hS2 (by omega))) [] rfl (fun _ _ _ => rfl) trivial (fun f hf => by first | exact hf | cases hf) (fun z0 hz0 => ?_)
    conv => whnf
    refine appFK_in ?_
    conv => whnf
    repeat' ((first | refine And.intro (by repeat' first | exact trivial | refine And.intro rfl ?_) (And.intro (by first | exact fun _ h => h | exact fun _ => List.mem_cons_of_mem _ | exact fun _ => List.mem_append_right _) ?_) | (refine And.intro (fun h => ?_) (fun h => ?_) <;> (try simp only [n1, n2, n3, n4, n5, n6] at h) <;> first | (exfalso; omega) | (cases h; done) | skip) | refine And.intro (by omega) ?_ | refine Exists.intro _ (And.intro (by first | exact And.intro rfl rfl | exact Pl.den (by repeat constructor) | with_reducible rfl | exact cast_succ _ | assumption | exact (Int.toNat_of_nonneg (by omega)).symm | rfl) ?_) | refine hD _ _ ?_ | refine hL _ _ ?_ | (intro h; (try simp only [n1, n2, n3, n4, n5, n6] at h); first | (exfalso; omega) | (cases h; done) | skip)) <;> (conv => whnf))
    refine Tri.use (((tSame21 (z0.f ++ (f2 ++ (x.f ++ fx))) z0.A A l2 l z0.cap cap hz0 (hS.more fun g hg => List.mem_append_right _ (List.mem_append_right _ (List.mem_append_right _ hg))) e6 (by omega)).one)) [] rfl (fun _ _ _ => rfl) trivial (fun f hf => by first | exact hf | cases hf) (fun u hu => ?_)
    conv => whnf
    repeat' ((first | refine And.intro (by repeat' first | exact trivial | refine And.intro rfl ?_) (And.intro (by first | exact fun _ h => h | exact fun _ => List.mem_cons_of_mem _ | exact fun _ => List.mem_append_right _) ?_) | (refine And.intro (fun h => ?_) (fun h => ?_) <;> (try simp only [n1, n2, n3, n4, n5, n6] at h) <;> first | (exfalso; omega) | (cases h; done) | skip) | refine And.intro (by omega) ?_ | refine Exists.intro _ (And.intro (by first | exact And.intro rfl rfl | exact Pl.den (by repeat constructor) | with_reducible rfl | exact cast_succ _ | assumption | exact (Int.toNat_of_nonneg (by omega)).symm | rfl) ?_) | refine hD _ _ ?_ | refine hL _ _ ?_ | (intro h; (try simp only [n1, n2, n3, n4, n5, n6] at h); first | (exfalso; omega) | (cases h; done) | skip)) <;> (conv => whnf))
    refine Tri.use ((tRead21 (z0.f ++ (f2 ++ (x.f ++ fx))) ((fun {g} hg => List.mem_append_right _ (List.mem_append_right _ (List.mem_append_right _ hg)) : ∀ {g}, g ∈ fx → g ∈ _) hg) ((fun {g} hg => List.mem_append_right _ (List.mem_append_right _ (List.mem_append_right _ hg)) : ∀ {g}, g ∈ fx → g ∈ _) he) ((fun {g} hg => List.mem_append_right _ (List.mem_append_right _ (List.mem_append_right _ hg)) : ∀ {g}, g ∈ fx → g ∈ _) hm) S hlS)) [] rfl (fun _ _ _ => rfl) trivial (fun f hf => by first | exact hf | cases hf) (fun z hz => ?_)
    have hzi := hz.is
    have hzy := hz.yes
    have hzn := hz.no
    obtain ⟨d3, l3, A3, cap3, e3, f3⟩ := z
    simp only at hzy hzn
    have hS3 : SgsAt (f3 ++ (z0.f ++ (f2 ++ (x.f ++ fx)))) A3 l3 := hzi.at_
    have hl3 := hzi.few
    simp only at hl3
    have hfit3 := hzi.fit
    simp only at hfit3
    conv => whnf
    refine appFK_in ?_
    conv => whnf
    repeat' ((first | refine And.intro (by repeat' first | exact trivial | refine And.intro rfl ?_) (And.intro (by first | exact fun _ h => h | exact fun _ => List.mem_cons_of_mem _ | exact fun _ => List.mem_append_right _) ?_) | (refine And.intro (fun h => ?_) (fun h => ?_) <;> (try simp only [n1, n2, n3, n4, n5, n6] at h) <;> first | (exfalso; omega) | (cases h; done) | skip) | refine And.intro (by omega) ?_ | refine Exists.intro _ (And.intro (by first | exact And.intro rfl rfl | exact Pl.den (by repeat constructor) | with_reducible rfl | exact cast_succ _ | assumption | exact (Int.toNat_of_nonneg (by omega)).symm | rfl) ?_) | refine hD _ _ ?_ | refine hL _ _ ?_ | (intro h; (try simp only [n1, n2, n3, n4, n5, n6] at h); first | (exfalso; omega) | (cases h; done) | skip)) <;> (conv => whnf))
    refine And.intro ⟨Hd.len hfit3.1, Hd.one⟩ (And.intro ⟨rfl, rfl⟩ ?_)
    conv => whnf
    repeat' ((first | refine And.intro (by repeat' first | exact trivial | refine And.intro rfl ?_) (And.intro (by first | exact fun _ h => h | exact fun _ => List.mem_cons_of_mem _ | exact fun _ => List.mem_append_right _) ?_) | (refine And.intro (fun h => ?_) (fun h => ?_) <;> (try simp only [n1, n2, n3, n4, n5, n6] at h) <;> first | (exfalso; omega) | (cases h; done) | skip) | refine And.intro (by omega) ?_ | refine Exists.intro _ (And.intro (by first | exact And.intro rfl rfl | exact Pl.den (by repeat constructor) | with_reducible rfl | exact cast_succ _ | assumption | exact (Int.toNat_of_nonneg (by omega)).symm | rfl) ?_) | refine hD _ _ ?_ | refine hL _ _ ?_ | (intro h; (try simp only [n1, n2, n3, n4, n5, n6] at h); first | (exfalso; omega) | (cases h; done) | skip)) <;> (conv => whnf))
    · rename_i hne
      obtain ⟨k1, k2, k3, k4, k5⟩ := hzn (by omega)
      subst k1 k2 k3
      conv => whnf
      repeat' ((first | (refine Exists.intro hd0.cells (And.intro (Hd.all hd0_fit) ?_)) | (refine Exists.intro true (And.intro (same_nhd hd0 hd0_fit hd0_org) ?_)) | refine And.intro (by repeat' first | exact trivial | refine And.intro rfl ?_) (And.intro (by first | exact fun _ h => h | exact fun _ => List.mem_cons_of_mem _ | exact fun _ => List.mem_append_right _) ?_) | (refine And.intro (fun h => ?_) (fun h => ?_) <;> (try simp only [n1, n2, n3, n4, n5, n6] at h) <;> first | (exfalso; omega) | (cases h; done) | skip) | refine And.intro (by omega) ?_ | refine Exists.intro _ (And.intro (by first | exact And.intro rfl rfl | exact Pl.den (by repeat constructor) | with_reducible rfl | exact cast_succ _ | assumption | exact (Int.toNat_of_nonneg (by omega)).symm | rfl) ?_) | refine hD _ _ ?_ | refine hL _ _ ?_ | (intro h; (try simp only [n1, n2, n3, n4, n5, n6] at h); first | (exfalso; omega) | (cases h; done) | skip)) <;> (conv => whnf))
      exact Ret.mk [] [] (Fold.drop (by simp)) rfl (fun _ _ _ => rfl) trivial (fun g hg => by cases hg)
    · rename_i hne _
      exact absurd (by have := (hzn (by omega)).2.1; rw [this]; rfl) (by assumption : ¬ ((l3.length : Nat) : Int) = 0)
    · rename_i heq
      obtain ⟨⟨p, k1, k2⟩, k3⟩ := hzy (by omega)
      obtain ⟨k4, k5⟩ := note_written k1
      subst k2
      conv => whnf
      repeat' ((first | (refine Exists.intro p.hd.cells (And.intro (Hd.all hfit3.1) ?_)) | refine And.intro (by repeat' first | exact trivial | refine And.intro rfl ?_) (And.intro (by first | exact fun _ h => h | exact fun _ => List.mem_cons_of_mem _ | exact fun _ => List.mem_append_right _) ?_) | (refine And.intro (fun h => ?_) (fun h => ?_) <;> (try simp only [n1, n2, n3, n4, n5, n6] at h) <;> first | (exfalso; omega) | (cases h; done) | skip) | refine And.intro (by omega) ?_ | refine Exists.intro _ (And.intro (by first | exact And.intro rfl rfl | exact Pl.den (by repeat constructor) | with_reducible rfl | exact cast_succ _ | assumption | exact (Int.toNat_of_nonneg (by omega)).symm | rfl) ?_) | refine hD _ _ ?_ | refine hL _ _ ?_ | (intro h; (try simp only [n1, n2, n3, n4, n5, n6] at h); first | (exfalso; omega) | (cases h; done) | skip)) <;> (conv => whnf))
      have TW := tWrite21 (f3 ++ (z0.f ++ (f2 ++ (x.f ++ fx)))) (List.mem_append_right _ ((fun {g} hg => List.mem_append_right _ (List.mem_append_right _ (List.mem_append_right _ hg)) : ∀ {g}, g ∈ fx → g ∈ _) hg)) p.hd hfit3.1 A3 l3 cap3 hS3 (by omega)
      have ew : wRes p.hd l3 = .tup [.v (strS S), .v (.int .i64 (0 : Nat))] := by
        unfold wRes wOut
        rw [k4, if_pos rfl, k5]
      rw [ew] at TW
      refine Tri.use (TW.one) [] rfl (fun _ _ _ => rfl) trivial (fun f hf => by first | exact hf | cases hf) (fun u hu => ?_)
      conv => whnf
      repeat' ((first | refine And.intro (by repeat' first | exact trivial | refine And.intro rfl ?_) (And.intro (by first | exact fun _ h => h | exact fun _ => List.mem_cons_of_mem _ | exact fun _ => List.mem_append_right _) ?_) | (refine And.intro (fun h => ?_) (fun h => ?_) <;> (try simp only [n1, n2, n3, n4, n5, n6] at h) <;> first | (exfalso; omega) | (cases h; done) | skip) | refine And.intro (by omega) ?_ | refine Exists.intro _ (And.intro (by first | exact And.intro rfl rfl | exact Pl.den (by repeat constructor) | with_reducible rfl | exact cast_succ _ | assumption | exact (Int.toNat_of_nonneg (by omega)).symm | rfl) ?_) | refine hD _ _ ?_ | refine hL _ _ ?_ | (intro h; (try simp only [n1, n2, n3, n4, n5, n6] at h); first | (exfalso; omega) | (cases h; done) | skip)) <;> (conv => whnf))
      exact Ret.mk [] [] (Fold.drop (by simp)) rfl (fun _ _ _ => by simp [den]) trivial (fun g hg => by cases hg)

  · refine Tri.use ((tRead21 (x.f ++ fx) (List.mem_append_right _ hg) (List.mem_append_right _ he) (List.mem_append_right _ hm) S hlS)) [] rfl (fun _ _ _ => rfl) trivial (fun f hf => by first | exact hf | cases hf) (fun z hz => ?_)
    have hzi := hz.is
    have hzy := hz.yes
    have hzn := hz.no
    obtain ⟨d3, l3, A3, cap3, e3, f3⟩ := z
    simp only at hzy hzn
    have hS3 : SgsAt (f3 ++ (x.f ++ fx)) A3 l3 := hzi.at_
    have hl3 := hzi.few
    simp only at hl3
    have hfit3 := hzi.fit
    simp only at hfit3
    conv => whnf
    refine appFK_in ?_
    conv => whnf
    repeat' ((first | refine And.intro (by repeat' first | exact trivial | refine And.intro rfl ?_) (And.intro (by first | exact fun _ h => h | exact fun _ => List.mem_cons_of_mem _ | exact fun _ => List.mem_append_right _) ?_) | (refine And.intro (fun h => ?_) (fun h => ?_) <;> (try simp only [n1, n2, n3, n4, n5, n6] at h) <;> first | (exfalso; omega) | (cases h; done) | skip) | refine And.intro (by omega) ?_ | refine Exists.intro _ (And.intro (by first | exact And.intro rfl rfl | exact Pl.den (by repeat constructor) | with_reducible rfl | exact cast_succ _ | assumption | exact (Int.toNat_of_nonneg (by omega)).symm | rfl) ?_) | refine hD _ _ ?_ | refine hL _ _ ?_ | (intro h; (try simp only [n1, n2, n3, n4, n5, n6] at h); first | (exfalso; omega) | (cases h; done) | skip)) <;> (conv => whnf))
    refine And.intro ⟨Hd.len hfit3.1, Hd.one⟩ (And.intro ⟨rfl, rfl⟩ ?_)
    conv => whnf
    repeat' ((first | refine And.intro (by repeat' first | exact trivial | refine And.intro rfl ?_) (And.intro (by first | exact fun _ h => h | exact fun _ => List.mem_cons_of_mem _ | exact fun _ => List.mem_append_right _) ?_) | (refine And.intro (fun h => ?_) (fun h => ?_) <;> (try simp only [n1, n2, n3, n4, n5, n6] at h) <;> first | (exfalso; omega) | (cases h; done) | skip) | refine And.intro (by omega) ?_ | refine Exists.intro _ (And.intro (by first | exact And.intro rfl rfl | exact Pl.den (by repeat constructor) | with_reducible rfl | exact cast_succ _ | assumption | exact (Int.toNat_of_nonneg (by omega)).symm | rfl) ?_) | refine hD _ _ ?_ | refine hL _ _ ?_ | (intro h; (try simp only [n1, n2, n3, n4, n5, n6] at h); first | (exfalso; omega) | (cases h; done) | skip)) <;> (conv => whnf))
    · rename_i hne
      obtain ⟨k1, k2, k3, k4, k5⟩ := hzn (by omega)
      subst k1 k2 k3
      conv => whnf
      repeat' ((first | (refine Exists.intro hd0.cells (And.intro (Hd.all hd0_fit) ?_)) | (refine Exists.intro true (And.intro (same_nhd hd0 hd0_fit hd0_org) ?_)) | refine And.intro (by repeat' first | exact trivial | refine And.intro rfl ?_) (And.intro (by first | exact fun _ h => h | exact fun _ => List.mem_cons_of_mem _ | exact fun _ => List.mem_append_right _) ?_) | (refine And.intro (fun h => ?_) (fun h => ?_) <;> (try simp only [n1, n2, n3, n4, n5, n6] at h) <;> first | (exfalso; omega) | (cases h; done) | skip) | refine And.intro (by omega) ?_ | refine Exists.intro _ (And.intro (by first | exact And.intro rfl rfl | exact Pl.den (by repeat constructor) | with_reducible rfl | exact cast_succ _ | assumption | exact (Int.toNat_of_nonneg (by omega)).symm | rfl) ?_) | refine hD _ _ ?_ | refine hL _ _ ?_ | (intro h; (try simp only [n1, n2, n3, n4, n5, n6] at h); first | (exfalso; omega) | (cases h; done) | skip)) <;> (conv => whnf))
      exact Ret.mk [] [] (Fold.drop (by simp)) rfl (fun _ _ _ => rfl) trivial (fun g hg => by cases hg)
    · rename_i hne _
      exact absurd (by have := (hzn (by omega)).2.1; rw [this]; rfl) (by assumption : ¬ ((l3.length : Nat) : Int) = 0)
    · rename_i heq
      obtain ⟨⟨p, k1, k2⟩, k3⟩ := hzy (by omega)
      obtain ⟨k4, k5⟩ := note_written k1
      subst k2
      conv => whnf
      repeat' ((first | (refine Exists.intro p.hd.cells (And.intro (Hd.all hfit3.1) ?_)) | refine And.intro (by repeat' first | exact trivial | refine And.intro rfl ?_) (And.intro (by first | exact fun _ h => h | exact fun _ => List.mem_cons_of_mem _ | exact fun _ => List.mem_append_right _) ?_) | (refine And.intro (fun h => ?_) (fun h => ?_) <;> (try simp only [n1, n2, n3, n4, n5, n6] at h) <;> first | (exfalso; omega) | (cases h; done) | skip) | refine And.intro (by omega) ?_ | refine Exists.intro _ (And.intro (by first | exact And.intro rfl rfl | exact Pl.den (by repeat constructor) | with_reducible rfl | exact cast_succ _ | assumption | exact (Int.toNat_of_nonneg (by omega)).symm | rfl) ?_) | refine hD _ _ ?_ | refine hL _ _ ?_ | (intro h; (try simp only [n1, n2, n3, n4, n5, n6] at h); first | (exfalso; omega) | (cases h; done) | skip)) <;> (conv => whnf))
      have TW := tWrite21 (f3 ++ (x.f ++ fx)) (List.mem_append_right _ (List.mem_append_right _ hg)) p.hd hfit3.1 A3 l3 cap3 hS3 (by omega)
      have ew : wRes p.hd l3 = .tup [.v (strS S), .v (.int .i64 (0 : Nat))] := by
        unfold wRes wOut
        rw [k4, if_pos rfl, k5]
      rw [ew] at TW
      refine Tri.use (TW.one) [] rfl (fun _ _ _ => rfl) trivial (fun f hf => by first | exact hf | cases hf) (fun u hu => ?_)
      conv => whnf
      repeat' ((first | refine And.intro (by repeat' first | exact trivial | refine And.intro rfl ?_) (And.intro (by first | exact fun _ h => h | exact fun _ => List.mem_cons_of_mem _ | exact fun _ => List.mem_append_right _) ?_) | (refine And.intro (fun h => ?_) (fun h => ?_) <;> (try simp only [n1, n2, n3, n4, n5, n6] at h) <;> first | (exfalso; omega) | (cases h; done) | skip) | refine And.intro (by omega) ?_ | refine Exists.intro _ (And.intro (by first | exact And.intro rfl rfl | exact Pl.den (by repeat constructor) | with_reducible rfl | exact cast_succ _ | assumption | exact (Int.toNat_of_nonneg (by omega)).symm | rfl) ?_) | refine hD _ _ ?_ | refine hL _ _ ?_ | (intro h; (try simp only [n1, n2, n3, n4, n5, n6] at h); first | (exfalso; omega) | (cases h; done) | skip)) <;> (conv => whnf))
      exact Ret.mk [] [] (Fold.drop (by simp)) rfl (fun _ _ _ => by simp [den]) trivial (fun g hg => by cases hg)
end Go.Proofs.YtekgjjanikicnaaDoor.Sx

namespace Go.Proofs.YtekgjjanikicnaaDoor.Sx
open Go Go.Proofs.YtekgjjanikicnaaDoor Go.RowKit
set_option linter.unusedVariables false
theorem pMayEnter : Tryd.prog.mayEnter = true := by kernel_rfl
theorem pLifts : Tryd.prog.liftsFinal = Rows.p256AddsRow.lifted := by kernel_rfl
theorem pLaidOut : laidOutB Tryd.prog = true := by kernel_rfl
theorem pMapsRowed : mapsRowed Tryd.prog = true := by kernel_rfl
theorem pPlainKeys : Tryd.prog.plainKeys = true := by kernel_rfl
theorem pStopsHeard : Tryd.prog.stopsHeard = true := by kernel_rfl
theorem pSlices : ((List.range Tryd.prog.types.size).all fun t => match Tryd.prog.underlying t with | some (.slice e) => decide (0 < Tryd.prog.cellsOf e) | _ => true) = true := by kernel_rfl
theorem pOwn : ownKnob Tryd.prog.godebug = none := by kernel_rfl
/-- What a row asks of its own function. -/
def joinedRest (P : Program) (f : FuncId) (fn : Func) (s : ChangeSpec) (c : OpenClaim) : Bool :=
  c.wf (OpenSpec.ofChange s) &&
  fn.params.all (P.readableRec ·) && namedTie P c.named s.vars &&
  (c.stops == []) && (P.stops == []) && (c.knobs == []) && (P.stopKnobs == []) &&
  (c.inPlace == P.inPlace f) && (c.unfollowed == P.unfollowed f) && (c.recurses == P.recurses f) && (c.named == P.varsNamed f) &&
  (c.maps == (fn.params.toList ++ s.plain.varTypes P).any (P.mapsRec ·)) && (c.ifaces == (fn.params.toList ++ s.plain.varTypes P).any (P.ifacesRec ·)) && (c.mapsOut == P.mapsAmong fn.resultTypes.toList) &&
  (c.loops == (fn.params.toList ++ s.plain.varTypes P).any (P.loopsFrom ·)) && (c.wideKeys == (fn.params.toList ++ s.plain.varTypes P ++ fn.resultTypes.toList).any (P.wideKeysFrom ·)) &&
  s.vars.all (P.varReadable ·) && fn.resultTypes.all (fun t => P.readableRec t && decide (t < P.types.size)) && (c.ifacesOut == fn.resultTypes.toList.any (P.ifacesRec ·)) && (c.loopsOut == fn.resultTypes.toList.any (P.loopsFrom ·)) && c.plainKeys && c.shortTexts.isNone && (P.make == some c.make) && (c.kinds == (if c.domain.isEmpty then [] else fn.params.toList.map fun t => match P.underlying t with | some (.int k) => some k | _ => none)) && (c.pinned == c.pinnedBy) &&
  (c.veiled == (fn.params.toList ++ s.plain.varTypes P ++ fn.resultTypes.toList).any (P.veiledRec ·)) && c.veiledFits P fn.params.toList (fn.params.toList ++ s.plain.varTypes P ++ fn.resultTypes.toList)
theorem joined_of {f : FuncId} {fn : Func} {s : ChangeSpec} {c : OpenClaim} (hl : c.lifted = Rows.p256AddsRow.lifted) (h : joinedRest Tryd.prog f fn s c = true) : joinedFacts Tryd.prog f fn s c = true := by
  have h1 := pMayEnter
  have h2 := pLifts
  have h3 := pLaidOut
  have h4 := pMapsRowed
  have h5 := pPlainKeys
  have h6 := pStopsHeard
  generalize Tryd.prog = P at *
  unfold joinedRest at h
  unfold joinedFacts
  simp only [Bool.and_eq_true] at h ⊢
  obtain ⟨⟨⟨⟨⟨⟨⟨⟨⟨⟨⟨⟨⟨⟨⟨⟨⟨⟨⟨⟨⟨⟨⟨⟨⟨⟨k1, k2⟩, k3⟩, k4⟩, k5⟩, k6⟩, k7⟩, k8⟩, k9⟩, k10⟩, k11⟩, k12⟩, k13⟩, k14⟩, k15⟩, k16⟩, k17⟩, k18⟩, k19⟩, k20⟩, k21⟩, k22⟩, k23⟩, k24⟩, k25⟩, k26⟩, k27⟩ := h
  exact ⟨⟨⟨⟨⟨⟨⟨⟨⟨⟨⟨⟨⟨⟨⟨⟨⟨⟨⟨⟨⟨⟨⟨⟨⟨⟨⟨⟨⟨⟨⟨k1, h3⟩, h4⟩, k2⟩, k3⟩, k4⟩, k5⟩, k6⟩, k7⟩, k8⟩, k9⟩, k10⟩, k11⟩, k12⟩, k13⟩, k14⟩, k15⟩, k16⟩, k17⟩, k18⟩, k19⟩, k20⟩, by rw [h5]; exact beq_iff_eq.2 k21⟩, k22⟩, h6⟩, h1⟩, by rw [h2, hl]; exact beq_self_eq_true _⟩, k23⟩, k24⟩, k25⟩, k26⟩, k27⟩
theorem var_cells {W : World} {name : String} {g : Nat} {cs : Array Value} {vs : List Value} (hg : Tryd.prog.globalNamed name = some g) (hv : W.var? Tryd.prog name = some cs) (he : ∀ (j : Nat) (y : Value), vs[j]? = some y → cs.toList[j]? = some y) : ∀ (j : Nat) (y : Value), vs[j]? = some y → W.cell? ⟨g, j, none⟩ = some y := fun j y hj => by
  have h1 := World.var?_cell hg hv j
  rw [h1]
  have := he j y hj
  rwa [Array.getElem?_toList] at this
theorem read_at {W : World} {l : List (String × DataW Unit)} (h : laidMet Tryd.prog l W) {n : String} {d : DataW Unit} (hm : (n, d) ∈ l) {g t : Nat} (hg : Tryd.prog.globalNamed n = some g) (ht : (Tryd.prog.globals[g]?).map (·.type) = some t) :
    ∃ cs fuel p, W.var? Tryd.prog n = some cs ∧ DataW.trod (fun _ => ()) Tryd.prog W 0 (fun _ => true) false fuel t cs.toList = some (d, p) := by
  obtain ⟨g', t', cs, fuel, p, hg', ht', hv, hd⟩ := Lib.laidMet.reads h hm
  obtain rfl := Option.some.inj (hg.symm.trans hg')
  obtain rfl := Option.some.inj (ht.symm.trans ht')
  exact ⟨cs, fuel, p, hv, hd⟩
end Go.Proofs.YtekgjjanikicnaaDoor.Sx
namespace Go.Proofs.YtekgjjanikicnaaDoor.Sx
open Go Go.ChangeShapes Go.WideShapes Go.ChangeAt Go.RowKit
set_option maxRecDepth 100000
set_option linter.unusedVariables false
theorem Tri.callsF {P : Program} {n : Nat} {args : List SV} {W : World} {fx : List Fact} {post : SV → List (Nat × SObj) → Nat → List Fact → Prop} (hen : ∀ xs w, (callFunc n xs).run P w = .ok (.enter n xs) w) (T : Tri P n args [] 0 fx post) (hfx : ∀ f, f ∈ fx → f.φ W ∧ ∀ k, f.G k → k < W.heap.size) {vs : List Value} (hvs : ∀ ρ, denL ρ args = vs)
    {v : Value} (hv : ∀ y h m f, post y h m f → ∀ ρ, den ρ y = v) : Calls P n vs.toArray W fun e W' => e = .returned v ∧ Keeps (fun _ => False) W W' := by
  have h0 : HpOk id (fun _ _ => False) [] 0 fx W := by
    refine ⟨fun _ _ r o hm => (by cases hm), fun r o hm => (by cases hm), fun r o r' o' hm => (by cases hm), fun r o hm => (by cases hm), fun f hf => ?_⟩
    exact ⟨(hfx f hf).1, fun k hk => ⟨fun ⟨r, o, hm, _⟩ => (by cases hm), (hfx f hf).2 k hk⟩⟩
  have h1 := (T.run id (fun _ _ => False) W h0 (fun ρ' _ => by rw [hvs, hvs])).enters (hen _ _)
  rw [hvs] at h1
  refine h1.mono fun e w' ⟨y, h', m', fx', ρ', F', hp, he, hy, hh1, hag, hm, hk, ho, hf⟩ => ⟨?_, hk.mono fun k ⟨r, o, hm, _⟩ => by cases hm⟩
  rw [he, hv _ _ _ _ hp]
end Go.Proofs.YtekgjjanikicnaaDoor.Sx

namespace Go.Proofs.YtekgjjanikicnaaDoor.Sx
open Go Go.Proofs.YtekgjjanikicnaaDoor Go.RowKit
set_option linter.unusedVariables false
def laid5 : List (String × DataW Unit) := [("math/bits.deBruijn32tab", Rows.laid_math_bits_deBruijn32tab), ("math/bits.deBruijn64tab", Rows.laid_math_bits_deBruijn64tab), ("internal/strconv.uint64pow10", Rows.laid_internal_strconv_uint64pow10), ("strconv.ErrRange", Rows.laid_strconv_ErrRange), ("strconv.ErrSyntax", Rows.laid_strconv_ErrSyntax)]
theorem door_met5 (os : Os) (args : Array Value) : laidMetH Tryd.prog laid5 ((World.doorLaid Tryd.prog 400 os).forCall (fun _ _ => 0) ⟨#[], args, []⟩).memory :=
  laidMetH_of_parts3 (fuel := 8) (laidMet_of_run' 8 (by kernel_rfl) (by kernel_rfl)) (by kernel_rfl) (by kernel_rfl)
theorem gnTab : Tryd.prog.globalNamed "internal/strconv.uint64pow10" = some 5 := by kernel_rfl
theorem gtTab : (Tryd.prog.globals[5]?).map (·.type) = some 195 := by kernel_rfl
theorem gnErS : Tryd.prog.globalNamed "strconv.ErrSyntax" = some 6 := by kernel_rfl
theorem gtErS : (Tryd.prog.globals[6]?).map (·.type) = some 120 := by kernel_rfl
theorem gnErR : Tryd.prog.globalNamed "strconv.ErrRange" = some 7 := by kernel_rfl
theorem gtErR : (Tryd.prog.globals[7]?).map (·.type) = some 120 := by kernel_rfl
theorem iface_cell {H : Type} {enc : TypeId × Value → H} {P : Program} {W : World} {t : TypeId} {ms : Array (String × TypeId)} {fuel : Nat} {sp : Nat → Bool} {held : Bool} {base : Nat} {cs : List Value} {x : DataW H × List MemPlace} (ht : P.underlying t = some (.interface ms))
    (h : DataW.trod enc P W base sp held fuel t cs = some x) : ∃ v, cs = [v] ∧ (v = .nilIface ∨ ∃ a b, v = .iface a b) := by
  cases fuel with
  | zero => simp [DataW.trod] at h
  | succ fuel =>
    unfold DataW.trod at h
    rw [ht] at h
    split at h
    all_goals first
      | exact ⟨_, rfl, .inl rfl⟩
      | exact ⟨_, rfl, .inr ⟨_, _, rfl⟩⟩
      | (rename_i e; cases e; done)
      | (rename_i e _; cases e; done)
      | (rename_i e _ _; cases e; done)
      | cases h
theorem glob5 {W : World} (h : laidMetH Tryd.prog laid5 W) : gTab.φ W ∧ gErr.φ W := by
  rw [MakeChecks.laidMetH_plain _ _ _ (by kernel_rfl)] at h
  obtain ⟨c0, f0, p0, v0, d0⟩ := read_at h (n := "internal/strconv.uint64pow10") (d := Rows.laid_internal_strconv_uint64pow10) (by simp [laid5]) gnTab gtTab
  obtain ⟨c1, f1, p1, v1, d1⟩ := read_at h (n := "strconv.ErrSyntax") (d := Rows.laid_strconv_ErrSyntax) (by simp [laid5]) gnErS gtErS
  obtain ⟨c2, f2, p2, v2, d2⟩ := read_at h (n := "strconv.ErrRange") (d := Rows.laid_strconv_ErrRange) (by simp [laid5]) gnErR gtErR
  have e0 := Lib.cells_of_tab (zs := Lib.pow10Tab) Tryd.underlying195 Tryd.underlying22 (by kernel_rfl) (by kernel_rfl) d0
  refine ⟨?_, ?_⟩
  · show W.var? _ _ = _
    rw [v0]
    congr 1
    rw [← e0]
  · have cell : ∀ {name : String} {g : Nat} {c : Array Value} {x : DataW Unit × List MemPlace} {f : Nat}, Tryd.prog.globalNamed name = some g → W.var? Tryd.prog name = some c → DataW.trod (fun _ => ()) Tryd.prog W 0 (fun _ => true) false f 120 c.toList = some x →
        ∃ ev, W.cell? ⟨g, 0, none⟩ = some ev ∧ (ev = .nilIface ∨ ∃ te pe, ev = .iface te pe) := by
      intro name g c x f hg hv hd
      obtain ⟨v, e, hv2⟩ := iface_cell Tryd.underlying120 hd
      exact ⟨v, var_cells (vs := [v]) hg hv (fun j y hj => by rw [e]; exact hj) 0 _ rfl, hv2⟩
    rintro g (rfl | rfl)
    · exact cell gnErS v1 d1
    · exact cell gnErR v2 d2
theorem gTab_lt {W : World} (h : gTab.φ W) : ∀ k, gTab.G k → k < W.heap.size := by
  rintro k rfl
  have h1 : W.var? Tryd.prog "internal/strconv.uint64pow10" = some _ := h
  have := var_cells (vs := (Lib.pow10Tab.map fun z => Value.int .u64 z)) gnTab h1 (fun j y hj => by simpa using hj) 0 _ rfl
  exact World.block_lt_of_cell? W _ this
theorem gErr_lt {W : World} (h : gErr.φ W) : ∀ k, gErr.G k → k < W.heap.size := fun k hk => by
  obtain ⟨ev, h1, _⟩ := h k hk
  exact World.block_lt_of_cell? W _ h1
theorem glob_old5 {W : World} (h : gTab.φ W ∧ gErr.φ W) : ∀ f, f ∈ [gTab, gErr, oldFact W] → f.φ W ∧ ∀ k, f.G k → k < W.heap.size := by
  intro f hf
  rcases List.mem_cons.1 hf with rfl | hf
  · exact ⟨h.1, gTab_lt h.1⟩
  rcases List.mem_cons.1 hf with rfl | hf
  · exact ⟨h.2, gErr_lt h.2⟩
  · obtain rfl := List.mem_singleton.1 hf
    exact ⟨fun k _ => rfl, fun k hk => hk⟩
end Go.Proofs.YtekgjjanikicnaaDoor.Sx

namespace Go.Proofs.YtekgjjanikicnaaDoor.Sx
open Go Go.ChangeShapes Go.WideShapes Go.ChangeAt Go.RowKit
set_option maxRecDepth 100000
set_option linter.unusedVariables false
set_option linter.unusedSimpArgs false
theorem byte_of_wf {z : Int} (h : (Lit.int .u8 z).wf = true) : ∃ b : UInt8, Value.int .u8 z = bv b := by
  simp [Lit.wf, IntKind.min, IntKind.max, IntKind.signed, IntKind.bits] at h
  refine ⟨UInt8.ofNat z.toNat, ?_⟩
  simp only [bv]
  congr 1
  simp
  omega
section
variable {H : Type} {enc : TypeId × Value → H} {W : World}
/-- An array of bytes. -/
theorem trod_hash {P : Program} {t e : TypeId} {n base fuel : Nat} {sp : Nat → Bool} {held : Bool} {cs : List Value} {x : DataW H × List MemPlace} (ht : P.underlying t = some (.array n e)) (he : P.underlying e = some (.int .u8)) (hc : P.cellsOf e = 1) (hct : P.cellsOf t = n)
    (h : DataW.trod enc P W base sp held fuel t cs = some x) : ∃ bs : List UInt8, bs.length = n ∧ cs = bs.map bv := by
  obtain ⟨h1, h2⟩ := trod_part ht h
  rw [hct] at h1
  obtain ⟨bs, g1, g2⟩ := choose_list (p := fun i (b : UInt8) => cs[i]? = some (bv b)) n fun i hi => by
    obtain ⟨f, y, k⟩ := h2 i hi
    rw [hc, Nat.mul_one] at k
    obtain ⟨z, e1, _, e2⟩ := DataW.trod_int he k
    obtain ⟨b, hb⟩ := byte_of_wf e2
    refine ⟨b, ?_⟩
    have := congrArg (·[0]?) e1
    simp only [List.getElem?_take, List.getElem?_drop] at this
    simpa [hb] using this
  refine ⟨bs, g1, List.ext_getElem? fun i => ?_⟩
  by_cases hi : i < n
  · rw [List.getElem?_map, g2 i _ (List.getElem?_eq_getElem (by omega)), List.getElem?_eq_getElem (by omega)]; rfl
  · rw [List.getElem?_eq_none (by omega), List.getElem?_eq_none (by simp; omega)]
theorem open_head2 {r : Reach} {b0 : Nat} {v : Value} {d : DataW H} {ps : List MemPlace} {base : Nat} {sp : Nat → Bool} {held : Bool}
    (hval : Value.okWide Tryd.prog W r b0 47 v) (hd : DataW.Trod enc Tryd.prog W base sp held 47 v d ps) : ∃ x : Hd, v = x.v ∧ x.Fit ∧ x.org.size ≤ maxLen := by
  obtain ⟨fuel, cs, rfl, hf⟩ := open_agg (.inl ⟨_, Tryd.underlying47⟩) hval hd
  obtain ⟨h1, h2⟩ := trod_field Tryd.underlying47 hf
  have hc : Tryd.prog.cellsOf 47 = 34 := by kernel_rfl
  have c9 : Tryd.prog.cellsOf 9 = 1 := by kernel_rfl
  have c3 : Tryd.prog.cellsOf 3 = 1 := by kernel_rfl
  have c5 : Tryd.prog.cellsOf 5 = 1 := by kernel_rfl
  have ch : Tryd.prog.cellsOf 45 = 32 := by kernel_rfl
  rw [hc] at h1
  obtain ⟨f0, y0, k0⟩ : ∃ fu y, DataW.trod enc Tryd.prog W base sp held fu 9 (List.take (Tryd.prog.cellsOf 9) (List.drop 0 cs)) = some y := h2 0 _ rfl
  obtain ⟨f1, y1, k1⟩ : ∃ fu y, DataW.trod enc Tryd.prog W base sp held fu 3 (List.take (Tryd.prog.cellsOf 3) (List.drop 1 cs)) = some y := h2 1 _ rfl
  obtain ⟨f2, y2, k2⟩ : ∃ fu y, DataW.trod enc Tryd.prog W base sp held fu 45 (List.take (Tryd.prog.cellsOf 45) (List.drop 2 cs)) = some y := h2 2 _ rfl
  rw [c9] at k0
  rw [c3] at k1
  rw [ch] at k2
  obtain ⟨s, e0, _, m0⟩ := DataW.trod_string Tryd.underlying9 k0
  obtain ⟨n, e1, _, m1⟩ := DataW.trod_int Tryd.underlying3 k1
  obtain ⟨bs, m2, e2⟩ := trod_hash Tryd.underlying45 Tryd.underlying5 c5 ch k2
  refine ⟨⟨s, n, bs⟩, ?_, ⟨m2, ?_, by unfold maxLen at m0; simp only; omega⟩, m0⟩
  · match cs, h1, e0, e1, e2 with
    | a :: b :: r, h1, e0, e1, e2 =>
      simp only [List.length_cons] at h1
      simp only [List.drop_zero, List.take_succ_cons, List.take_zero, List.cons.injEq, and_true, List.drop_succ_cons] at e0 e1 e2
      rw [List.take_of_length_le (by omega)] at e2
      subst e0 e1 e2
      rfl
  · simp [Lit.wf, IntKind.min, IntKind.max, IntKind.signed, IntKind.bits] at m1
    simp only; omega
theorem open_head {r : Reach} {b0 : Nat} {v : Value} {d : DataW H} {ps : List MemPlace} {base : Nat} {sp : Nat → Bool} {held : Bool}
    (hval : Value.okWide Tryd.prog W r b0 47 v) (hd : DataW.Trod enc Tryd.prog W base sp held 47 v d ps) : ∃ x : Hd, v = x.v ∧ x.Fit :=
  let ⟨x, h1, h2, _⟩ := open_head2 hval hd
  ⟨x, h1, h2⟩
theorem trod_sg {base fuel : Nat} {sp : Nat → Bool} {held : Bool} {cs : List Value} {y : DataW H × List MemPlace} (h : DataW.trod enc Tryd.prog W base sp held fuel 106 cs = some y) : ∃ s : Sg, cs = s.cells ∧ s.Fit [oldFact W] := by
  obtain ⟨h1, h2⟩ := trod_field Tryd.underlying106 h
  have hc : Tryd.prog.cellsOf 106 = 4 := by kernel_rfl
  have c9 : Tryd.prog.cellsOf 9 = 1 := by kernel_rfl
  have c5 : Tryd.prog.cellsOf 5 = 1 := by kernel_rfl
  have c7 : Tryd.prog.cellsOf 70 = 1 := by kernel_rfl
  have c6 : Tryd.prog.cellsOf 61 = 1 := by kernel_rfl
  rw [hc] at h1
  obtain ⟨f0, y0, k0⟩ : ∃ fu y, DataW.trod enc Tryd.prog W base sp held fu 9 (List.take (Tryd.prog.cellsOf 9) (List.drop 0 cs)) = some y := h2 0 _ rfl
  obtain ⟨f1, y1, k1⟩ : ∃ fu y, DataW.trod enc Tryd.prog W base sp held fu 5 (List.take (Tryd.prog.cellsOf 5) (List.drop 1 cs)) = some y := h2 1 _ rfl
  obtain ⟨f2, y2, k2⟩ : ∃ fu y, DataW.trod enc Tryd.prog W base sp held fu 70 (List.take (Tryd.prog.cellsOf 70) (List.drop 2 cs)) = some y := h2 2 _ rfl
  obtain ⟨f3, y3, k3⟩ : ∃ fu y, DataW.trod enc Tryd.prog W base sp held fu 61 (List.take (Tryd.prog.cellsOf 61) (List.drop 3 cs)) = some y := h2 3 _ rfl
  rw [c9] at k0
  rw [c5] at k1
  rw [c7] at k2
  rw [c6] at k3
  obtain ⟨s, e0, _, m0⟩ := DataW.trod_string Tryd.underlying9 k0
  obtain ⟨z, e1, _, m1⟩ := DataW.trod_int Tryd.underlying5 k1
  obtain ⟨n, e2, _, m2⟩ := DataW.trod_int Tryd.underlying70 k2
  obtain ⟨A, bs, cap, e3, m3, m4, hB⟩ := trod_bytes Tryd.underlying61 Tryd.underlying5 c5 k3
  obtain ⟨b, hb⟩ := byte_of_wf m1
  simp [Lit.wf, IntKind.min, IntKind.max, IntKind.signed, IntKind.bits] at m2
  unfold maxLen at m0 m4
  match cs, h1, e0, e1, e2, e3 with
  | [p, q, r, t], h1, e0, e1, e2, e3 =>
    simp only [List.drop_zero, List.take_succ_cons, List.take_zero, List.cons.injEq, and_true, List.drop_succ_cons] at e0 e1 e2 e3
    subst e0 e1 e2 e3
    refine ⟨⟨s, b, n.toNat, A, cap, bs⟩, ?_, ⟨by simp only; omega, by simp only; omega, hB, m3, by simp only; omega⟩⟩
    simp only [Sg.cells, hb]
    rw [Int.toNat_of_nonneg (by omega)]
theorem open_sigs {r : Reach} {b0 : Nat} {v : Value} {d : DataW H} {ps : List MemPlace} {base : Nat} {sp : Nat → Bool} {held : Bool}
    (hval : Value.okWide Tryd.prog W r b0 48 v) (hd : DataW.Trod enc Tryd.prog W base sp held 48 v d ps) : ∃ (A : Option Addr) (l : List Sg) (cap : Nat), v = .slice A l.length cap ∧ l.length ≤ cap ∧ cap ≤ maxLen ∧ SgsAt [oldFact W] A l := by
  obtain ⟨fuel, a, len, cap, rfl, h⟩ := open_slice Tryd.underlying48 hval hd
  obtain ⟨A, l, c, e, h1, h2, h3⟩ := trod_elems Tryd.underlying48 (by kernel_rfl : Tryd.prog.cellsOf 106 = 4) (Q := fun es => ∃ s : Sg, es = s.cells ∧ s.Fit [oldFact W]) h (fun _ _ _ h => trod_sg h)
  simp only [List.cons.injEq, and_true, Value.slice.injEq] at e
  obtain ⟨e1, e2, e3⟩ := e
  subst e1 e2 e3
  cases a with
  | none => obtain rfl := h3.1 rfl; exact ⟨none, [], cap, rfl, h1, h2, ⟨⟨fun _ => rfl, fun ad e => by cases e⟩, fun s hs => by cases hs⟩⟩
  | some ad =>
    obtain ⟨ops, g1, g2⟩ := choose_list (p := fun i (o : Sg) => o.Fit [oldFact W] ∧ ∀ j v, o.cells[j]? = some v → FC [oldFact W] (ad.add (i * 4 + j)) v) len fun i hi => by
      obtain ⟨es, _, ⟨o, rfl, ho⟩, h4⟩ := h3.2 ad rfl i hi
      exact ⟨o, ho, h4⟩
    subst g1
    refine ⟨some ad, ops, cap, rfl, h1, h2, ⟨⟨fun e => (by cases e), fun ad' e j y hj => ?_⟩, fun s hs => ?_⟩⟩
    · obtain rfl := Option.some.inj e
      obtain ⟨i, k, s, e1, e2, e3⟩ := sgRow_inv ops j y hj
      rw [e1]
      exact (g2 i s e2).2 k y e3
    · obtain ⟨i, hi⟩ := List.getElem?_of_mem hs
      exact (g2 i s hi).1
end
def laidN3 : List (String × DataW Unit) := [("math/bits.deBruijn32tab", Rows.laid_math_bits_deBruijn32tab), ("math/bits.deBruijn64tab", Rows.laid_math_bits_deBruijn64tab), ("internal/strconv.uint64pow10", Rows.laid_internal_strconv_uint64pow10)]
theorem door_metN3 (os : Os) (args : Array Value) : laidMetH Tryd.prog laidN3 ((World.doorLaid Tryd.prog 400 os).forCall (fun _ _ => 0) ⟨#[], args, []⟩).memory :=
  laidMetH_of_parts3 (fuel := 8) (laidMet_of_run' 8 (by kernel_rfl) (by kernel_rfl)) (by kernel_rfl) (by kernel_rfl)
theorem globN3 {W : World} (h : laidMetH Tryd.prog laidN3 W) : gTab.φ W := by
  rw [MakeChecks.laidMetH_plain _ _ _ (by kernel_rfl)] at h
  obtain ⟨c0, f0, p0, v0, d0⟩ := read_at h (n := "internal/strconv.uint64pow10") (d := Rows.laid_internal_strconv_uint64pow10) (by simp [laidN3]) gnTab gtTab
  have e0 := Lib.cells_of_tab (zs := Lib.pow10Tab) Tryd.underlying195 Tryd.underlying22 (by kernel_rfl) (by kernel_rfl) d0
  show W.var? _ _ = _
  rw [v0]
  congr 1
  rw [← e0]
theorem glob_oldN3 {W : World} (h : gTab.φ W) : ∀ f, f ∈ [gTab, oldFact W] → f.φ W ∧ ∀ k, f.G k → k < W.heap.size := by
  intro f hf
  rcases List.mem_cons.1 hf with rfl | hf
  · exact ⟨h, gTab_lt h⟩
  · obtain rfl := List.mem_singleton.1 hf
    exact ⟨fun k _ => rfl, fun k hk => hk⟩
end Go.Proofs.YtekgjjanikicnaaDoor.Sx

namespace Go.Proofs.YtekgjjanikicnaaDoor.Sx
open Go Go.ChangeShapes Go.WideShapes Go.ChangeAt Go.RowKit
set_option maxRecDepth 100000
set_option linter.unusedVariables false
set_option linter.unusedSimpArgs false
section
variable {H : Type} {enc : TypeId × Value → H}
theorem returns_and_shaped {a : Assume} {C : Checked} {os : Os} {f : FuncId} {fn : Func} {s : ChangeSpec} {conds : List PathCond} {apart fresh handsOn again : Bool} {X : World → Array Value → Prop}
    (hX : ∀ (w w' : World) (args : Array Value), w.heap = w'.heap → X w args → X w' args)
    (own : ownKnob C.prog.godebug = none) (started : os.Started) (noInit : C.prog.inits.idxOf? f = none) (hfn : C.prog.funcs[f]? = some fn)
    (witness : ∃ (w : World) (tape : Tape) (i : Input), w.os = os ∧ (w.forCall tape i).Shaped C.prog ∧ i.vars = [] ∧ Input.okWide C.prog (w.forCall tape i) .any w.heap.size f i ∧
      ((s.pre enc C.prog fn conds apart (w.forCall tape i).memory i.args ∧ X (w.forCall tape i).memory i.args) ∧ sizedMet enc C.prog fn (OpenSpec.ofChange s) apart (w.forCall tape i).memory i.args) ∧ a.holds C.prog (lone (Frame.enter C.prog f i.args .normal) [] (w.forCall tape i)))
    (contract : ∀ (W : World) (base : Nat) (args : Array Value) (ds gs : List (DataW H)) (before : List MemPlace),
      (∀ (j : Nat) t v, fn.params[j]? = some t → args[j]? = some v → Value.okWide C.prog W .any base t v) →
      DataW.Whole enc C.prog fn.params.toList s.vars apart W args.toList ds gs before →
      conds.all (PathCond.test C.prog ⟨fn.params.toList, ds, s.plain.varTypes C.prog, gs⟩) = true →
      (DataW.weightsEach C.prog (fn.params.toList ++ s.plain.varTypes C.prog) (ds ++ gs)).all (· ≤ reachBytes) = true → X W args → W.ShapedOpen C.prog →
      a.holds C.prog (lone (Frame.enter C.prog f args .normal) [] W) →
      Calls C.prog f args W fun e W' => ∃ v, e = .returned v ∧ s.post enc C.prog fn apart fresh handsOn again W args v W') :
    ReturnsInHanded a C os f .any (fun w args => (s.pre enc C.prog fn conds apart w args ∧ X w args) ∧ sizedMet enc C.prog fn (OpenSpec.ofChange s) apart w args) (s.post enc C.prog fn apart fresh handsOn again) := by
  refine returnsInHanded_of_calls own started noInit witness ?_
  intro w tape i _ hsh _ hok hpre hholds
  obtain ⟨_, _, _, fn', hfn', _, _, _, _, hval⟩ := hok
  have e : fn' = fn := Option.some.inj (hfn'.symm.trans hfn)
  subst e
  obtain ⟨⟨⟨ds, gs, before, hw, hc⟩, hx⟩, hz⟩ := hpre
  have hw' := DataW.Whole.of_heap (w' := w.forCall tape i) (by rfl) hw
  refine (contract (w.forCall tape i) w.heap.size i.args ds gs before hval hw' hc (hz.weights hw) (hX _ _ _ (by rfl) hx) hsh hholds).mono fun e W' ⟨v, he, hp⟩ => ?_
  subst he
  exact ChangeSpec.post_blind hp
end
theorem gMax_of {W : World} (h : W.ShapedOpen Tryd.prog) : gMax.φ W :=
  cell_of_shapedOpen_int (g := 8) (t := 3) (zero := #[.int .i64 0]) (k := .i64) h (Nat.le_of_ble_eq_true (n := 8 + 1) (by kernel_rfl)) (by kernel_rfl) rfl (by kernel_rfl) (by kernel_rfl) Tryd.underlying3
def laid7 : List (String × DataW Unit) := [("math/bits.deBruijn32tab", Rows.laid_math_bits_deBruijn32tab), ("math/bits.deBruijn64tab", Rows.laid_math_bits_deBruijn64tab), ("internal/strconv.uint64pow10", Rows.laid_internal_strconv_uint64pow10), ("unicode/utf8.acceptRanges", Rows.laid_unicode_utf8_acceptRanges), ("strconv.ErrRange", Rows.laid_strconv_ErrRange), ("strconv.ErrSyntax", Rows.laid_strconv_ErrSyntax), ("unicode/utf8.first", Rows.laid_unicode_utf8_first)]
theorem door_met7 (os : Os) (args : Array Value) : laidMetH Tryd.prog laid7 ((World.laidAll Tryd.prog os laid7).forCall (fun _ _ => 0) ⟨#[], args, []⟩).memory := by
  rw [MakeChecks.laidMetH_plain _ _ _ (by kernel_rfl)]
  exact laidMet_laidAll args (by kernel_rfl) (by kernel_rfl)
theorem glob7 {W : World} (h : laidMetH Tryd.prog laid7 W) : gTab.φ W ∧ gErr.φ W := by
  rw [MakeChecks.laidMetH_plain _ _ _ (by kernel_rfl)] at h
  obtain ⟨c0, f0, p0, v0, d0⟩ := read_at h (n := "internal/strconv.uint64pow10") (d := Rows.laid_internal_strconv_uint64pow10) (by simp [laid7]) gnTab gtTab
  obtain ⟨c1, f1, p1, v1, d1⟩ := read_at h (n := "strconv.ErrSyntax") (d := Rows.laid_strconv_ErrSyntax) (by simp [laid7]) gnErS gtErS
  obtain ⟨c2, f2, p2, v2, d2⟩ := read_at h (n := "strconv.ErrRange") (d := Rows.laid_strconv_ErrRange) (by simp [laid7]) gnErR gtErR
  have e0 := Lib.cells_of_tab (zs := Lib.pow10Tab) Tryd.underlying195 Tryd.underlying22 (by kernel_rfl) (by kernel_rfl) d0
  refine ⟨?_, ?_⟩
  · show W.var? _ _ = _
    rw [v0]
    congr 1
    rw [← e0]
  · have cell : ∀ {name : String} {g : Nat} {c : Array Value} {x : DataW Unit × List MemPlace} {f : Nat}, Tryd.prog.globalNamed name = some g → W.var? Tryd.prog name = some c → DataW.trod (fun _ => ()) Tryd.prog W 0 (fun _ => true) false f 120 c.toList = some x →
        ∃ ev, W.cell? ⟨g, 0, none⟩ = some ev ∧ (ev = .nilIface ∨ ∃ te pe, ev = .iface te pe) := by
      intro name g c x f hg hv hd
      obtain ⟨v, e, hv2⟩ := iface_cell Tryd.underlying120 hd
      exact ⟨v, var_cells (vs := [v]) hg hv (fun j y hj => by rw [e]; exact hj) 0 _ rfl, hv2⟩
    rintro g (rfl | rfl)
    · exact cell gnErS v1 d1
    · exact cell gnErR v2 d2
theorem glob_old7 {W : World} (h : (gTab.φ W ∧ gErr.φ W) ∧ gMax.φ W) : ∀ f, f ∈ [gTab, gErr, gMax, oldFact W] → f.φ W ∧ ∀ k, f.G k → k < W.heap.size := by
  intro f hf
  rcases List.mem_cons.1 hf with rfl | hf
  · exact ⟨h.1.1, gTab_lt h.1.1⟩
  rcases List.mem_cons.1 hf with rfl | hf
  · exact ⟨h.1.2, gErr_lt h.1.2⟩
  rcases List.mem_cons.1 hf with rfl | hf
  · refine ⟨h.2, fun k hk => ?_⟩
    obtain ⟨m, hm⟩ := h.2
    have : k = 8 := hk
    subst this
    exact World.block_lt_of_cell? W _ hm
  · obtain rfl := List.mem_singleton.1 hf
    exact ⟨fun k _ => rfl, fun k hk => hk⟩
end Go.Proofs.YtekgjjanikicnaaDoor.Sx
