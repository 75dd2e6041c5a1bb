/- Points' bytes: what the law comes to. -/
import Derived.Test.YtekgjjanikicnaaDoorFeV
namespace Go.Proofs.YtekgjjanikicnaaDoor.Sx
open Go Go.Proofs.YtekgjjanikicnaaDoor.Pm
set_option maxRecDepth 100000
set_option linter.unusedSimpArgs false
set_option linter.unusedVariables false

open Classical in
noncomputable def eB (p : Pt4) : List UInt8 := if Formed p ∧ p.n = false then encP p else [0]
theorem eB_yes {p : Pt4} (h : Formed p) (hn : p.n = false) : eB p = encP p := by unfold eB; rw [if_pos ⟨h, hn⟩]
theorem eB_no {p : Pt4} (h : ¬ Formed p ∨ p.n = true) : eB p = [0] := by
  unfold eB
  rw [if_neg]
  rintro ⟨h1, h2⟩
  rcases h with h | h
  · exact h h1
  · rw [h2] at h; cases h
theorem yes_or (p : Pt4) : (Formed p ∧ p.n = false) ∨ (¬ Formed p ∨ p.n = true) := by
  by_cases h : Formed p
  · cases hn : p.n with
    | true => exact .inr (.inr rfl)
    | false => exact .inl ⟨h, rfl⟩
  · exact .inr (.inl h)
abbrev EncRet (p : Pt4) : SV → List (Nat × SObj) → Nat → List Fact → Prop := RetE (α := List Value) 0 (fun xs => BfP (eB p) (some xs)) (fun xs => .s 0 0 (eB p).length xs.length) (fun xs => [(0, .row xs 5)]) 1 (fun _ => [])
theorem tEncAll (fx : List Fact) (hg : glob ∈ fx) (p : Pt4) (hp : p.Ok) : Tri Tryd.prog 41 [ptS p] [] 0 fx (EncRet p) := by
  rcases yes_or p with ⟨h1, h2⟩ | h
  · have t := tEncode fx hg p hp h1 h2
    unfold EncRet
    rw [eB_yes h1 h2, encP_length]
    exact t
  · have t := tEncNot fx hg p hp h
    unfold EncRet
    rw [eB_no h]
    exact t.mono fun y hh m f hR => ⟨[bv 0], ⟨rfl, Nat.le_refl _⟩, hR⟩
theorem tREncAll (fx : List Fact) (hg : glob ∈ fx) (p : Pt4) (hp : p.Ok) : Tri Tryd.prog 43 [ptS p] [] 0 fx (EncRet p) := by
  rcases yes_or p with ⟨h1, h2⟩ | h
  · have t := tREncode fx hg p hp h1 h2
    unfold EncRet
    rw [eB_yes h1 h2, encP_length]
    exact t
  · have t := tREncNot fx hg p hp h
    unfold EncRet
    rw [eB_no h]
    exact t.mono fun y hh m f hR => ⟨[bv 0], ⟨rfl, Nat.le_refl _⟩, hR⟩
theorem eB_len (p : Pt4) : (eB p).length < 1000 := by
  rcases yes_or p with ⟨h1, h2⟩ | h
  · rw [eB_yes h1 h2, encP_length]; decide
  · rw [eB_no h]; decide
/-- What one's own bytes are taken as. -/
theorem eB_dec {p : Pt4} (hp : p.Ok) {r : Pt4 × Bool} (h : DecR (eB p) r) : r.2 = true ∧ (Formed p → r.1 = p) ∧ (¬ Formed p → r.1 = inf) := by
  rcases yes_or p with ⟨h1, h2⟩ | hn
  · rw [eB_yes h1 h2] at h
    have e := h.uniq (dec_yes hp h1 h2 rfl)
    rw [e]
    exact ⟨rfl, fun _ => rfl, fun k => absurd h1 k⟩
  · rw [eB_no hn] at h
    have e := h.uniq (.inl ⟨rfl, rfl⟩)
    rw [e]
    refine ⟨rfl, fun hf => ?_, fun _ => rfl⟩
    rcases hn with hn | hn
    · exact absurd hf hn
    · exact ((formed_none hn).1 hf).symm
/-- Bytes that are taken as a point are its bytes. -/
theorem dec_eB {l : List UInt8} {r : Pt4 × Bool} (h : DecR l r) (ht : r.2 = true) : eB r.1 = l := by
  rcases h with ⟨h1, rfl⟩ | ⟨h1, h2, rfl⟩ | ⟨p, h1, h2, h3, h4, rfl⟩
  · rw [eB_no (.inr rfl), h1]
  · cases ht
  · rw [eB_yes h2 h3, h4]
theorem same_t (fx : List Fact) (A B : Option Addr) (ca cb : Nat) (a b : List UInt8) (hA : BytesAt fx A a) (hB : BytesAt fx B b) (hl : a.length < 1000000000) (e : a = b) :
    Tri Tryd.prog 42 [.v (.slice A a.length ca), .v (.slice B b.length cb)] [] 0 fx (RetE (α := Unit) 0 (fun _ => True) (fun _ => .b true) (fun _ => []) 0 (fun _ => [])) :=
  (tSame fx A B ca cb a b hA hB hl).mono fun y hh m f ⟨r, hr, hR⟩ => ⟨(), trivial, by
    obtain rfl : r = true := hr.2 e
    obtain ⟨σ, h2, k1, k2, k3, k4, k5⟩ := hR.out
    exact Done.mk ⟨σ, h2, k1, k2, fun ρ ρ'' ha => k3 ρ ρ'' ha, k4, k5⟩⟩
set_option maxHeartbeats 4000000 in
theorem tLBytes (fx : List Fact) (hg : glob ∈ fx) (p : Pt4) (hp : p.Ok) (A : Option Addr) (cap : Nat) (l : List UInt8) (hA : BytesAt fx A l) (hc : l.length ≤ cap) :
    Tri Tryd.prog 11 [ptS p, .v (.slice A l.length cap)] [] 0 fx (Ret 0 (.b true) [] 0 []) := by
  refine Tri.of_code tok Tryd.func11 rfl rfl rfl (by decide) rfl (Nat.le_of_ble_eq_true rfl) ?_
  conv => whnf
  repeat' ((first | refine And.intro (by repeat' first | exact trivial | refine And.intro rfl ?_) (And.intro (by first | exact fun _ h => h | exact fun _ => List.mem_cons_of_mem _ | exact fun _ => List.mem_append_right _) ?_) | (refine And.intro (fun h => ?_) (fun h => ?_) <;> (try simp only [n1, n2, n3, n4, n5, n6] at h) <;> first | (exfalso; omega) | (cases h; done) | skip) | refine And.intro (by omega) ?_ | refine Exists.intro _ (And.intro (by first | exact And.intro rfl rfl | exact Pl.den (by repeat constructor) | with_reducible rfl | exact cast_succ _ | assumption | exact (Int.toNat_of_nonneg (by omega)).symm | rfl) ?_) | refine hD _ _ ?_ | refine hL _ _ ?_ | (intro h; (try simp only [n1, n2, n3, n4, n5, n6] at h); first | (exfalso; omega) | (cases h; done) | skip)) <;> (conv => whnf))
  refine Tri.use ((tAwake8 fx hg).one) [] rfl (fun _ _ _ => rfl) trivial (fun f hf => by first | exact hf | cases hf) (fun u hu => ?_)
  conv => whnf
  repeat' ((first | refine And.intro (by repeat' first | exact trivial | refine And.intro rfl ?_) (And.intro (by first | exact fun _ h => h | exact fun _ => List.mem_cons_of_mem _ | exact fun _ => List.mem_append_right _) ?_) | (refine And.intro (fun h => ?_) (fun h => ?_) <;> (try simp only [n1, n2, n3, n4, n5, n6] at h) <;> first | (exfalso; omega) | (cases h; done) | skip) | refine And.intro (by omega) ?_ | refine Exists.intro _ (And.intro (by first | exact And.intro rfl rfl | exact Pl.den (by repeat constructor) | with_reducible rfl | exact cast_succ _ | assumption | exact (Int.toNat_of_nonneg (by omega)).symm | rfl) ?_) | refine hD _ _ ?_ | refine hL _ _ ?_ | (intro h; (try simp only [n1, n2, n3, n4, n5, n6] at h); first | (exfalso; omega) | (cases h; done) | skip)) <;> (conv => whnf))
  · refine Tri.use ((tAwake8 fx hg).one) [] rfl (fun _ _ _ => rfl) trivial (fun f hf => by first | exact hf | cases hf) (fun u hu => ?_)
    conv => whnf
    repeat' ((first | refine And.intro (by repeat' first | exact trivial | refine And.intro rfl ?_) (And.intro (by first | exact fun _ h => h | exact fun _ => List.mem_cons_of_mem _ | exact fun _ => List.mem_append_right _) ?_) | (refine And.intro (fun h => ?_) (fun h => ?_) <;> (try simp only [n1, n2, n3, n4, n5, n6] at h) <;> first | (exfalso; omega) | (cases h; done) | skip) | refine And.intro (by omega) ?_ | refine Exists.intro _ (And.intro (by first | exact And.intro rfl rfl | exact Pl.den (by repeat constructor) | with_reducible rfl | exact cast_succ _ | assumption | exact (Int.toNat_of_nonneg (by omega)).symm | rfl) ?_) | refine hD _ _ ?_ | refine hL _ _ ?_ | (intro h; (try simp only [n1, n2, n3, n4, n5, n6] at h); first | (exfalso; omega) | (cases h; done) | skip)) <;> (conv => whnf))
    exact Ret.noneS rfl (fun _ _ => rfl) (fun _ h => nomatch h)
  have hl : l.length < 1000 := by omega
  refine Tri.use (tDecode fx hg A cap l hA hl hc) [] rfl (fun _ _ _ => rfl) trivial (fun f hf => hf) fun r hr => ?_
  conv => whnf
  repeat' ((first | refine And.intro (by repeat' first | exact trivial | refine And.intro rfl ?_) (And.intro (by first | exact fun _ h => h | exact fun _ => List.mem_cons_of_mem _ | exact fun _ => List.mem_append_right _) ?_) | (refine And.intro (fun h => ?_) (fun h => ?_) <;> (try simp only [n1, n2, n3, n4, n5, n6] at h) <;> first | (exfalso; omega) | (cases h; done) | skip) | refine And.intro (by omega) ?_ | refine Exists.intro _ (And.intro (by first | exact And.intro rfl rfl | exact Pl.den (by repeat constructor) | with_reducible rfl | exact cast_succ _ | assumption | exact (Int.toNat_of_nonneg (by omega)).symm | rfl) ?_) | refine hD _ _ ?_ | refine hL _ _ ?_ | (intro h; (try simp only [n1, n2, n3, n4, n5, n6] at h); first | (exfalso; omega) | (cases h; done) | skip)) <;> (conv => whnf))
  refine Tri.use (tRDecode fx hg A cap l hA hl hc) [] rfl (fun _ _ _ => rfl) trivial (fun f hf => hf) fun s hs => ?_
  obtain rfl := hr.2.uniq hs.2
  conv => whnf
  repeat' ((first | refine And.intro (by repeat' first | exact trivial | refine And.intro rfl ?_) (And.intro (by first | exact fun _ h => h | exact fun _ => List.mem_cons_of_mem _ | exact fun _ => List.mem_append_right _) ?_) | (refine And.intro (fun h => ?_) (fun h => ?_) <;> (try simp only [n1, n2, n3, n4, n5, n6] at h) <;> first | (exfalso; omega) | (cases h; done) | skip) | refine And.intro (by omega) ?_ | refine Exists.intro _ (And.intro (by first | exact And.intro rfl rfl | exact Pl.den (by repeat constructor) | with_reducible rfl | exact cast_succ _ | assumption | exact (Int.toNat_of_nonneg (by omega)).symm | rfl) ?_) | refine hD _ _ ?_ | refine hL _ _ ?_ | (intro h; (try simp only [n1, n2, n3, n4, n5, n6] at h); first | (exfalso; omega) | (cases h; done) | skip)) <;> (conv => whnf))
  refine Tri.use (tEncAll fx hg p hp) [] rfl (fun _ _ _ => rfl) trivial (fun f hf => hf) fun xs hx => ?_
  conv => whnf
  repeat' ((first | refine And.intro (by repeat' first | exact trivial | refine And.intro rfl ?_) (And.intro (by first | exact fun _ h => h | exact fun _ => List.mem_cons_of_mem _ | exact fun _ => List.mem_append_right _) ?_) | (refine And.intro (fun h => ?_) (fun h => ?_) <;> (try simp only [n1, n2, n3, n4, n5, n6] at h) <;> first | (exfalso; omega) | (cases h; done) | skip) | refine And.intro (by omega) ?_ | refine Exists.intro _ (And.intro (by first | exact And.intro rfl rfl | exact Pl.den (by repeat constructor) | with_reducible rfl | exact cast_succ _ | assumption | exact (Int.toNat_of_nonneg (by omega)).symm | rfl) ?_) | refine hD _ _ ?_ | refine hL _ _ ?_ | (intro h; (try simp only [n1, n2, n3, n4, n5, n6] at h); first | (exfalso; omega) | (cases h; done) | skip)) <;> (conv => whnf))
  refine Tri.lend 3 (xs := xs) (T := 5) (fun b => [.v (.slice (some ⟨b, 0, none⟩) (eB p).length xs.length)]) (List.mem_cons_self ..) rowOf.row (fun _ => rfl) fun b => ?_
  refine Tri.use (tDecode (rowFact b xs 5 :: fx) (List.mem_cons_of_mem _ hg) _ xs.length (eB p) (BytesAt.row (List.mem_cons_self ..) (by rw [List.drop_zero]; exact hx.1)) (eB_len p) hx.2) [] rfl (fun _ _ _ => rfl) trivial (fun f hf => hf) fun t ht => ?_
  obtain ⟨t1, t2, t3⟩ := eB_dec hp ht.2
  have t0 := ht.1
  clear ht
  obtain ⟨t, tb⟩ := t
  simp only at t0 t1 t2 t3
  subst t1
  obtain ⟨q, ok⟩ := r
  have q0 : q.Ok := hr.1
  have q1 := dec_eB hr.2
  clear hs hr
  simp only at q1
  conv => whnf
  refine And.intro rfl ?_
  conv => whnf
  repeat' ((first | refine And.intro (by repeat' first | exact trivial | refine And.intro rfl ?_) (And.intro (by first | exact fun _ h => h | exact fun _ => List.mem_cons_of_mem _ | exact fun _ => List.mem_append_right _) ?_) | (refine And.intro (fun h => ?_) (fun h => ?_) <;> (try simp only [n1, n2, n3, n4, n5, n6] at h) <;> first | (exfalso; omega) | (cases h; done) | skip) | refine And.intro (by omega) ?_ | refine Exists.intro _ (And.intro (by first | exact And.intro rfl rfl | exact Pl.den (by repeat constructor) | with_reducible rfl | exact cast_succ _ | assumption | exact (Int.toNat_of_nonneg (by omega)).symm | rfl) ?_) | refine hD _ _ ?_ | refine hL _ _ ?_ | (intro h; (try simp only [n1, n2, n3, n4, n5, n6] at h); first | (exfalso; omega) | (cases h; done) | skip)) <;> (conv => whnf))
  refine Exists.intro true (And.intro (same_pt q q rfl) ?_)
  conv => whnf
  repeat' ((first | refine And.intro (by repeat' first | exact trivial | refine And.intro rfl ?_) (And.intro (by first | exact fun _ h => h | exact fun _ => List.mem_cons_of_mem _ | exact fun _ => List.mem_append_right _) ?_) | (refine And.intro (fun h => ?_) (fun h => ?_) <;> (try simp only [n1, n2, n3, n4, n5, n6] at h) <;> first | (exfalso; omega) | (cases h; done) | skip) | refine And.intro (by omega) ?_ | refine Exists.intro _ (And.intro (by first | exact And.intro rfl rfl | exact Pl.den (by repeat constructor) | with_reducible rfl | exact cast_succ _ | assumption | exact (Int.toNat_of_nonneg (by omega)).symm | rfl) ?_) | refine hD _ _ ?_ | refine hL _ _ ?_ | (intro h; (try simp only [n1, n2, n3, n4, n5, n6] at h); first | (exfalso; omega) | (cases h; done) | skip)) <;> (conv => whnf))
  · exact absurd h (by simp)
  refine Tri.use (tREncAll fx hg p hp) [] rfl (fun _ _ _ => rfl) trivial (fun f hf => hf) fun ys hy => ?_
  conv => whnf
  repeat' ((first | refine And.intro (by repeat' first | exact trivial | refine And.intro rfl ?_) (And.intro (by first | exact fun _ h => h | exact fun _ => List.mem_cons_of_mem _ | exact fun _ => List.mem_append_right _) ?_) | (refine And.intro (fun h => ?_) (fun h => ?_) <;> (try simp only [n1, n2, n3, n4, n5, n6] at h) <;> first | (exfalso; omega) | (cases h; done) | skip) | refine And.intro (by omega) ?_ | refine Exists.intro _ (And.intro (by first | exact And.intro rfl rfl | exact Pl.den (by repeat constructor) | with_reducible rfl | exact cast_succ _ | assumption | exact (Int.toNat_of_nonneg (by omega)).symm | rfl) ?_) | refine hD _ _ ?_ | refine hL _ _ ?_ | (intro h; (try simp only [n1, n2, n3, n4, n5, n6] at h); first | (exfalso; omega) | (cases h; done) | skip)) <;> (conv => whnf))
  refine Tri.lend 3 (xs := xs) (T := 5) (fun b1 => [.v (.slice (some ⟨b1, 0, none⟩) (eB p).length xs.length), .s 5 0 (eB p).length ys.length]) (by repeat first | exact List.mem_cons_self .. | apply List.mem_cons_of_mem) rowOf.row (fun _ => rfl) fun b1 => ?_
  refine Tri.lend 5 (xs := ys) (T := 5) (fun b2 => [.v (.slice (some ⟨b1, 0, none⟩) (eB p).length xs.length), .v (.slice (some ⟨b2, 0, none⟩) (eB p).length ys.length)]) (by repeat first | exact List.mem_cons_self .. | apply List.mem_cons_of_mem) rowOf.row (fun _ => rfl) fun b2 => ?_
  refine Tri.use (same_t (rowFact b2 ys 5 :: rowFact b1 xs 5 :: fx) _ _ xs.length ys.length (eB p) (eB p) (BytesAt.row (List.mem_cons_of_mem _ (List.mem_cons_self ..)) (by rw [List.drop_zero]; exact hx.1)) (BytesAt.row (List.mem_cons_self ..) (by rw [List.drop_zero]; exact hy.1)) (Nat.lt_trans (eB_len p) (by decide)) rfl) [] rfl (fun _ _ _ => rfl) trivial (fun f hf => hf) fun u hu => ?_
  conv => whnf
  refine And.intro rfl ?_
  conv => whnf
  refine And.intro rfl ?_
  conv => whnf
  repeat' ((first | refine And.intro (by repeat' first | exact trivial | refine And.intro rfl ?_) (And.intro (by first | exact fun _ h => h | exact fun _ => List.mem_cons_of_mem _ | exact fun _ => List.mem_append_right _) ?_) | (refine And.intro (fun h => ?_) (fun h => ?_) <;> (try simp only [n1, n2, n3, n4, n5, n6] at h) <;> first | (exfalso; omega) | (cases h; done) | skip) | refine And.intro (by omega) ?_ | refine Exists.intro _ (And.intro (by first | exact And.intro rfl rfl | exact Pl.den (by repeat constructor) | with_reducible rfl | exact cast_succ _ | assumption | exact (Int.toNat_of_nonneg (by omega)).symm | rfl) ?_) | refine hD _ _ ?_ | refine hL _ _ ?_ | (intro h; (try simp only [n1, n2, n3, n4, n5, n6] at h); first | (exfalso; omega) | (cases h; done) | skip)) <;> (conv => whnf))
  · have eq := q1 h
    refine Tri.use (tEncAll fx hg q q0) [] rfl (fun _ _ _ => rfl) trivial (fun f hf => hf) fun zs hz => ?_
    conv => whnf
    repeat' ((first | refine And.intro (by repeat' first | exact trivial | refine And.intro rfl ?_) (And.intro (by first | exact fun _ h => h | exact fun _ => List.mem_cons_of_mem _ | exact fun _ => List.mem_append_right _) ?_) | (refine And.intro (fun h => ?_) (fun h => ?_) <;> (try simp only [n1, n2, n3, n4, n5, n6] at h) <;> first | (exfalso; omega) | (cases h; done) | skip) | refine And.intro (by omega) ?_ | refine Exists.intro _ (And.intro (by first | exact And.intro rfl rfl | exact Pl.den (by repeat constructor) | with_reducible rfl | exact cast_succ _ | assumption | exact (Int.toNat_of_nonneg (by omega)).symm | rfl) ?_) | refine hD _ _ ?_ | refine hL _ _ ?_ | (intro h; (try simp only [n1, n2, n3, n4, n5, n6] at h); first | (exfalso; omega) | (cases h; done) | skip)) <;> (conv => whnf))
    refine Tri.lend 6 (xs := zs) (T := 5) (fun b3 => [.v (.slice (some ⟨b3, 0, none⟩) (eB q).length zs.length), .v (.slice A l.length cap)]) (by repeat first | exact List.mem_cons_self .. | apply List.mem_cons_of_mem) rowOf.row (fun _ => rfl) fun b3 => ?_
    refine Tri.use (same_t (rowFact b3 zs 5 :: fx) _ A zs.length cap (eB q) l (BytesAt.row (List.mem_cons_self ..) (by rw [List.drop_zero]; exact hz.1)) (hA.mono fun f hf => List.mem_cons_of_mem _ hf) (Nat.lt_trans (eB_len q) (by decide)) eq) [] rfl (fun _ _ _ => rfl) trivial (fun f hf => hf) fun u hu => ?_
    conv => whnf
    refine And.intro rfl ?_
    conv => whnf
    repeat' ((first | refine And.intro (by repeat' first | exact trivial | refine And.intro rfl ?_) (And.intro (by first | exact fun _ h => h | exact fun _ => List.mem_cons_of_mem _ | exact fun _ => List.mem_append_right _) ?_) | (refine And.intro (fun h => ?_) (fun h => ?_) <;> (try simp only [n1, n2, n3, n4, n5, n6] at h) <;> first | (exfalso; omega) | (cases h; done) | skip) | refine And.intro (by omega) ?_ | refine Exists.intro _ (And.intro (by first | exact And.intro rfl rfl | exact Pl.den (by repeat constructor) | with_reducible rfl | exact cast_succ _ | assumption | exact (Int.toNat_of_nonneg (by omega)).symm | rfl) ?_) | refine hD _ _ ?_ | refine hL _ _ ?_ | (intro h; (try simp only [n1, n2, n3, n4, n5, n6] at h); first | (exfalso; omega) | (cases h; done) | skip)) <;> (conv => whnf))
    by_cases hf : Formed p
    · refine Tri.use (rformed_t fx hg p hp hf) [] rfl (fun _ _ _ => rfl) trivial (fun f hf => by first | exact hf | cases hf) (fun u hu => ?_)
      conv => whnf
      repeat' ((first | refine And.intro (by repeat' first | exact trivial | refine And.intro rfl ?_) (And.intro (by first | exact fun _ h => h | exact fun _ => List.mem_cons_of_mem _ | exact fun _ => List.mem_append_right _) ?_) | (refine And.intro (fun h => ?_) (fun h => ?_) <;> (try simp only [n1, n2, n3, n4, n5, n6] at h) <;> first | (exfalso; omega) | (cases h; done) | skip) | refine And.intro (by omega) ?_ | refine Exists.intro _ (And.intro (by first | exact And.intro rfl rfl | exact Pl.den (by repeat constructor) | with_reducible rfl | exact cast_succ _ | assumption | exact (Int.toNat_of_nonneg (by omega)).symm | rfl) ?_) | refine hD _ _ ?_ | refine hL _ _ ?_ | (intro h; (try simp only [n1, n2, n3, n4, n5, n6] at h); first | (exfalso; omega) | (cases h; done) | skip)) <;> (conv => whnf))
      refine Exists.intro true (And.intro (same_pt t p (t2 hf)) ?_)
      conv => whnf
      repeat' ((first | refine And.intro (by repeat' first | exact trivial | refine And.intro rfl ?_) (And.intro (by first | exact fun _ h => h | exact fun _ => List.mem_cons_of_mem _ | exact fun _ => List.mem_append_right _) ?_) | (refine And.intro (fun h => ?_) (fun h => ?_) <;> (try simp only [n1, n2, n3, n4, n5, n6] at h) <;> first | (exfalso; omega) | (cases h; done) | skip) | refine And.intro (by omega) ?_ | refine Exists.intro _ (And.intro (by first | exact And.intro rfl rfl | exact Pl.den (by repeat constructor) | with_reducible rfl | exact cast_succ _ | assumption | exact (Int.toNat_of_nonneg (by omega)).symm | rfl) ?_) | refine hD _ _ ?_ | refine hL _ _ ?_ | (intro h; (try simp only [n1, n2, n3, n4, n5, n6] at h); first | (exfalso; omega) | (cases h; done) | skip)) <;> (conv => whnf))
      refine Tri.use (rformed_t fx hg p hp hf) [] rfl (fun _ _ _ => rfl) trivial (fun f hf => by first | exact hf | cases hf) (fun u hu => ?_)
      conv => whnf
      repeat' ((first | refine And.intro (by repeat' first | exact trivial | refine And.intro rfl ?_) (And.intro (by first | exact fun _ h => h | exact fun _ => List.mem_cons_of_mem _ | exact fun _ => List.mem_append_right _) ?_) | (refine And.intro (fun h => ?_) (fun h => ?_) <;> (try simp only [n1, n2, n3, n4, n5, n6] at h) <;> first | (exfalso; omega) | (cases h; done) | skip) | refine And.intro (by omega) ?_ | refine Exists.intro _ (And.intro (by first | exact And.intro rfl rfl | exact Pl.den (by repeat constructor) | with_reducible rfl | exact cast_succ _ | assumption | exact (Int.toNat_of_nonneg (by omega)).symm | rfl) ?_) | refine hD _ _ ?_ | refine hL _ _ ?_ | (intro h; (try simp only [n1, n2, n3, n4, n5, n6] at h); first | (exfalso; omega) | (cases h; done) | skip)) <;> (conv => whnf))
      exact Ret.noneS rfl (fun _ _ => rfl) (fun _ h => nomatch h)
    · refine Tri.use (rformed_f fx hg p hp hf) [] rfl (fun _ _ _ => rfl) trivial (fun f hf => by first | exact hf | cases hf) (fun u hu => ?_)
      conv => whnf
      repeat' ((first | refine And.intro (by repeat' first | exact trivial | refine And.intro rfl ?_) (And.intro (by first | exact fun _ h => h | exact fun _ => List.mem_cons_of_mem _ | exact fun _ => List.mem_append_right _) ?_) | (refine And.intro (fun h => ?_) (fun h => ?_) <;> (try simp only [n1, n2, n3, n4, n5, n6] at h) <;> first | (exfalso; omega) | (cases h; done) | skip) | refine And.intro (by omega) ?_ | refine Exists.intro _ (And.intro (by first | exact And.intro rfl rfl | exact Pl.den (by repeat constructor) | with_reducible rfl | exact cast_succ _ | assumption | exact (Int.toNat_of_nonneg (by omega)).symm | rfl) ?_) | refine hD _ _ ?_ | refine hL _ _ ?_ | (intro h; (try simp only [n1, n2, n3, n4, n5, n6] at h); first | (exfalso; omega) | (cases h; done) | skip)) <;> (conv => whnf))
      refine Tri.use (rformed_f fx hg p hp hf) [] rfl (fun _ _ _ => rfl) trivial (fun f hf => by first | exact hf | cases hf) (fun u hu => ?_)
      conv => whnf
      repeat' ((first | refine And.intro (by repeat' first | exact trivial | refine And.intro rfl ?_) (And.intro (by first | exact fun _ h => h | exact fun _ => List.mem_cons_of_mem _ | exact fun _ => List.mem_append_right _) ?_) | (refine And.intro (fun h => ?_) (fun h => ?_) <;> (try simp only [n1, n2, n3, n4, n5, n6] at h) <;> first | (exfalso; omega) | (cases h; done) | skip) | refine And.intro (by omega) ?_ | refine Exists.intro _ (And.intro (by first | exact And.intro rfl rfl | exact Pl.den (by repeat constructor) | with_reducible rfl | exact cast_succ _ | assumption | exact (Int.toNat_of_nonneg (by omega)).symm | rfl) ?_) | refine hD _ _ ?_ | refine hL _ _ ?_ | (intro h; (try simp only [n1, n2, n3, n4, n5, n6] at h); first | (exfalso; omega) | (cases h; done) | skip)) <;> (conv => whnf))
      refine Exists.intro true (And.intro (same_pt t inf (t3 hf)) ?_)
      conv => whnf
      repeat' ((first | refine And.intro (by repeat' first | exact trivial | refine And.intro rfl ?_) (And.intro (by first | exact fun _ h => h | exact fun _ => List.mem_cons_of_mem _ | exact fun _ => List.mem_append_right _) ?_) | (refine And.intro (fun h => ?_) (fun h => ?_) <;> (try simp only [n1, n2, n3, n4, n5, n6] at h) <;> first | (exfalso; omega) | (cases h; done) | skip) | refine And.intro (by omega) ?_ | refine Exists.intro _ (And.intro (by first | exact And.intro rfl rfl | exact Pl.den (by repeat constructor) | with_reducible rfl | exact cast_succ _ | assumption | exact (Int.toNat_of_nonneg (by omega)).symm | rfl) ?_) | refine hD _ _ ?_ | refine hL _ _ ?_ | (intro h; (try simp only [n1, n2, n3, n4, n5, n6] at h); first | (exfalso; omega) | (cases h; done) | skip)) <;> (conv => whnf))
      exact Ret.noneS rfl (fun _ _ => rfl) (fun _ h => nomatch h)
  · by_cases hf : Formed p
    · refine Tri.use (rformed_t fx hg p hp hf) [] rfl (fun _ _ _ => rfl) trivial (fun f hf => by first | exact hf | cases hf) (fun u hu => ?_)
      conv => whnf
      repeat' ((first | refine And.intro (by repeat' first | exact trivial | refine And.intro rfl ?_) (And.intro (by first | exact fun _ h => h | exact fun _ => List.mem_cons_of_mem _ | exact fun _ => List.mem_append_right _) ?_) | (refine And.intro (fun h => ?_) (fun h => ?_) <;> (try simp only [n1, n2, n3, n4, n5, n6] at h) <;> first | (exfalso; omega) | (cases h; done) | skip) | refine And.intro (by omega) ?_ | refine Exists.intro _ (And.intro (by first | exact And.intro rfl rfl | exact Pl.den (by repeat constructor) | with_reducible rfl | exact cast_succ _ | assumption | exact (Int.toNat_of_nonneg (by omega)).symm | rfl) ?_) | refine hD _ _ ?_ | refine hL _ _ ?_ | (intro h; (try simp only [n1, n2, n3, n4, n5, n6] at h); first | (exfalso; omega) | (cases h; done) | skip)) <;> (conv => whnf))
      refine Exists.intro true (And.intro (same_pt t p (t2 hf)) ?_)
      conv => whnf
      repeat' ((first | refine And.intro (by repeat' first | exact trivial | refine And.intro rfl ?_) (And.intro (by first | exact fun _ h => h | exact fun _ => List.mem_cons_of_mem _ | exact fun _ => List.mem_append_right _) ?_) | (refine And.intro (fun h => ?_) (fun h => ?_) <;> (try simp only [n1, n2, n3, n4, n5, n6] at h) <;> first | (exfalso; omega) | (cases h; done) | skip) | refine And.intro (by omega) ?_ | refine Exists.intro _ (And.intro (by first | exact And.intro rfl rfl | exact Pl.den (by repeat constructor) | with_reducible rfl | exact cast_succ _ | assumption | exact (Int.toNat_of_nonneg (by omega)).symm | rfl) ?_) | refine hD _ _ ?_ | refine hL _ _ ?_ | (intro h; (try simp only [n1, n2, n3, n4, n5, n6] at h); first | (exfalso; omega) | (cases h; done) | skip)) <;> (conv => whnf))
      refine Tri.use (rformed_t fx hg p hp hf) [] rfl (fun _ _ _ => rfl) trivial (fun f hf => by first | exact hf | cases hf) (fun u hu => ?_)
      conv => whnf
      repeat' ((first | refine And.intro (by repeat' first | exact trivial | refine And.intro rfl ?_) (And.intro (by first | exact fun _ h => h | exact fun _ => List.mem_cons_of_mem _ | exact fun _ => List.mem_append_right _) ?_) | (refine And.intro (fun h => ?_) (fun h => ?_) <;> (try simp only [n1, n2, n3, n4, n5, n6] at h) <;> first | (exfalso; omega) | (cases h; done) | skip) | refine And.intro (by omega) ?_ | refine Exists.intro _ (And.intro (by first | exact And.intro rfl rfl | exact Pl.den (by repeat constructor) | with_reducible rfl | exact cast_succ _ | assumption | exact (Int.toNat_of_nonneg (by omega)).symm | rfl) ?_) | refine hD _ _ ?_ | refine hL _ _ ?_ | (intro h; (try simp only [n1, n2, n3, n4, n5, n6] at h); first | (exfalso; omega) | (cases h; done) | skip)) <;> (conv => whnf))
      exact Ret.noneS rfl (fun _ _ => rfl) (fun _ h => nomatch h)
    · refine Tri.use (rformed_f fx hg p hp hf) [] rfl (fun _ _ _ => rfl) trivial (fun f hf => by first | exact hf | cases hf) (fun u hu => ?_)
      conv => whnf
      repeat' ((first | refine And.intro (by repeat' first | exact trivial | refine And.intro rfl ?_) (And.intro (by first | exact fun _ h => h | exact fun _ => List.mem_cons_of_mem _ | exact fun _ => List.mem_append_right _) ?_) | (refine And.intro (fun h => ?_) (fun h => ?_) <;> (try simp only [n1, n2, n3, n4, n5, n6] at h) <;> first | (exfalso; omega) | (cases h; done) | skip) | refine And.intro (by omega) ?_ | refine Exists.intro _ (And.intro (by first | exact And.intro rfl rfl | exact Pl.den (by repeat constructor) | with_reducible rfl | exact cast_succ _ | assumption | exact (Int.toNat_of_nonneg (by omega)).symm | rfl) ?_) | refine hD _ _ ?_ | refine hL _ _ ?_ | (intro h; (try simp only [n1, n2, n3, n4, n5, n6] at h); first | (exfalso; omega) | (cases h; done) | skip)) <;> (conv => whnf))
      refine Tri.use (rformed_f fx hg p hp hf) [] rfl (fun _ _ _ => rfl) trivial (fun f hf => by first | exact hf | cases hf) (fun u hu => ?_)
      conv => whnf
      repeat' ((first | refine And.intro (by repeat' first | exact trivial | refine And.intro rfl ?_) (And.intro (by first | exact fun _ h => h | exact fun _ => List.mem_cons_of_mem _ | exact fun _ => List.mem_append_right _) ?_) | (refine And.intro (fun h => ?_) (fun h => ?_) <;> (try simp only [n1, n2, n3, n4, n5, n6] at h) <;> first | (exfalso; omega) | (cases h; done) | skip) | refine And.intro (by omega) ?_ | refine Exists.intro _ (And.intro (by first | exact And.intro rfl rfl | exact Pl.den (by repeat constructor) | with_reducible rfl | exact cast_succ _ | assumption | exact (Int.toNat_of_nonneg (by omega)).symm | rfl) ?_) | refine hD _ _ ?_ | refine hL _ _ ?_ | (intro h; (try simp only [n1, n2, n3, n4, n5, n6] at h); first | (exfalso; omega) | (cases h; done) | skip)) <;> (conv => whnf))
      refine Exists.intro true (And.intro (same_pt t inf (t3 hf)) ?_)
      conv => whnf
      repeat' ((first | refine And.intro (by repeat' first | exact trivial | refine And.intro rfl ?_) (And.intro (by first | exact fun _ h => h | exact fun _ => List.mem_cons_of_mem _ | exact fun _ => List.mem_append_right _) ?_) | (refine And.intro (fun h => ?_) (fun h => ?_) <;> (try simp only [n1, n2, n3, n4, n5, n6] at h) <;> first | (exfalso; omega) | (cases h; done) | skip) | refine And.intro (by omega) ?_ | refine Exists.intro _ (And.intro (by first | exact And.intro rfl rfl | exact Pl.den (by repeat constructor) | with_reducible rfl | exact cast_succ _ | assumption | exact (Int.toNat_of_nonneg (by omega)).symm | rfl) ?_) | refine hD _ _ ?_ | refine hL _ _ ?_ | (intro h; (try simp only [n1, n2, n3, n4, n5, n6] at h); first | (exfalso; omega) | (cases h; done) | skip)) <;> (conv => whnf))
      exact Ret.noneS rfl (fun _ _ => rfl) (fun _ h => nomatch h)
end Go.Proofs.YtekgjjanikicnaaDoor.Sx
