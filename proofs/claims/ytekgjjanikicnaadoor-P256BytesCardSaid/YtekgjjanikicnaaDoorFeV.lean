/- Points out of bytes. -/
import Derived.Test.YtekgjjanikicnaaDoorFeU
namespace Go.Proofs.YtekgjjanikicnaaDoor.Sx
open Go Go.Proofs.YtekgjjanikicnaaDoor.Pm
set_option maxRecDepth 100000
set_option linter.unusedSimpArgs false
set_option linter.unusedVariables false

theorem leV_map (n : Nat) : ∀ k, leV ((List.range k).map (byt n)) = n % 256 ^ k
  | 0 => by simp [leV, Nat.mod_one]
  | k + 1 => by
    rw [List.range_succ, List.map_append, leV_append, leV_map n k, List.length_map, List.length_range]
    simp only [List.map_cons, List.map_nil, leV]
    rw [Nat.mod_pow_succ, Nat.mul_zero, Nat.add_zero]
    congr 2
    unfold byt
    simp [UInt8.toNat_ofNat']
theorem leV_le32 {n : Nat} (h : n < 115792089237316195423570985008687907853269984665640564039457584007913129639936) : leV (le32 n) = n := by
  unfold le32
  rw [leV_map]
  exact Nat.mod_eq_of_lt (Nat.lt_of_lt_of_le h (by decide))
theorem le32_leV {l : List UInt8} (h : l.length = 32) : le32 (leV l) = l := by
  apply List.ext_getElem?
  intro i
  by_cases hi : i < 32
  · rw [le32_get _ hi, List.getElem?_eq_getElem (by omega)]
    congr 1
    have e : l = l.take i ++ (l[i] :: l.drop (i + 1)) := by
      rw [← List.drop_eq_getElem_cons (by omega), List.take_append_drop]
    have hv : leV l = leV (l.take i) + 256 ^ i * (l[i].toNat + 256 * leV (l.drop (i + 1))) := by
      conv => lhs; rw [e]
      rw [leV_append, List.length_take, Nat.min_eq_left (by omega)]; rfl
    have hlt := leV_lt (l.take i)
    rw [List.length_take, Nat.min_eq_left (by omega)] at hlt
    unfold byt
    rw [hv, Nat.add_mul_div_left _ _ (Nat.pos_of_ne_zero (by simp)), Nat.div_eq_of_lt hlt, Nat.zero_add, Nat.add_mul_mod_self_left]
    have := l[i].toNat_lt
    rw [Nat.mod_eq_of_lt (by omega)]
    exact UInt8.ofNat_toNat
  · rw [List.getElem?_eq_none (by rw [le32_length]; omega), List.getElem?_eq_none (by omega)]
theorem be32_leV {l : List UInt8} (h : l.length = 32) : be32 (leV l.reverse) = l := by
  unfold be32
  rw [le32_leV (by rw [List.length_reverse, h]), List.reverse_reverse]
theorem leV_be32 {x : N4} (h : x.Ok) : leV (be32 x.val).reverse = x.val := by
  unfold be32
  rw [List.reverse_reverse, leV_le32 (N4.val_lt h)]
theorem encP_length (p : Pt4) : (encP p).length = 65 := by simp [encP, be32_length]
/-- What bytes are taken as. -/
def DecR (l : List UInt8) (r : Pt4 × Bool) : Prop :=
  (l = [0] ∧ r = (inf, true)) ∨ (l ≠ [0] ∧ (∀ p : Pt4, p.Ok → Formed p → p.n = false → l ≠ encP p) ∧ r = (inf, false)) ∨ ∃ p : Pt4, p.Ok ∧ Formed p ∧ p.n = false ∧ l = encP p ∧ r = (p, true)
theorem encP_inj {p q : Pt4} (hp : p.Ok) (hq : q.Ok) (hn : p.n = q.n) (h : encP p = encP q) : p = q := by
  have h0 : ([4] ++ be32 p.x.val) ++ be32 p.y.val = ([4] ++ be32 q.x.val) ++ be32 q.y.val := h
  obtain ⟨h1, h2⟩ := List.append_inj h0 (by simp [be32_length])
  have h3 := (List.append_inj h1 rfl).2
  have e1 : p.x.val = q.x.val := by rw [← leV_be32 hp.x, h3, leV_be32 hq.x]
  have e2 : p.y.val = q.y.val := by rw [← leV_be32 hp.y, h2, leV_be32 hq.y]
  exact Pt4.ext' (N4.ext hp.x hq.x e1) (N4.ext hp.y hq.y e2) hn
theorem encP_ne (p : Pt4) : encP p ≠ [0] := fun h => by have := congrArg List.length h; rw [encP_length] at this; exact absurd this (by decide)
theorem DecR.uniq {l : List UInt8} {r s : Pt4 × Bool} (h : DecR l r) (k : DecR l s) : r = s := by
  rcases h with ⟨h1, h2⟩ | ⟨h1, h2, h3⟩ | ⟨p, h1, h2, h3, h4, h5⟩ <;> rcases k with ⟨k1, k2⟩ | ⟨k1, k2, k3⟩ | ⟨q, k1, k2, k3, k4, k5⟩
  · rw [h2, k2]
  · exact absurd h1 k1
  · exact absurd (k4.symm.trans h1) (encP_ne q)
  · exact absurd k1 h1
  · rw [h3, k3]
  · exact absurd k4 (h2 q k1 k2 k3)
  · exact absurd (h4.symm.trans k1) (encP_ne p)
  · exact absurd h4 (k2 p h1 h2 h3)
  · rw [h5, k5, encP_inj h1 k1 (h3.trans k3.symm) (h4.symm.trans k4)]
/-- Sixty-five bytes, of which the first is 4: a point's. -/
theorem split65 {l : List UInt8} (hl : l.length = 65) (h4 : l[0]? = some 4) : l = [4] ++ (l.drop 1).take 32 ++ l.drop 33 ∧ ((l.drop 1).take 32).length = 32 ∧ (l.drop 33).length = 32 := by
  have q1 : ((l.drop 1).take 32).length = 32 := by rw [List.length_take, List.length_drop]; omega
  have q2 : (l.drop 33).length = 32 := by rw [List.length_drop]; omega
  refine ⟨?_, q1, q2⟩
  cases l with
  | nil => cases hl
  | cons c r =>
    obtain rfl : c = 4 := by simpa using h4
    have e : r = r.take 32 ++ r.drop 32 := (List.take_append_drop 32 r).symm
    simp only [List.drop_succ_cons, List.drop_zero, List.cons_append, List.nil_append]
    rw [← e]
/-- The numbers that stand in them. -/
theorem dec65 {l : List UInt8} (hl : l.length = 65) (h4 : l[0]? = some 4) {x y : N4} (hx : x.Ok) (hy : y.Ok) (ex : x.val = leV ((l.drop 1).take 32).reverse) (ey : y.val = leV (l.drop 33).reverse) : l = encP ⟨x, y, false⟩ := by
  obtain ⟨h1, h2, h3⟩ := split65 hl h4
  unfold encP
  simp only
  rw [ex, ey, be32_leV h2, be32_leV h3]
  exact h1
theorem dec_yes {l : List UInt8} {p : Pt4} (hp : p.Ok) (hf : Formed p) (hn : p.n = false) (h : l = encP p) : DecR l (p, true) := .inr (.inr ⟨p, hp, hf, hn, h, rfl⟩)
theorem dec_no {l : List UInt8} {p : Pt4} (hp : p.Ok) (hf : ¬ Formed p) (hn : p.n = false) (h : l = encP p) : DecR l (inf, false) :=
  .inr (.inl ⟨by rw [h]; exact encP_ne p, fun q hq hfq hnq e => hf (by rw [encP_inj hp hq (hn.trans hnq.symm) (h.symm.trans e)]; exact hfq), rfl⟩)
theorem dec_len {l : List UInt8} (h0 : l ≠ [0]) (h : l.length ≠ 65) : DecR l (inf, false) :=
  .inr (.inl ⟨h0, fun q _ _ _ e => h (by rw [e, encP_length]), rfl⟩)
theorem dec_head {l : List UInt8} (h0 : l ≠ [0]) {c : UInt8} (hc : l[0]? = some c) (h : c ≠ 4) : DecR l (inf, false) :=
  .inr (.inl ⟨h0, fun q _ _ _ e => h (by rw [e] at hc; exact (Option.some.inj hc).symm), rfl⟩)
set_option maxHeartbeats 2000000 in
theorem tDecode (fx : List Fact) (hg : glob ∈ fx) (A : Option Addr) (cap : Nat) (l : List UInt8) (hA : BytesAt fx A l) (hl : l.length < 1000) (hc : l.length ≤ cap) :
    Tri Tryd.prog 39 [.v (.slice A l.length cap)] [] 0 fx (RetE (α := Pt4 × Bool) 0 (fun r => r.1.Ok ∧ DecR l r) (fun r => .tup [ptS r.1, .v (.bool r.2)]) (fun _ => []) 0 (fun _ => [])) := by
  by_cases h1 : l.length = 1
  · obtain ⟨c, rfl⟩ : ∃ c, l = [c] := List.length_eq_one_iff.1 h1
    obtain ⟨ad, hAe, hF⟩ := hA.geti (i := 0) (c := c) rfl
    by_cases hc0 : c = 0
    · subst hc0
      refine Tri.of_code tok Tryd.func39 rfl rfl rfl (by decide) rfl (Nat.le_of_ble_eq_true rfl) ?_
      conv => whnf
      repeat' ((first | (refine Exists.intro ad (And.intro hAe ?_)) | (refine Exists.intro (bv 0) (And.intro (by rw [Nat.mul_one]; exact hF) ?_)) | refine And.intro (by repeat' first | exact trivial | refine And.intro rfl ?_) (And.intro (by first | exact fun _ h => h | exact fun _ => List.mem_cons_of_mem _ | exact fun _ => List.mem_append_right _) ?_) | (refine And.intro (fun h => ?_) (fun h => ?_) <;> (try simp only [n1, n2, n3, n4, n5, n6] at h) <;> first | (exfalso; omega) | (cases h; done) | skip) | refine And.intro (by omega) ?_ | refine Exists.intro _ (And.intro (by first | exact And.intro rfl rfl | exact Pl.den (by repeat constructor) | with_reducible rfl | exact cast_succ _ | assumption | exact (Int.toNat_of_nonneg (by omega)).symm | rfl) ?_) | refine hD _ _ ?_ | refine hL _ _ ?_ | (intro h; (try simp only [n1, n2, n3, n4, n5, n6] at h); first | (exfalso; omega) | (cases h; done) | skip)) <;> (conv => whnf))
      · exact ⟨(inf, true), ⟨inf_ok, .inl ⟨rfl, rfl⟩⟩, Ret.noneS rfl (fun _ _ => rfl) (fun _ h => nomatch h)⟩
      · rename_i hh; exact absurd rfl hh
    · have hne : c.toNat ≠ 0 := fun e => hc0 (UInt8.toNat_inj.1 e)
      refine Tri.of_code tok Tryd.func39 rfl rfl rfl (by decide) rfl (Nat.le_of_ble_eq_true rfl) ?_
      conv => whnf
      repeat' ((first | (refine Exists.intro ad (And.intro hAe ?_)) | (refine Exists.intro (bv c) (And.intro (by rw [Nat.mul_one]; exact hF) ?_)) | refine And.intro (by repeat' first | exact trivial | refine And.intro rfl ?_) (And.intro (by first | exact fun _ h => h | exact fun _ => List.mem_cons_of_mem _ | exact fun _ => List.mem_append_right _) ?_) | (refine And.intro (fun h => ?_) (fun h => ?_) <;> (try simp only [n1, n2, n3, n4, n5, n6] at h) <;> first | (exfalso; omega) | (cases h; done) | skip) | refine And.intro (by omega) ?_ | refine Exists.intro _ (And.intro (by first | exact And.intro rfl rfl | exact Pl.den (by repeat constructor) | with_reducible rfl | exact cast_succ _ | assumption | exact (Int.toNat_of_nonneg (by omega)).symm | rfl) ?_) | refine hD _ _ ?_ | refine hL _ _ ?_ | (intro h; (try simp only [n1, n2, n3, n4, n5, n6] at h); first | (exfalso; omega) | (cases h; done) | skip)) <;> (conv => whnf))
      exact ⟨(inf, false), ⟨inf_ok, dec_len (fun e => hc0 (by simpa using e)) (by simp)⟩, Ret.noneS rfl (fun _ _ => rfl) (fun _ h => nomatch h)⟩
  have h0 : l ≠ [0] := fun e => h1 (by rw [e]; rfl)
  by_cases h65 : l.length = 65
  · obtain ⟨c, hcl⟩ : ∃ c, l[0]? = some c := ⟨_, List.getElem?_eq_getElem (by omega)⟩
    obtain ⟨ad, hAe, hF⟩ := hA.geti hcl
    by_cases hc4 : c = 4
    · subst hc4
      obtain ⟨q0, q1, q2⟩ := split65 h65 hcl
      have b1 := tBig fx (Option.map (fun ad => if cap = 1 then ad else ad.add (1 * 1)) A) (cap - 1) ((l.drop 1).take 32) ((hA.cut 1 cap hc).take 32) q1 (by rw [q1]; omega)
      have b2 := tBig fx (Option.map (fun ad => if cap = 33 then ad else ad.add (33 * 1)) A) (cap - 33) (l.drop 33) (hA.cut 33 cap hc) q2 (by rw [q2]; omega)
      rw [h65]
      refine Tri.of_code tok Tryd.func39 rfl rfl rfl (by decide) rfl (Nat.le_of_ble_eq_true rfl) ?_
      conv => whnf
      repeat' ((first | (refine Exists.intro ad (And.intro hAe ?_)) | (refine Exists.intro (bv 4) (And.intro (by rw [Nat.mul_one]; exact hF) ?_)) | refine And.intro (by repeat' first | exact trivial | refine And.intro rfl ?_) (And.intro (by first | exact fun _ h => h | exact fun _ => List.mem_cons_of_mem _ | exact fun _ => List.mem_append_right _) ?_) | (refine And.intro (fun h => ?_) (fun h => ?_) <;> (try simp only [n1, n2, n3, n4, n5, n6] at h) <;> first | (exfalso; omega) | (cases h; done) | skip) | refine And.intro (by omega) ?_ | refine Exists.intro _ (And.intro (by first | exact And.intro rfl rfl | exact Pl.den (by repeat constructor) | with_reducible rfl | exact cast_succ _ | assumption | exact (Int.toNat_of_nonneg (by omega)).symm | rfl) ?_) | refine hD _ _ ?_ | refine hL _ _ ?_ | (intro h; (try simp only [n1, n2, n3, n4, n5, n6] at h); first | (exfalso; omega) | (cases h; done) | skip)) <;> (conv => whnf))
      · exact absurd rfl h
      refine Tri.use b1 [] rfl (fun _ _ _ => rfl) trivial (fun f hf => hf) fun x hx => ?_
      conv => whnf
      repeat' ((first | refine And.intro (by repeat' first | exact trivial | refine And.intro rfl ?_) (And.intro (by first | exact fun _ h => h | exact fun _ => List.mem_cons_of_mem _ | exact fun _ => List.mem_append_right _) ?_) | (refine And.intro (fun h => ?_) (fun h => ?_) <;> (try simp only [n1, n2, n3, n4, n5, n6] at h) <;> first | (exfalso; omega) | (cases h; done) | skip) | refine And.intro (by omega) ?_ | refine Exists.intro _ (And.intro (by first | exact And.intro rfl rfl | exact Pl.den (by repeat constructor) | with_reducible rfl | exact cast_succ _ | assumption | exact (Int.toNat_of_nonneg (by omega)).symm | rfl) ?_) | refine hD _ _ ?_ | refine hL _ _ ?_ | (intro h; (try simp only [n1, n2, n3, n4, n5, n6] at h); first | (exfalso; omega) | (cases h; done) | skip)) <;> (conv => whnf))
      refine Tri.use b2 [] rfl (fun _ _ _ => rfl) trivial (fun f hf => hf) fun y hy => ?_
      have el := dec65 h65 hcl hx.1 hy.1 hx.2 hy.2
      have po : Pt4.Ok ⟨x, y, false⟩ := ⟨hx.1, hy.1⟩
      by_cases hf : Formed ⟨x, y, false⟩
      · conv => whnf
        repeat' ((first | refine And.intro (by repeat' first | exact trivial | refine And.intro rfl ?_) (And.intro (by first | exact fun _ h => h | exact fun _ => List.mem_cons_of_mem _ | exact fun _ => List.mem_append_right _) ?_) | (refine And.intro (fun h => ?_) (fun h => ?_) <;> (try simp only [n1, n2, n3, n4, n5, n6] at h) <;> first | (exfalso; omega) | (cases h; done) | skip) | refine And.intro (by omega) ?_ | refine Exists.intro _ (And.intro (by first | exact And.intro rfl rfl | exact Pl.den (by repeat constructor) | with_reducible rfl | exact cast_succ _ | assumption | exact (Int.toNat_of_nonneg (by omega)).symm | rfl) ?_) | refine hD _ _ ?_ | refine hL _ _ ?_ | (intro h; (try simp only [n1, n2, n3, n4, n5, n6] at h); first | (exfalso; omega) | (cases h; done) | skip)) <;> (conv => whnf))
        refine Tri.use (formed_t fx hg ⟨x, y, false⟩ po hf) [] rfl (fun _ _ _ => rfl) trivial (fun f hf => by first | exact hf | cases hf) (fun u hu => ?_)
        conv => whnf
        repeat' ((first | refine And.intro (by repeat' first | exact trivial | refine And.intro rfl ?_) (And.intro (by first | exact fun _ h => h | exact fun _ => List.mem_cons_of_mem _ | exact fun _ => List.mem_append_right _) ?_) | (refine And.intro (fun h => ?_) (fun h => ?_) <;> (try simp only [n1, n2, n3, n4, n5, n6] at h) <;> first | (exfalso; omega) | (cases h; done) | skip) | refine And.intro (by omega) ?_ | refine Exists.intro _ (And.intro (by first | exact And.intro rfl rfl | exact Pl.den (by repeat constructor) | with_reducible rfl | exact cast_succ _ | assumption | exact (Int.toNat_of_nonneg (by omega)).symm | rfl) ?_) | refine hD _ _ ?_ | refine hL _ _ ?_ | (intro h; (try simp only [n1, n2, n3, n4, n5, n6] at h); first | (exfalso; omega) | (cases h; done) | skip)) <;> (conv => whnf))
        exact ⟨(⟨x, y, false⟩, true), ⟨po, dec_yes po hf rfl el⟩, Ret.noneS rfl (fun _ _ => rfl) (fun _ h => nomatch h)⟩
      · conv => whnf
        repeat' ((first | refine And.intro (by repeat' first | exact trivial | refine And.intro rfl ?_) (And.intro (by first | exact fun _ h => h | exact fun _ => List.mem_cons_of_mem _ | exact fun _ => List.mem_append_right _) ?_) | (refine And.intro (fun h => ?_) (fun h => ?_) <;> (try simp only [n1, n2, n3, n4, n5, n6] at h) <;> first | (exfalso; omega) | (cases h; done) | skip) | refine And.intro (by omega) ?_ | refine Exists.intro _ (And.intro (by first | exact And.intro rfl rfl | exact Pl.den (by repeat constructor) | with_reducible rfl | exact cast_succ _ | assumption | exact (Int.toNat_of_nonneg (by omega)).symm | rfl) ?_) | refine hD _ _ ?_ | refine hL _ _ ?_ | (intro h; (try simp only [n1, n2, n3, n4, n5, n6] at h); first | (exfalso; omega) | (cases h; done) | skip)) <;> (conv => whnf))
        refine Tri.use (formed_f fx hg ⟨x, y, false⟩ po hf) [] rfl (fun _ _ _ => rfl) trivial (fun f hf => by first | exact hf | cases hf) (fun u hu => ?_)
        conv => whnf
        repeat' ((first | refine And.intro (by repeat' first | exact trivial | refine And.intro rfl ?_) (And.intro (by first | exact fun _ h => h | exact fun _ => List.mem_cons_of_mem _ | exact fun _ => List.mem_append_right _) ?_) | (refine And.intro (fun h => ?_) (fun h => ?_) <;> (try simp only [n1, n2, n3, n4, n5, n6] at h) <;> first | (exfalso; omega) | (cases h; done) | skip) | refine And.intro (by omega) ?_ | refine Exists.intro _ (And.intro (by first | exact And.intro rfl rfl | exact Pl.den (by repeat constructor) | with_reducible rfl | exact cast_succ _ | assumption | exact (Int.toNat_of_nonneg (by omega)).symm | rfl) ?_) | refine hD _ _ ?_ | refine hL _ _ ?_ | (intro h; (try simp only [n1, n2, n3, n4, n5, n6] at h); first | (exfalso; omega) | (cases h; done) | skip)) <;> (conv => whnf))
        exact ⟨(inf, false), ⟨inf_ok, dec_no po hf rfl el⟩, Ret.noneS rfl (fun _ _ => rfl) (fun _ h => nomatch h)⟩
    · have hne : c.toNat ≠ 4 := fun e => hc4 (UInt8.toNat_inj.1 e)
      refine Tri.of_code tok Tryd.func39 rfl rfl rfl (by decide) rfl (Nat.le_of_ble_eq_true rfl) ?_
      conv => whnf
      repeat' ((first | (refine Exists.intro ad (And.intro hAe ?_)) | (refine Exists.intro (bv c) (And.intro (by rw [Nat.mul_one]; exact hF) ?_)) | refine And.intro (by repeat' first | exact trivial | refine And.intro rfl ?_) (And.intro (by first | exact fun _ h => h | exact fun _ => List.mem_cons_of_mem _ | exact fun _ => List.mem_append_right _) ?_) | (refine And.intro (fun h => ?_) (fun h => ?_) <;> (try simp only [n1, n2, n3, n4, n5, n6] at h) <;> first | (exfalso; omega) | (cases h; done) | skip) | refine And.intro (by omega) ?_ | refine Exists.intro _ (And.intro (by first | exact And.intro rfl rfl | exact Pl.den (by repeat constructor) | with_reducible rfl | exact cast_succ _ | assumption | exact (Int.toNat_of_nonneg (by omega)).symm | rfl) ?_) | refine hD _ _ ?_ | refine hL _ _ ?_ | (intro h; (try simp only [n1, n2, n3, n4, n5, n6] at h); first | (exfalso; omega) | (cases h; done) | skip)) <;> (conv => whnf))
      · exact ⟨(inf, false), ⟨inf_ok, dec_head h0 hcl hc4⟩, Ret.noneS rfl (fun _ _ => rfl) (fun _ h => nomatch h)⟩
  · refine Tri.of_code tok Tryd.func39 rfl rfl rfl (by decide) rfl (Nat.le_of_ble_eq_true rfl) ?_
    conv => whnf
    repeat' ((first | refine And.intro (by repeat' first | exact trivial | refine And.intro rfl ?_) (And.intro (by first | exact fun _ h => h | exact fun _ => List.mem_cons_of_mem _ | exact fun _ => List.mem_append_right _) ?_) | (refine And.intro (fun h => ?_) (fun h => ?_) <;> (try simp only [n1, n2, n3, n4, n5, n6] at h) <;> first | (exfalso; omega) | (cases h; done) | skip) | refine And.intro (by omega) ?_ | refine Exists.intro _ (And.intro (by first | exact And.intro rfl rfl | exact Pl.den (by repeat constructor) | with_reducible rfl | exact cast_succ _ | assumption | exact (Int.toNat_of_nonneg (by omega)).symm | rfl) ?_) | refine hD _ _ ?_ | refine hL _ _ ?_ | (intro h; (try simp only [n1, n2, n3, n4, n5, n6] at h); first | (exfalso; omega) | (cases h; done) | skip)) <;> (conv => whnf))
    exact ⟨(inf, false), ⟨inf_ok, dec_len h0 h65⟩, Ret.noneS rfl (fun _ _ => rfl) (fun _ h => nomatch h)⟩
set_option maxHeartbeats 2000000 in
theorem tRDecode (fx : List Fact) (hg : glob ∈ fx) (A : Option Addr) (cap : Nat) (l : List UInt8) (hA : BytesAt fx A l) (hl : l.length < 1000) (hc : l.length ≤ cap) :
    Tri Tryd.prog 40 [.v (.slice A l.length cap)] [] 0 fx (RetE (α := Pt4 × Bool) 0 (fun r => r.1.Ok ∧ DecR l r) (fun r => .tup [ptS r.1, .v (.bool r.2)]) (fun _ => []) 0 (fun _ => [])) := by
  by_cases h1 : l.length = 1
  · obtain ⟨c, rfl⟩ : ∃ c, l = [c] := List.length_eq_one_iff.1 h1
    obtain ⟨ad, hAe, hF⟩ := hA.geti (i := 0) (c := c) rfl
    by_cases hc0 : c = 0
    · subst hc0
      refine Tri.of_code tok Tryd.func40 rfl rfl rfl (by decide) rfl (Nat.le_of_ble_eq_true rfl) ?_
      conv => whnf
      repeat' ((first | (refine Exists.intro ad (And.intro hAe ?_)) | (refine Exists.intro (bv 0) (And.intro (by rw [Nat.mul_one]; exact hF) ?_)) | refine And.intro (by repeat' first | exact trivial | refine And.intro rfl ?_) (And.intro (by first | exact fun _ h => h | exact fun _ => List.mem_cons_of_mem _ | exact fun _ => List.mem_append_right _) ?_) | (refine And.intro (fun h => ?_) (fun h => ?_) <;> (try simp only [n1, n2, n3, n4, n5, n6] at h) <;> first | (exfalso; omega) | (cases h; done) | skip) | refine And.intro (by omega) ?_ | refine Exists.intro _ (And.intro (by first | exact And.intro rfl rfl | exact Pl.den (by repeat constructor) | with_reducible rfl | exact cast_succ _ | assumption | exact (Int.toNat_of_nonneg (by omega)).symm | rfl) ?_) | refine hD _ _ ?_ | refine hL _ _ ?_ | (intro h; (try simp only [n1, n2, n3, n4, n5, n6] at h); first | (exfalso; omega) | (cases h; done) | skip)) <;> (conv => whnf))
      · refine Tri.use ((tRNone fx).one) [] rfl (fun _ _ _ => rfl) trivial (fun f hf => by first | exact hf | cases hf) (fun u hu => ?_)
        conv => whnf
        repeat' ((first | refine And.intro (by repeat' first | exact trivial | refine And.intro rfl ?_) (And.intro (by first | exact fun _ h => h | exact fun _ => List.mem_cons_of_mem _ | exact fun _ => List.mem_append_right _) ?_) | (refine And.intro (fun h => ?_) (fun h => ?_) <;> (try simp only [n1, n2, n3, n4, n5, n6] at h) <;> first | (exfalso; omega) | (cases h; done) | skip) | refine And.intro (by omega) ?_ | refine Exists.intro _ (And.intro (by first | exact And.intro rfl rfl | exact Pl.den (by repeat constructor) | with_reducible rfl | exact cast_succ _ | assumption | exact (Int.toNat_of_nonneg (by omega)).symm | rfl) ?_) | refine hD _ _ ?_ | refine hL _ _ ?_ | (intro h; (try simp only [n1, n2, n3, n4, n5, n6] at h); first | (exfalso; omega) | (cases h; done) | skip)) <;> (conv => whnf))
        exact ⟨(inf, true), ⟨inf_ok, .inl ⟨rfl, rfl⟩⟩, Ret.noneS rfl (fun _ _ => rfl) (fun _ h => nomatch h)⟩
      · rename_i hh; exact absurd rfl hh
    · have hne : c.toNat ≠ 0 := fun e => hc0 (UInt8.toNat_inj.1 e)
      refine Tri.of_code tok Tryd.func40 rfl rfl rfl (by decide) rfl (Nat.le_of_ble_eq_true rfl) ?_
      conv => whnf
      repeat' ((first | (refine Exists.intro ad (And.intro hAe ?_)) | (refine Exists.intro (bv c) (And.intro (by rw [Nat.mul_one]; exact hF) ?_)) | refine And.intro (by repeat' first | exact trivial | refine And.intro rfl ?_) (And.intro (by first | exact fun _ h => h | exact fun _ => List.mem_cons_of_mem _ | exact fun _ => List.mem_append_right _) ?_) | (refine And.intro (fun h => ?_) (fun h => ?_) <;> (try simp only [n1, n2, n3, n4, n5, n6] at h) <;> first | (exfalso; omega) | (cases h; done) | skip) | refine And.intro (by omega) ?_ | refine Exists.intro _ (And.intro (by first | exact And.intro rfl rfl | exact Pl.den (by repeat constructor) | with_reducible rfl | exact cast_succ _ | assumption | exact (Int.toNat_of_nonneg (by omega)).symm | rfl) ?_) | refine hD _ _ ?_ | refine hL _ _ ?_ | (intro h; (try simp only [n1, n2, n3, n4, n5, n6] at h); first | (exfalso; omega) | (cases h; done) | skip)) <;> (conv => whnf))
      refine Tri.use ((tRNone fx).one) [] rfl (fun _ _ _ => rfl) trivial (fun f hf => by first | exact hf | cases hf) (fun u hu => ?_)
      conv => whnf
      repeat' ((first | refine And.intro (by repeat' first | exact trivial | refine And.intro rfl ?_) (And.intro (by first | exact fun _ h => h | exact fun _ => List.mem_cons_of_mem _ | exact fun _ => List.mem_append_right _) ?_) | (refine And.intro (fun h => ?_) (fun h => ?_) <;> (try simp only [n1, n2, n3, n4, n5, n6] at h) <;> first | (exfalso; omega) | (cases h; done) | skip) | refine And.intro (by omega) ?_ | refine Exists.intro _ (And.intro (by first | exact And.intro rfl rfl | exact Pl.den (by repeat constructor) | with_reducible rfl | exact cast_succ _ | assumption | exact (Int.toNat_of_nonneg (by omega)).symm | rfl) ?_) | refine hD _ _ ?_ | refine hL _ _ ?_ | (intro h; (try simp only [n1, n2, n3, n4, n5, n6] at h); first | (exfalso; omega) | (cases h; done) | skip)) <;> (conv => whnf))
      exact ⟨(inf, false), ⟨inf_ok, dec_len (fun e => hc0 (by simpa using e)) (by simp)⟩, Ret.noneS rfl (fun _ _ => rfl) (fun _ h => nomatch h)⟩
  have h0 : l ≠ [0] := fun e => h1 (by rw [e]; rfl)
  by_cases h65 : l.length = 65
  · obtain ⟨c, hcl⟩ : ∃ c, l[0]? = some c := ⟨_, List.getElem?_eq_getElem (by omega)⟩
    obtain ⟨ad, hAe, hF⟩ := hA.geti hcl
    have q1 : ((l.drop 1).take 32).length = 32 := by rw [List.length_take, List.length_drop]; omega
    have q2 : (l.drop 33).length = 32 := by rw [List.length_drop]; omega
    have b1 := tRBig fx (Option.map (fun ad => if cap = 1 then ad else ad.add (1 * 1)) A) (cap - 1) ((l.drop 1).take 32) ((hA.cut 1 cap hc).take 32) q1 (by omega)
    have b2 := tRBig fx (Option.map (fun ad => if cap = 33 then ad else ad.add (33 * 1)) A) (cap - 33) (l.drop 33) (hA.cut 33 cap hc) q2 (by omega)
    rw [h65]
    have hcn : (c.toNat = 4) ↔ c = 4 := ⟨fun e => UInt8.toNat_inj.1 e, fun e => by rw [e]; rfl⟩
    refine Tri.of_code tok Tryd.func40 rfl rfl rfl (by decide) rfl (Nat.le_of_ble_eq_true rfl) ?_
    conv => whnf
    repeat' ((first | refine And.intro (by repeat' first | exact trivial | refine And.intro rfl ?_) (And.intro (by first | exact fun _ h => h | exact fun _ => List.mem_cons_of_mem _ | exact fun _ => List.mem_append_right _) ?_) | (refine And.intro (fun h => ?_) (fun h => ?_) <;> (try simp only [n1, n2, n3, n4, n5, n6] at h) <;> first | (exfalso; omega) | (cases h; done) | skip) | refine And.intro (by omega) ?_ | refine Exists.intro _ (And.intro (by first | exact And.intro rfl rfl | exact Pl.den (by repeat constructor) | with_reducible rfl | exact cast_succ _ | assumption | exact (Int.toNat_of_nonneg (by omega)).symm | rfl) ?_) | refine hD _ _ ?_ | refine hL _ _ ?_ | (intro h; (try simp only [n1, n2, n3, n4, n5, n6] at h); first | (exfalso; omega) | (cases h; done) | skip)) <;> (conv => whnf))
    refine Tri.use b1 [] rfl (fun _ _ _ => rfl) trivial (fun f hf => hf) fun x hx => ?_
    conv => whnf
    repeat' ((first | refine And.intro (by repeat' first | exact trivial | refine And.intro rfl ?_) (And.intro (by first | exact fun _ h => h | exact fun _ => List.mem_cons_of_mem _ | exact fun _ => List.mem_append_right _) ?_) | (refine And.intro (fun h => ?_) (fun h => ?_) <;> (try simp only [n1, n2, n3, n4, n5, n6] at h) <;> first | (exfalso; omega) | (cases h; done) | skip) | refine And.intro (by omega) ?_ | refine Exists.intro _ (And.intro (by first | exact And.intro rfl rfl | exact Pl.den (by repeat constructor) | with_reducible rfl | exact cast_succ _ | assumption | exact (Int.toNat_of_nonneg (by omega)).symm | rfl) ?_) | refine hD _ _ ?_ | refine hL _ _ ?_ | (intro h; (try simp only [n1, n2, n3, n4, n5, n6] at h); first | (exfalso; omega) | (cases h; done) | skip)) <;> (conv => whnf))
    refine Tri.use b2 [] rfl (fun _ _ _ => rfl) trivial (fun f hf => hf) fun y hy => ?_
    have po : Pt4.Ok ⟨x, y, false⟩ := ⟨hx.1, hy.1⟩
    conv => whnf
    repeat' ((first | (refine Exists.intro ad (And.intro hAe ?_)) | (refine Exists.intro (bv c) (And.intro (by rw [Nat.mul_one]; exact hF) ?_)) | refine And.intro (by repeat' first | exact trivial | refine And.intro rfl ?_) (And.intro (by first | exact fun _ h => h | exact fun _ => List.mem_cons_of_mem _ | exact fun _ => List.mem_append_right _) ?_) | (refine And.intro (fun h => ?_) (fun h => ?_) <;> (try simp only [n1, n2, n3, n4, n5, n6] at h) <;> first | (exfalso; omega) | (cases h; done) | skip) | refine And.intro (by omega) ?_ | refine Exists.intro _ (And.intro (by first | exact And.intro rfl rfl | exact Pl.den (by repeat constructor) | with_reducible rfl | exact cast_succ _ | assumption | exact (Int.toNat_of_nonneg (by omega)).symm | rfl) ?_) | refine hD _ _ ?_ | refine hL _ _ ?_ | (intro h; (try simp only [n1, n2, n3, n4, n5, n6] at h); first | (exfalso; omega) | (cases h; done) | skip)) <;> (conv => whnf))
    · have hc4 : c ≠ 4 := fun e => by subst e; exact absurd rfl h
      refine Tri.use ((tRNone fx).one) [] rfl (fun _ _ _ => rfl) trivial (fun f hf => by first | exact hf | cases hf) (fun u hu => ?_)
      conv => whnf
      repeat' ((first | refine And.intro (by repeat' first | exact trivial | refine And.intro rfl ?_) (And.intro (by first | exact fun _ h => h | exact fun _ => List.mem_cons_of_mem _ | exact fun _ => List.mem_append_right _) ?_) | (refine And.intro (fun h => ?_) (fun h => ?_) <;> (try simp only [n1, n2, n3, n4, n5, n6] at h) <;> first | (exfalso; omega) | (cases h; done) | skip) | refine And.intro (by omega) ?_ | refine Exists.intro _ (And.intro (by first | exact And.intro rfl rfl | exact Pl.den (by repeat constructor) | with_reducible rfl | exact cast_succ _ | assumption | exact (Int.toNat_of_nonneg (by omega)).symm | rfl) ?_) | refine hD _ _ ?_ | refine hL _ _ ?_ | (intro h; (try simp only [n1, n2, n3, n4, n5, n6] at h); first | (exfalso; omega) | (cases h; done) | skip)) <;> (conv => whnf))
      exact ⟨(inf, false), ⟨inf_ok, dec_head h0 hcl hc4⟩, Ret.noneS rfl (fun _ _ => rfl) (fun _ h => nomatch h)⟩
    · obtain rfl : c = 4 := hcn.1 (by omega)
      have el := dec65 h65 hcl hx.1 hy.1 hx.2 hy.2
      by_cases hf : Formed ⟨x, y, false⟩
      · refine Tri.use (rformed_t fx hg ⟨x, y, false⟩ po hf) [] rfl (fun _ _ _ => rfl) trivial (fun f hf => by first | exact hf | cases hf) (fun u hu => ?_)
        conv => whnf
        repeat' ((first | refine And.intro (by repeat' first | exact trivial | refine And.intro rfl ?_) (And.intro (by first | exact fun _ h => h | exact fun _ => List.mem_cons_of_mem _ | exact fun _ => List.mem_append_right _) ?_) | (refine And.intro (fun h => ?_) (fun h => ?_) <;> (try simp only [n1, n2, n3, n4, n5, n6] at h) <;> first | (exfalso; omega) | (cases h; done) | skip) | refine And.intro (by omega) ?_ | refine Exists.intro _ (And.intro (by first | exact And.intro rfl rfl | exact Pl.den (by repeat constructor) | with_reducible rfl | exact cast_succ _ | assumption | exact (Int.toNat_of_nonneg (by omega)).symm | rfl) ?_) | refine hD _ _ ?_ | refine hL _ _ ?_ | (intro h; (try simp only [n1, n2, n3, n4, n5, n6] at h); first | (exfalso; omega) | (cases h; done) | skip)) <;> (conv => whnf))
        exact ⟨(⟨x, y, false⟩, true), ⟨po, dec_yes po hf rfl el⟩, Ret.noneS rfl (fun _ _ => rfl) (fun _ h => nomatch h)⟩
      · refine Tri.use (rformed_f fx hg ⟨x, y, false⟩ po hf) [] rfl (fun _ _ _ => rfl) trivial (fun f hf => by first | exact hf | cases hf) (fun u hu => ?_)
        conv => whnf
        repeat' ((first | refine And.intro (by repeat' first | exact trivial | refine And.intro rfl ?_) (And.intro (by first | exact fun _ h => h | exact fun _ => List.mem_cons_of_mem _ | exact fun _ => List.mem_append_right _) ?_) | (refine And.intro (fun h => ?_) (fun h => ?_) <;> (try simp only [n1, n2, n3, n4, n5, n6] at h) <;> first | (exfalso; omega) | (cases h; done) | skip) | refine And.intro (by omega) ?_ | refine Exists.intro _ (And.intro (by first | exact And.intro rfl rfl | exact Pl.den (by repeat constructor) | with_reducible rfl | exact cast_succ _ | assumption | exact (Int.toNat_of_nonneg (by omega)).symm | rfl) ?_) | refine hD _ _ ?_ | refine hL _ _ ?_ | (intro h; (try simp only [n1, n2, n3, n4, n5, n6] at h); first | (exfalso; omega) | (cases h; done) | skip)) <;> (conv => whnf))
        refine Tri.use ((tRNone fx).one) [] rfl (fun _ _ _ => rfl) trivial (fun f hf => by first | exact hf | cases hf) (fun u hu => ?_)
        conv => whnf
        repeat' ((first | refine And.intro (by repeat' first | exact trivial | refine And.intro rfl ?_) (And.intro (by first | exact fun _ h => h | exact fun _ => List.mem_cons_of_mem _ | exact fun _ => List.mem_append_right _) ?_) | (refine And.intro (fun h => ?_) (fun h => ?_) <;> (try simp only [n1, n2, n3, n4, n5, n6] at h) <;> first | (exfalso; omega) | (cases h; done) | skip) | refine And.intro (by omega) ?_ | refine Exists.intro _ (And.intro (by first | exact And.intro rfl rfl | exact Pl.den (by repeat constructor) | with_reducible rfl | exact cast_succ _ | assumption | exact (Int.toNat_of_nonneg (by omega)).symm | rfl) ?_) | refine hD _ _ ?_ | refine hL _ _ ?_ | (intro h; (try simp only [n1, n2, n3, n4, n5, n6] at h); first | (exfalso; omega) | (cases h; done) | skip)) <;> (conv => whnf))
        exact ⟨(inf, false), ⟨inf_ok, dec_no po hf rfl el⟩, Ret.noneS rfl (fun _ _ => rfl) (fun _ h => nomatch h)⟩
  · refine Tri.of_code tok Tryd.func40 rfl rfl rfl (by decide) rfl (Nat.le_of_ble_eq_true rfl) ?_
    conv => whnf
    repeat' ((first | refine And.intro (by repeat' first | exact trivial | refine And.intro rfl ?_) (And.intro (by first | exact fun _ h => h | exact fun _ => List.mem_cons_of_mem _ | exact fun _ => List.mem_append_right _) ?_) | (refine And.intro (fun h => ?_) (fun h => ?_) <;> (try simp only [n1, n2, n3, n4, n5, n6] at h) <;> first | (exfalso; omega) | (cases h; done) | skip) | refine And.intro (by omega) ?_ | refine Exists.intro _ (And.intro (by first | exact And.intro rfl rfl | exact Pl.den (by repeat constructor) | with_reducible rfl | exact cast_succ _ | assumption | exact (Int.toNat_of_nonneg (by omega)).symm | rfl) ?_) | refine hD _ _ ?_ | refine hL _ _ ?_ | (intro h; (try simp only [n1, n2, n3, n4, n5, n6] at h); first | (exfalso; omega) | (cases h; done) | skip)) <;> (conv => whnf))
    refine Tri.use ((tRNone fx).one) [] rfl (fun _ _ _ => rfl) trivial (fun f hf => by first | exact hf | cases hf) (fun u hu => ?_)
    conv => whnf
    repeat' ((first | refine And.intro (by repeat' first | exact trivial | refine And.intro rfl ?_) (And.intro (by first | exact fun _ h => h | exact fun _ => List.mem_cons_of_mem _ | exact fun _ => List.mem_append_right _) ?_) | (refine And.intro (fun h => ?_) (fun h => ?_) <;> (try simp only [n1, n2, n3, n4, n5, n6] at h) <;> first | (exfalso; omega) | (cases h; done) | skip) | refine And.intro (by omega) ?_ | refine Exists.intro _ (And.intro (by first | exact And.intro rfl rfl | exact Pl.den (by repeat constructor) | with_reducible rfl | exact cast_succ _ | assumption | exact (Int.toNat_of_nonneg (by omega)).symm | rfl) ?_) | refine hD _ _ ?_ | refine hL _ _ ?_ | (intro h; (try simp only [n1, n2, n3, n4, n5, n6] at h); first | (exfalso; omega) | (cases h; done) | skip)) <;> (conv => whnf))
    exact ⟨(inf, false), ⟨inf_ok, dec_len h0 h65⟩, Ret.noneS rfl (fun _ _ => rfl) (fun _ h => nomatch h)⟩
end Go.Proofs.YtekgjjanikicnaaDoor.Sx
