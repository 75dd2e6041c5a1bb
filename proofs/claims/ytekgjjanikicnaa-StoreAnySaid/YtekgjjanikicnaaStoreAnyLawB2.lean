/- Lemmas of this proof, part 2: 12 texts joined. -/
import Derived.Test.YtekgjjanikicnaaStoreAnyLawB1
import Derived.Test.YtekgjjanikicnaaSxP
import Derived.Test.YtekgjjanikicnaaSxW
import Derived.Test.YtekgjjanikicnaaSxN
import Derived.Test.YtekgjjanikicnaaSxS
namespace Go.Proofs.Ytekgjjanikicnaa.Sx
open Go
set_option maxRecDepth 100000
set_option linter.unusedSimpArgs false
set_option linter.unusedVariables false

structure Rd3 where
  b0 : Nat
  s0 : List Value
  b1 : Nat
  s1 : List Value
  b2 : Nat
  s2 : List Value
def Rd3.f (d : DS) (p : Nat) (r : Rd3) : List Fact := [rowFact r.b2 ((d.get (p + 2)).map bv ++ r.s2) 5, rowFact r.b1 ((d.get (p + 1)).map bv ++ r.s1) 5, rowFact r.b0 ((d.get p).map bv ++ r.s0) 5]
def Rd3.v (r : Rd3) : SV := .agg [.v (.slice (some ⟨r.b0, 0, none⟩) 64 (64 + r.s0.length)), .v (.slice (some ⟨r.b1, 0, none⟩) 64 (64 + r.s1.length)), .v (.slice (some ⟨r.b2, 0, none⟩) 64 (64 + r.s2.length))]
theorem tMread (fx : List Fact) (d : DS) (hd : d.Ok) (h : d.down = false) (p : Nat) (hp : p + 2 < d.l.length) :
    Tri Try.prog 73 [.p 0 0, .v (.int .i64 p)] [dsk 0 d] 1 fx (RetE (α := Rd3) 1 (fun _ => True) (fun x => .tup [x.v, .k .i64 0]) (fun _ => [dsk 0 d]) 1 (fun x => x.f d p)) := by
  have hlen := hd.len
  refine Tri.of_code tok Try.func73 rfl rfl rfl (by decide) rfl (Nat.le_of_ble_eq_true rfl) ?_
  conv => whnf
  repeat' ((first | refine w1 (h := ?_) | refine w2 ?_ ?_ | refine w3 (h := ?_) | refine w4 (h := ?_) | refine hD _ _ ?_ | refine hL _ _ ?_ | (intro h; (try simp only [n1, n2, n3, n4, n5, n6] at h); first | (exfalso; omega) | (cases h; done) | skip)) <;> (conv => whnf))
  refine loop_rounds 4 (round_next tok ?_)
  conv => whnf
  repeat' ((first | refine w1 (h := ?_) | refine w2 ?_ ?_ | refine w3 (h := ?_) | refine w4 (h := ?_) | refine hD _ _ ?_ | refine hL _ _ ?_ | (intro h; (try simp only [n1, n2, n3, n4, n5, n6] at h); first | (exfalso; omega) | (cases h; done) | skip)) <;> (conv => whnf))
  refine Tri.use (tReadF fx d hd h p (by omega)) [0] rfl (args_cons (SEq.ren rfl rfl) (fun _ _ _ => by simp [denL, den])) ⟨OSub.ren rfl rfl, trivial⟩ (fun f hf => hf) fun u hu => ?_
  obtain ⟨b0, s0⟩ := u
  conv => whnf
  repeat' ((first | refine w1 (h := ?_) | refine w2 ?_ ?_ | refine w3 (h := ?_) | refine w4 (h := ?_) | refine hD _ _ ?_ | refine hL _ _ ?_ | (intro h; (try simp only [n1, n2, n3, n4, n5, n6] at h); first | (exfalso; omega) | (cases h; done) | skip)) <;> (conv => whnf))
  refine round_next tok ?_
  conv => whnf
  repeat' ((first | refine w1 (h := ?_) | refine w2 ?_ ?_ | refine w3 (h := ?_) | refine w4 (h := ?_) | refine hD _ _ ?_ | refine hL _ _ ?_ | (intro h; (try simp only [n1, n2, n3, n4, n5, n6] at h); first | (exfalso; omega) | (cases h; done) | skip)) <;> (conv => whnf))
  refine Tri.use (tReadF (rowFact b0 ((d.get p).map bv ++ s0) 5 :: fx) d hd h (p + 1) (by omega)) [0] rfl (args_cons (SEq.ren rfl rfl) (fun _ _ _ => by simp [denL, den])) ⟨OSub.ren rfl rfl, trivial⟩ (fun f hf => hf) fun u hu => ?_
  obtain ⟨b1, s1⟩ := u
  conv => whnf
  repeat' ((first | refine w1 (h := ?_) | refine w2 ?_ ?_ | refine w3 (h := ?_) | refine w4 (h := ?_) | refine hD _ _ ?_ | refine hL _ _ ?_ | (intro h; (try simp only [n1, n2, n3, n4, n5, n6] at h); first | (exfalso; omega) | (cases h; done) | skip)) <;> (conv => whnf))
  refine round_next tok ?_
  conv => whnf
  repeat' ((first | refine w1 (h := ?_) | refine w2 ?_ ?_ | refine w3 (h := ?_) | refine w4 (h := ?_) | refine hD _ _ ?_ | refine hL _ _ ?_ | (intro h; (try simp only [n1, n2, n3, n4, n5, n6] at h); first | (exfalso; omega) | (cases h; done) | skip)) <;> (conv => whnf))
  refine Tri.use (tReadF (rowFact b1 ((d.get (p + 1)).map bv ++ s1) 5 :: rowFact b0 ((d.get p).map bv ++ s0) 5 :: fx) d hd h (p + 2) (by omega)) [0] rfl (args_cons (SEq.ren rfl rfl) (fun _ _ _ => by simp [denL, den])) ⟨OSub.ren rfl rfl, trivial⟩ (fun f hf => hf) fun u hu => ?_
  obtain ⟨b2, s2⟩ := u
  conv => whnf
  repeat' ((first | refine w1 (h := ?_) | refine w2 ?_ ?_ | refine w3 (h := ?_) | refine w4 (h := ?_) | refine hD _ _ ?_ | refine hL _ _ ?_ | (intro h; (try simp only [n1, n2, n3, n4, n5, n6] at h); first | (exfalso; omega) | (cases h; done) | skip)) <;> (conv => whnf))
  refine round_next tok ?_
  conv => whnf
  repeat' ((first | refine w1 (h := ?_) | refine w2 ?_ ?_ | refine w3 (h := ?_) | refine w4 (h := ?_) | refine hD _ _ ?_ | refine hL _ _ ?_ | (intro h; (try simp only [n1, n2, n3, n4, n5, n6] at h); first | (exfalso; omega) | (cases h; done) | skip)) <;> (conv => whnf))
  exact ⟨⟨b0, s0, b1, s1, b2, s2⟩, trivial, Ret.mk [0] [dsk 0 d] (Fold.drop1 (by repeat first | exact List.mem_cons_self .. | apply List.mem_cons_of_mem)) rfl (fun _ _ _ => rfl) ⟨OSub.ren rfl rfl, trivial⟩ (fun g hg => List.mem_append_left fx hg)⟩
theorem lerr_down {d : DS} (h : d.down = true) (at_ : Int) : d.lerr at_ = 6 := by simp [DS.lerr, DS.rerr, h]
theorem lerr0 {d : DS} (h : d.down = false) {at_ : Int} (h0 : d.inb at_ = false) : d.lerr at_ = 3 := by simp [DS.lerr, DS.rerr, h, h0]
theorem lerr1 {d : DS} (h : d.down = false) {at_ : Int} (h1 : d.inb at_ = true) (h0 : d.inb (at_ + 1) = false) : d.lerr at_ = 3 := by simp [DS.lerr, DS.rerr, h, h0, h1]
theorem lerr2 {d : DS} (h : d.down = false) {at_ : Int} (h1 : d.inb at_ = true) (h2 : d.inb (at_ + 1) = true) (h0 : d.inb (at_ + 2) = false) : d.lerr at_ = 3 := by simp [DS.lerr, DS.rerr, h, h0, h1, h2]
theorem inb_iff {d : DS} {i : Int} : d.inb i = true ↔ 0 ≤ i ∧ i < (d.l.length : Int) := by simp [DS.inb]
theorem inb_not {d : DS} {i : Int} : d.inb i = false ↔ ¬ (0 ≤ i ∧ i < (d.l.length : Int)) := by simp [DS.inb]
theorem nil3_ok {a b c : Value} (ha : a.oneCell' = true) (hb : b.oneCell' = true) (hc : c.oneCell' = true) : aggOk #[a, b, c] 3 := ⟨rfl, fun u hu => by
  simp only [List.mem_cons, List.not_mem_nil, or_false] at hu
  rcases hu with rfl | rfl | rfl <;> assumption⟩
theorem tMreadErr (fx : List Fact) (d : DS) (hd : d.Ok) (at_ : Int) (ha : -1000000 ≤ at_ ∧ at_ ≤ 1000000) (he : d.lerr at_ ≠ 0) :
    Tri Try.prog 73 [.p 0 0, .v (.int .i64 at_)] [dsk 0 d] 1 fx (RetE (α := Array Value) 1 (fun x => aggOk x 3) (fun x => .tup [.v (.agg x), .v (.int .i64 (d.lerr at_))]) (fun _ => [dsk 0 d]) 1 (fun _ => [])) := by
  have hlen := hd.len
  refine Tri.of_code tok Try.func73 rfl rfl rfl (by decide) rfl (Nat.le_of_ble_eq_true rfl) ?_
  conv => whnf
  repeat' ((first | refine w1 (h := ?_) | refine w2 ?_ ?_ | refine w3 (h := ?_) | refine w4 (h := ?_) | refine hD _ _ ?_ | refine hL _ _ ?_ | (intro h; (try simp only [n1, n2, n3, n4, n5, n6] at h); first | (exfalso; omega) | (cases h; done) | skip)) <;> (conv => whnf))
  refine loop_rounds 4 (round_next tok ?_)
  conv => whnf
  repeat' ((first | refine w1 (h := ?_) | refine w2 ?_ ?_ | refine w3 (h := ?_) | refine w4 (h := ?_) | refine hD _ _ ?_ | refine hL _ _ ?_ | (intro h; (try simp only [n1, n2, n3, n4, n5, n6] at h); first | (exfalso; omega) | (cases h; done) | skip)) <;> (conv => whnf))
  cases h : d.down with
  | true =>
    rw [lerr_down h]
    refine Tri.use (tReadLost fx d hd h at_) [0] rfl (args_cons (SEq.ren rfl rfl) (fun _ _ _ => by simp [denL, den])) ⟨OSub.ren rfl rfl, trivial⟩ (fun f hf => hf) fun u hu => ?_
    conv => whnf
    repeat' ((first | refine w1 (h := ?_) | refine w2 ?_ ?_ | refine w3 (h := ?_) | refine w4 (h := ?_) | refine hD _ _ ?_ | refine hL _ _ ?_ | (intro h; (try simp only [n1, n2, n3, n4, n5, n6] at h); first | (exfalso; omega) | (cases h; done) | skip)) <;> (conv => whnf))
    exact ⟨#[.slice none 0 0, .slice none 0 0, .slice none 0 0], nil3_ok rfl rfl rfl, Ret.mk [0] [dsk 0 d] (Fold.drop1 (by repeat first | exact List.mem_cons_self .. | apply List.mem_cons_of_mem)) rfl (fun _ _ _ => rfl) ⟨OSub.ren rfl rfl, trivial⟩ (fun _ h => nomatch h)⟩
  | false =>
    cases h0 : d.inb at_ with
    | false =>
      rw [lerr0 h h0]
      refine Tri.use (tReadOut fx d hd h at_ (inb_not.1 h0)) [0] rfl (args_cons (SEq.ren rfl rfl) (fun _ _ _ => by simp [denL, den])) ⟨OSub.ren rfl rfl, trivial⟩ (fun f hf => hf) fun u hu => ?_
      conv => whnf
      repeat' ((first | refine w1 (h := ?_) | refine w2 ?_ ?_ | refine w3 (h := ?_) | refine w4 (h := ?_) | refine hD _ _ ?_ | refine hL _ _ ?_ | (intro h; (try simp only [n1, n2, n3, n4, n5, n6] at h); first | (exfalso; omega) | (cases h; done) | skip)) <;> (conv => whnf))
      exact ⟨#[.slice none 0 0, .slice none 0 0, .slice none 0 0], nil3_ok rfl rfl rfl, Ret.mk [0] [dsk 0 d] (Fold.drop1 (by repeat first | exact List.mem_cons_self .. | apply List.mem_cons_of_mem)) rfl (fun _ _ _ => rfl) ⟨OSub.ren rfl rfl, trivial⟩ (fun _ h => nomatch h)⟩
    | true =>
      obtain ⟨p, rfl⟩ : ∃ p : Nat, at_ = (p : Int) := ⟨at_.toNat, by have := inb_iff.1 h0; omega⟩
      have hp := (inb_iff.1 h0).2
      refine Tri.use (tReadF fx d hd h p (by omega)) [0] rfl (args_cons (SEq.ren rfl rfl) (fun _ _ _ => by simp [denL, den])) ⟨OSub.ren rfl rfl, trivial⟩ (fun f hf => hf) fun u hu => ?_
      obtain ⟨b0, s0⟩ := u
      conv => whnf
      repeat' ((first | refine w1 (h := ?_) | refine w2 ?_ ?_ | refine w3 (h := ?_) | refine w4 (h := ?_) | refine hD _ _ ?_ | refine hL _ _ ?_ | (intro h; (try simp only [n1, n2, n3, n4, n5, n6] at h); first | (exfalso; omega) | (cases h; done) | skip)) <;> (conv => whnf))
      refine round_next tok ?_
      conv => whnf
      repeat' ((first | refine w1 (h := ?_) | refine w2 ?_ ?_ | refine w3 (h := ?_) | refine w4 (h := ?_) | refine hD _ _ ?_ | refine hL _ _ ?_ | (intro h; (try simp only [n1, n2, n3, n4, n5, n6] at h); first | (exfalso; omega) | (cases h; done) | skip)) <;> (conv => whnf))
      cases h1 : d.inb ((p : Int) + 1) with
      | false =>
        rw [lerr1 h h0 h1]
        refine Tri.use (tReadOut _ d hd h ((p : Int) + 1) (inb_not.1 h1)) [0] rfl (args_cons (SEq.ren rfl rfl) (fun _ _ _ => by simp [denL, den])) ⟨OSub.ren rfl rfl, trivial⟩ (fun f hf => hf) fun u hu => ?_
        conv => whnf
        repeat' ((first | refine w1 (h := ?_) | refine w2 ?_ ?_ | refine w3 (h := ?_) | refine w4 (h := ?_) | refine hD _ _ ?_ | refine hL _ _ ?_ | (intro h; (try simp only [n1, n2, n3, n4, n5, n6] at h); first | (exfalso; omega) | (cases h; done) | skip)) <;> (conv => whnf))
        exact ⟨#[.slice (some ⟨b0, 0, none⟩) 64 (64 + s0.length), .slice none 0 0, .slice none 0 0], nil3_ok rfl rfl rfl, Ret.mk [0] [dsk 0 d] (Fold.drop1 (by repeat first | exact List.mem_cons_self .. | apply List.mem_cons_of_mem)) rfl (fun _ _ _ => rfl) ⟨OSub.ren rfl rfl, trivial⟩ (fun _ h => nomatch h)⟩
      | true =>
        have hp1 := (inb_iff.1 h1).2
        refine Tri.use (tReadF (rowFact b0 ((d.get p).map bv ++ s0) 5 :: fx) d hd h (p + 1) (by omega)) [0] rfl (args_cons (SEq.ren rfl rfl) (fun _ _ _ => by simp [denL, den])) ⟨OSub.ren rfl rfl, trivial⟩ (fun f hf => hf) fun u hu => ?_
        obtain ⟨b1, s1⟩ := u
        conv => whnf
        repeat' ((first | refine w1 (h := ?_) | refine w2 ?_ ?_ | refine w3 (h := ?_) | refine w4 (h := ?_) | refine hD _ _ ?_ | refine hL _ _ ?_ | (intro h; (try simp only [n1, n2, n3, n4, n5, n6] at h); first | (exfalso; omega) | (cases h; done) | skip)) <;> (conv => whnf))
        refine round_next tok ?_
        conv => whnf
        repeat' ((first | refine w1 (h := ?_) | refine w2 ?_ ?_ | refine w3 (h := ?_) | refine w4 (h := ?_) | refine hD _ _ ?_ | refine hL _ _ ?_ | (intro h; (try simp only [n1, n2, n3, n4, n5, n6] at h); first | (exfalso; omega) | (cases h; done) | skip)) <;> (conv => whnf))
        cases h2 : d.inb ((p : Int) + 2) with
        | false =>
          rw [lerr2 h h0 h1 h2]
          refine Tri.use (tReadOut _ d hd h ((p : Int) + 2) (inb_not.1 h2)) [0] rfl (args_cons (SEq.ren rfl rfl) (fun _ _ _ => by simp [denL, den])) ⟨OSub.ren rfl rfl, trivial⟩ (fun f hf => hf) fun u hu => ?_
          conv => whnf
          repeat' ((first | refine w1 (h := ?_) | refine w2 ?_ ?_ | refine w3 (h := ?_) | refine w4 (h := ?_) | refine hD _ _ ?_ | refine hL _ _ ?_ | (intro h; (try simp only [n1, n2, n3, n4, n5, n6] at h); first | (exfalso; omega) | (cases h; done) | skip)) <;> (conv => whnf))
          exact ⟨#[.slice (some ⟨b0, 0, none⟩) 64 (64 + s0.length), .slice (some ⟨b1, 0, none⟩) 64 (64 + s1.length), .slice none 0 0], nil3_ok rfl rfl rfl, Ret.mk [0] [dsk 0 d] (Fold.drop1 (by repeat first | exact List.mem_cons_self .. | apply List.mem_cons_of_mem)) rfl (fun _ _ _ => rfl) ⟨OSub.ren rfl rfl, trivial⟩ (fun _ h => nomatch h)⟩
        | true => exact absurd (by simp [DS.lerr, DS.rerr, h, h0, h1, h2]) he
structure VlA where
  A : Option Addr
  cap : Nat
theorem tValue (fx : List Fact) (A B C : Option Addr) (ca cb cc : Nat) (a b c : List UInt8) (hA : BytesAt fx A a) (hB : BytesAt fx B b) (hC : BytesAt fx C c) (ha : a.length = 64) (hb : b.length = 64) (hc : c.length = 64) :
    Tri Try.prog 74 [.agg [.v (.slice A 64 ca), .v (.slice B 64 cb), .v (.slice C 64 cc)]] [] 0 fx (RetE (α := VlA) 0 (fun x => BytesAt fx x.A (val3 a b c)) (fun x => .v (.slice x.A 64 x.cap)) (fun _ => []) 0 (fun _ => [])) := by
  refine Tri.of_code tok Try.func74 rfl rfl rfl (by decide) rfl (Nat.le_of_ble_eq_true rfl) ?_
  conv => whnf
  repeat' ((first | refine w1 (h := ?_) | refine w2 ?_ ?_ | refine w3 (h := ?_) | refine w4 (h := ?_) | refine hD _ _ ?_ | refine hL _ _ ?_ | (intro h; (try simp only [n1, n2, n3, n4, n5, n6] at h); first | (exfalso; omega) | (cases h; done) | skip)) <;> (conv => whnf))
  have t := tEqual fx B C cb cc b c hB hC (by omega)
  rw [hb, hc] at t
  refine Tri.use t [] rfl (args_ren rfl rfl) trivial (fun f hf => by first | exact hf | cases hf | simp_all) (fun u hu => ?_)
  conv => whnf
  repeat' ((first | refine w1 (h := ?_) | refine w2 ?_ ?_ | refine w3 (h := ?_) | refine w4 (h := ?_) | refine hD _ _ ?_ | refine hL _ _ ?_ | (intro h; (try simp only [n1, n2, n3, n4, n5, n6] at h); first | (exfalso; omega) | (cases h; done) | skip)) <;> (conv => whnf))
  · exact ⟨⟨C, cc⟩, by simp only [val3]; rw [if_pos (by assumption)]; exact hC, Ret.noneS rfl (fun _ _ => rfl) (fun _ h => nomatch h)⟩
  · exact ⟨⟨A, ca⟩, by simp only [val3]; rw [if_neg (by assumption)]; exact hA, Ret.noneS rfl (fun _ _ => rfl) (fun _ h => nomatch h)⟩
theorem Rd3.at0 {d : DS} {p : Nat} {fx : List Fact} (r : Rd3) : BytesAt (r.f d p ++ fx) (some ⟨r.b0, 0, none⟩) (d.get p) := BytesAt.row (xs := (d.get p).map bv ++ r.s0) (T := 5) (by simp [Rd3.f]) (by rw [List.drop_zero, List.take_left' (by simp)])
theorem Rd3.at1 {d : DS} {p : Nat} {fx : List Fact} (r : Rd3) : BytesAt (r.f d p ++ fx) (some ⟨r.b1, 0, none⟩) (d.get (p + 1)) := BytesAt.row (xs := (d.get (p + 1)).map bv ++ r.s1) (T := 5) (by simp [Rd3.f]) (by rw [List.drop_zero, List.take_left' (by simp)])
theorem Rd3.at2 {d : DS} {p : Nat} {fx : List Fact} (r : Rd3) : BytesAt (r.f d p ++ fx) (some ⟨r.b2, 0, none⟩) (d.get (p + 2)) := BytesAt.row (xs := (d.get (p + 2)).map bv ++ r.s2) (T := 5) (by simp [Rd3.f]) (by rw [List.drop_zero, List.take_left' (by simp)])
theorem tLoad (fx : List Fact) (d : DS) (hd : d.Ok) (h : d.down = false) (p : Nat) (hp : p + 2 < d.l.length) :
    Tri Try.prog 44 [.p 0 0, .v (.int .i64 p)] [dsk 0 d] 1 fx (RetE (α := Rd3 × VlA) 1 (fun x => BytesAt (x.1.f d p ++ fx) x.2.A (d.val p)) (fun x => .tup [.v (.slice x.2.A 64 x.2.cap), .k .i64 0]) (fun _ => [dsk 0 d]) 1 (fun x => x.1.f d p)) := by
  refine Tri.of_code tok Try.func44 rfl rfl rfl (by decide) rfl (Nat.le_of_ble_eq_true rfl) ?_
  conv => whnf
  repeat' ((first | refine w1 (h := ?_) | refine w2 ?_ ?_ | refine w3 (h := ?_) | refine w4 (h := ?_) | refine hD _ _ ?_ | refine hL _ _ ?_ | (intro h; (try simp only [n1, n2, n3, n4, n5, n6] at h); first | (exfalso; omega) | (cases h; done) | skip)) <;> (conv => whnf))
  refine Tri.use (tMread fx d hd h p hp) [0] rfl (args_ren rfl rfl) ⟨OSub.ren rfl rfl, trivial⟩ (fun f hf => by first | exact hf | cases hf | simp_all) (fun u hu => ?_)
  conv => whnf
  repeat' ((first | refine w1 (h := ?_) | refine w2 ?_ ?_ | refine w3 (h := ?_) | refine w4 (h := ?_) | refine hD _ _ ?_ | refine hL _ _ ?_ | (intro h; (try simp only [n1, n2, n3, n4, n5, n6] at h); first | (exfalso; omega) | (cases h; done) | skip)) <;> (conv => whnf))
  refine Tri.use (tValue _ _ _ _ _ _ _ _ _ _ (Rd3.at0 (d := d) (p := p) (fx := fx) u) u.at1 u.at2 (hd.get_length (by omega)) (hd.get_length (by omega)) (hd.get_length (by omega))) [] rfl (fun _ _ _ => rfl) trivial (fun f hf => hf) fun x hx => ?_
  conv => whnf
  repeat' ((first | refine w1 (h := ?_) | refine w2 ?_ ?_ | refine w3 (h := ?_) | refine w4 (h := ?_) | refine hD _ _ ?_ | refine hL _ _ ?_ | (intro h; (try simp only [n1, n2, n3, n4, n5, n6] at h); first | (exfalso; omega) | (cases h; done) | skip)) <;> (conv => whnf))
  exact ⟨(u, x), by rw [val_nat]; exact hx, Ret.mk [0] [dsk 0 d] (Fold.drop1 (by repeat first | exact List.mem_cons_self .. | apply List.mem_cons_of_mem)) rfl (fun _ _ _ => rfl) ⟨OSub.ren rfl rfl, trivial⟩ (fun g hg => List.mem_append_left fx hg)⟩
/-- The same; with what room there is. -/
theorem tValueC (fx : List Fact) (A B C : Option Addr) (ca cb cc : Nat) (a b c : List UInt8) (hA : BytesAt fx A a) (hB : BytesAt fx B b) (hC : BytesAt fx C c) (ha : a.length = 64) (hb : b.length = 64) (hc : c.length = 64) (h1 : 64 ≤ ca) (h2 : 64 ≤ cc) :
    Tri Try.prog 74 [.agg [.v (.slice A 64 ca), .v (.slice B 64 cb), .v (.slice C 64 cc)]] [] 0 fx (RetE (α := VlA) 0 (fun x => BytesAt fx x.A (val3 a b c) ∧ 64 ≤ x.cap) (fun x => .v (.slice x.A 64 x.cap)) (fun _ => []) 0 (fun _ => [])) := by
  refine Tri.of_code tok Try.func74 rfl rfl rfl (by decide) rfl (Nat.le_of_ble_eq_true rfl) ?_
  conv => whnf
  repeat' ((first | refine w1 (h := ?_) | refine w2 ?_ ?_ | refine w3 (h := ?_) | refine w4 (h := ?_) | refine hD _ _ ?_ | refine hL _ _ ?_ | (intro h; (try simp only [n1, n2, n3, n4, n5, n6] at h); first | (exfalso; omega) | (cases h; done) | skip)) <;> (conv => whnf))
  have t := tEqual fx B C cb cc b c hB hC (by omega)
  rw [hb, hc] at t
  refine Tri.use t [] rfl (args_ren rfl rfl) trivial (fun f hf => by first | exact hf | cases hf | simp_all) (fun u hu => ?_)
  conv => whnf
  repeat' ((first | refine w1 (h := ?_) | refine w2 ?_ ?_ | refine w3 (h := ?_) | refine w4 (h := ?_) | refine hD _ _ ?_ | refine hL _ _ ?_ | (intro h; (try simp only [n1, n2, n3, n4, n5, n6] at h); first | (exfalso; omega) | (cases h; done) | skip)) <;> (conv => whnf))
  · exact ⟨⟨C, cc⟩, ⟨by simp only [val3]; rw [if_pos (by assumption)]; exact hC, h2⟩, Ret.noneS rfl (fun _ _ => rfl) (fun _ h => nomatch h)⟩
  · exact ⟨⟨A, ca⟩, ⟨by simp only [val3]; rw [if_neg (by assumption)]; exact hA, h1⟩, Ret.noneS rfl (fun _ _ => rfl) (fun _ h => nomatch h)⟩
theorem tLoadC (fx : List Fact) (d : DS) (hd : d.Ok) (h : d.down = false) (p : Nat) (hp : p + 2 < d.l.length) :
    Tri Try.prog 44 [.p 0 0, .v (.int .i64 p)] [dsk 0 d] 1 fx (RetE (α := VlA × List Fact) 1 (fun x => BytesAt (x.2 ++ fx) x.1.A (d.val p) ∧ 64 ≤ x.1.cap) (fun x => .tup [.v (.slice x.1.A 64 x.1.cap), .k .i64 0]) (fun _ => [dsk 0 d]) 1 (fun x => x.2)) := by
  refine Tri.of_code tok Try.func44 rfl rfl rfl (by decide) rfl (Nat.le_of_ble_eq_true rfl) ?_
  conv => whnf
  repeat' ((first | refine w1 (h := ?_) | refine w2 ?_ ?_ | refine w3 (h := ?_) | refine w4 (h := ?_) | refine hD _ _ ?_ | refine hL _ _ ?_ | (intro h; (try simp only [n1, n2, n3, n4, n5, n6] at h); first | (exfalso; omega) | (cases h; done) | skip)) <;> (conv => whnf))
  refine Tri.use (tMread fx d hd h p hp) [0] rfl (args_ren rfl rfl) ⟨OSub.ren rfl rfl, trivial⟩ (fun f hf => by first | exact hf | cases hf | simp_all) (fun u hu => ?_)
  conv => whnf
  repeat' ((first | refine w1 (h := ?_) | refine w2 ?_ ?_ | refine w3 (h := ?_) | refine w4 (h := ?_) | refine hD _ _ ?_ | refine hL _ _ ?_ | (intro h; (try simp only [n1, n2, n3, n4, n5, n6] at h); first | (exfalso; omega) | (cases h; done) | skip)) <;> (conv => whnf))
  refine Tri.use (tValueC _ _ _ _ _ _ _ _ _ _ (Rd3.at0 (d := d) (p := p) (fx := fx) u) u.at1 u.at2 (hd.get_length (by omega)) (hd.get_length (by omega)) (hd.get_length (by omega)) (by omega) (by omega)) [] rfl (fun _ _ _ => rfl) trivial (fun f hf => hf) fun x hx => ?_
  conv => whnf
  repeat' ((first | refine w1 (h := ?_) | refine w2 ?_ ?_ | refine w3 (h := ?_) | refine w4 (h := ?_) | refine hD _ _ ?_ | refine hL _ _ ?_ | (intro h; (try simp only [n1, n2, n3, n4, n5, n6] at h); first | (exfalso; omega) | (cases h; done) | skip)) <;> (conv => whnf))
  exact ⟨(x, u.f d p), by rw [val_nat]; exact hx, Ret.mk [0] [dsk 0 d] (Fold.drop1 (by repeat first | exact List.mem_cons_self .. | apply List.mem_cons_of_mem)) rfl (fun _ _ _ => rfl) ⟨OSub.ren rfl rfl, trivial⟩ (fun g hg => List.mem_append_left fx hg)⟩
theorem lerr_ne {d : DS} {at_ : Int} (he : d.lerr at_ ≠ 0) : d.lerr at_ = 6 ∨ d.lerr at_ = 3 := by
  unfold DS.lerr DS.rerr at *
  repeat' split
  all_goals simp_all
theorem tLoadErr (fx : List Fact) (d : DS) (hd : d.Ok) (at_ : Int) (ha : -1000000 ≤ at_ ∧ at_ ≤ 1000000) (he : d.lerr at_ ≠ 0) :
    Tri Try.prog 44 [.p 0 0, .v (.int .i64 at_)] [dsk 0 d] 1 fx (RetE (α := Unit) 1 (fun _ => True) (fun _ => .tup [.v (.slice none 0 0), .v (.int .i64 (d.lerr at_))]) (fun _ => [dsk 0 d]) 1 (fun _ => [])) := by
  refine Tri.one ?_
  refine Tri.of_code tok Try.func44 rfl rfl rfl (by decide) rfl (Nat.le_of_ble_eq_true rfl) ?_
  conv => whnf
  repeat' ((first | refine w1 (h := ?_) | refine w2 ?_ ?_ | refine w3 (h := ?_) | refine w4 (h := ?_) | refine hD _ _ ?_ | refine hL _ _ ?_ | (intro h; (try simp only [n1, n2, n3, n4, n5, n6] at h); first | (exfalso; omega) | (cases h; done) | skip)) <;> (conv => whnf))
  refine Tri.use (tMreadErr fx d hd at_ ha he) [0] rfl (args_ren rfl rfl) ⟨OSub.ren rfl rfl, trivial⟩ (fun f hf => by first | exact hf | cases hf | simp_all) (fun u hu => ?_)
  conv => whnf
  repeat' ((first | refine w1 (h := ?_) | refine w2 ?_ ?_ | refine w3 (h := ?_) | refine w4 (h := ?_) | refine hD _ _ ?_ | refine hL _ _ ?_ | (intro h; (try simp only [n1, n2, n3, n4, n5, n6] at h); first | (exfalso; omega) | (cases h; done) | skip)) <;> (conv => whnf))
  refine And.intro ⟨rfl, rfl⟩ ?_
  conv => whnf
  repeat' ((first | refine w1 (h := ?_) | refine w2 ?_ ?_ | refine w3 (h := ?_) | refine w4 (h := ?_) | refine hD _ _ ?_ | refine hL _ _ ?_ | (intro h; (try simp only [n1, n2, n3, n4, n5, n6] at h); first | (exfalso; omega) | (cases h; done) | skip)) <;> (conv => whnf))
  · exact Ret.mk [0] [dsk 0 d] (Fold.drop1 (by repeat first | exact List.mem_cons_self .. | apply List.mem_cons_of_mem)) rfl (fun _ _ _ => rfl) ⟨OSub.ren rfl rfl, trivial⟩ (fun _ h => nomatch h)
theorem tMreadNil (fx : List Fact) (at_ : Int) : Tri Try.prog 73 [.v (.pointer none), .v (.int .i64 at_)] [] 0 fx (Ret 0 (.tup [.v (.agg #[.slice none 0 0, .slice none 0 0, .slice none 0 0]), .k .i64 1]) [] 0 []) := by
  refine Tri.of_code tok Try.func73 rfl rfl rfl (by decide) rfl (Nat.le_of_ble_eq_true rfl) ?_
  conv => whnf
  repeat' ((first | refine w1 (h := ?_) | refine w2 ?_ ?_ | refine w3 (h := ?_) | refine w4 (h := ?_) | refine hD _ _ ?_ | refine hL _ _ ?_ | (intro h; (try simp only [n1, n2, n3, n4, n5, n6] at h); first | (exfalso; omega) | (cases h; done) | skip)) <;> (conv => whnf))
  exact Ret.noneS rfl (fun _ _ => rfl) (fun _ h => nomatch h)
theorem tLoadNil (fx : List Fact) (at_ : Int) : Tri Try.prog 44 [.v (.pointer none), .v (.int .i64 at_)] [] 0 fx (Ret 0 (.tup [.v (.slice none 0 0), .k .i64 1]) [] 0 []) := by
  refine Tri.of_code tok Try.func44 rfl rfl rfl (by decide) rfl (Nat.le_of_ble_eq_true rfl) ?_
  conv => whnf
  repeat' ((first | refine w1 (h := ?_) | refine w2 ?_ ?_ | refine w3 (h := ?_) | refine w4 (h := ?_) | refine hD _ _ ?_ | refine hL _ _ ?_ | (intro h; (try simp only [n1, n2, n3, n4, n5, n6] at h); first | (exfalso; omega) | (cases h; done) | skip)) <;> (conv => whnf))
  refine Tri.use (tMreadNil fx at_).one [] rfl (args_ren rfl rfl) trivial (fun f hf => by first | exact hf | cases hf | simp_all) (fun u hu => ?_)
  conv => whnf
  repeat' ((first | refine w1 (h := ?_) | refine w2 ?_ ?_ | refine w3 (h := ?_) | refine w4 (h := ?_) | refine hD _ _ ?_ | refine hL _ _ ?_ | (intro h; (try simp only [n1, n2, n3, n4, n5, n6] at h); first | (exfalso; omega) | (cases h; done) | skip)) <;> (conv => whnf))
  refine And.intro (nil3_ok rfl rfl rfl) (And.intro ⟨rfl, rfl⟩ ?_)
  conv => whnf
  repeat' ((first | refine w1 (h := ?_) | refine w2 ?_ ?_ | refine w3 (h := ?_) | refine w4 (h := ?_) | refine hD _ _ ?_ | refine hL _ _ ?_ | (intro h; (try simp only [n1, n2, n3, n4, n5, n6] at h); first | (exfalso; omega) | (cases h; done) | skip)) <;> (conv => whnf))
  exact Ret.noneS rfl (fun _ _ => rfl) (fun _ h => nomatch h)
end Go.Proofs.Ytekgjjanikicnaa.Sx

namespace Go.Proofs.Ytekgjjanikicnaa.Sx
open Go
set_option maxRecDepth 100000
set_option linter.unusedSimpArgs false
set_option linter.unusedVariables false

/-- Bytes, with noughts behind them, laid side by side. -/
theorem tPad (fx : List Fact) (A : Option Addr) (cap : Nat) (b : List UInt8) (hB : BytesAt fx A b) (n : Nat) (hb : b.length + n = 64) :
    Tri Try.prog 71 [.s 0 0 2 2] [(0, .cells [.v (.slice A b.length cap), .s 1 0 n n] 22), (1, .row (repRow [.int .u8 0] n) 5)] 2 fx
      (RetE (α := Nat × List Value) 2 (fun x => x.2.take 64 = (pad b).map bv) (fun x => .s 2 0 64 x.1) (fun x => [(2, .row x.2 5)]) 3 (fun _ => [])) := by
  refine Tri.of_code tok Try.func71 rfl rfl rfl (by decide) rfl (Nat.le_of_ble_eq_true rfl) ?_
  conv => whnf
  repeat' ((first | refine w1 (h := ?_) | refine w2 ?_ ?_ | refine w3 (h := ?_) | refine w4 (h := ?_) | refine hD _ _ ?_ | refine hL _ _ ?_ | (intro h; (try simp only [n1, n2, n3, n4, n5, n6] at h); first | (exfalso; omega) | (cases h; done) | skip)) <;> (conv => whnf))
  refine loop_rounds 3 (round_next tok ?_)
  conv => whnf
  repeat' ((first | refine w1 (h := ?_) | refine w2 ?_ ?_ | refine w3 (h := ?_) | refine w4 (h := ?_) | refine hD _ _ ?_ | refine hL _ _ ?_ | (intro h; (try simp only [n1, n2, n3, n4, n5, n6] at h); first | (exfalso; omega) | (cases h; done) | skip)) <;> (conv => whnf))
  refine round_next tok ?_
  conv => whnf
  repeat' ((first | refine w1 (h := ?_) | refine w2 ?_ ?_ | refine w3 (h := ?_) | refine w4 (h := ?_) | refine hD _ _ ?_ | refine hL _ _ ?_ | (intro h; (try simp only [n1, n2, n3, n4, n5, n6] at h); first | (exfalso; omega) | (cases h; done) | skip)) <;> (conv => whnf))
  refine round_next tok ?_
  conv => whnf
  repeat' ((first | refine w1 (h := ?_) | refine w2 ?_ ?_ | refine w3 (h := ?_) | refine w4 (h := ?_) | refine hD _ _ ?_ | refine hL _ _ ?_ | (intro h; (try simp only [n1, n2, n3, n4, n5, n6] at h); first | (exfalso; omega) | (cases h; done) | skip)) <;> (conv => whnf))
  have e64 : (0 : Int) + (b.length : Int) + (n : Int) = ((64 : Nat) : Int) := by omega
  rw [e64]
  refine Tri.of_code tok Try.func86 rfl rfl rfl (by decide) rfl (Nat.le_of_ble_eq_true rfl) ?_
  conv => whnf
  repeat' ((first | refine w1 (h := ?_) | refine w2 ?_ ?_ | refine w3 (h := ?_) | refine w4 (h := ?_) | refine hD _ _ ?_ | refine hL _ _ ?_ | (intro h; (try simp only [n1, n2, n3, n4, n5, n6] at h); first | (exfalso; omega) | (cases h; done) | skip)) <;> (conv => whnf))
  rename_i m0 sp0
  have hsp0 := h
  rw [Nat.mul_one] at hsp0
  refine loop_rounds 3 (round_next tok ?_)
  conv => whnf
  repeat' ((first | refine w1 (h := ?_) | refine w2 ?_ ?_ | refine w3 (h := ?_) | refine w4 (h := ?_) | refine hD _ _ ?_ | refine hL _ _ ?_ | (intro h; (try simp only [n1, n2, n3, n4, n5, n6] at h); first | (exfalso; omega) | (cases h; done) | skip)) <;> (conv => whnf))
  refine ⟨b.map bv, ⟨by simp, hB.rowAt⟩, ?_⟩
  conv => whnf
  repeat' ((first | refine w1 (h := ?_) | refine w2 ?_ ?_ | refine w3 (h := ?_) | refine w4 (h := ?_) | refine hD _ _ ?_ | refine hL _ _ ?_ | (intro h; (try simp only [n1, n2, n3, n4, n5, n6] at h); first | (exfalso; omega) | (cases h; done) | skip)) <;> (conv => whnf))
  have hrl : (repRow [Value.int IntKind.u8 0] (63 + 1) ++ sp0).length = 64 + m0 := by rw [List.length_append, hsp0]; rfl
  refine And.intro ⟨by omega, by omega, by rw [hrl]; omega, fun u hu => by obtain ⟨c, _, rfl⟩ := List.mem_map.1 hu; rfl⟩ ?_
  intro m1 sp1 hsp1
  conv => whnf
  repeat' ((first | refine w1 (h := ?_) | refine w2 ?_ ?_ | refine w3 (h := ?_) | refine w4 (h := ?_) | refine hD _ _ ?_ | refine hL _ _ ?_ | (intro h; (try simp only [n1, n2, n3, n4, n5, n6] at h); first | (exfalso; omega) | (cases h; done) | skip)) <;> (conv => whnf))
  refine round_next tok ?_
  conv => whnf
  repeat' ((first | refine w1 (h := ?_) | refine w2 ?_ ?_ | refine w3 (h := ?_) | refine w4 (h := ?_) | refine hD _ _ ?_ | refine hL _ _ ?_ | (intro h; (try simp only [n1, n2, n3, n4, n5, n6] at h); first | (exfalso; omega) | (cases h; done) | skip)) <;> (conv => whnf))
  refine ⟨repRow [.int .u8 0] n, ⟨by rw [List.drop_zero, repRow_one]; simp, by rw [repRow_one]; simp⟩, ?_⟩
  conv => whnf
  repeat' ((first | refine w1 (h := ?_) | refine w2 ?_ ?_ | refine w3 (h := ?_) | refine w4 (h := ?_) | refine hD _ _ ?_ | refine hL _ _ ?_ | (intro h; (try simp only [n1, n2, n3, n4, n5, n6] at h); first | (exfalso; omega) | (cases h; done) | skip)) <;> (conv => whnf))
  have hr2 : (List.take (0 * 1) (repRow [Value.int IntKind.u8 0] (63 + 1) ++ sp0) ++ List.map bv b ++ sp1).length = b.length + m1 := by simp [hsp1]
  refine And.intro ⟨by omega, by omega, by rw [hr2]; omega, fun u hu => by rw [repRow_one] at hu; rw [List.eq_of_mem_replicate hu]; rfl⟩ ?_
  intro m2 sp2 hsp2
  conv => whnf
  repeat' ((first | refine w1 (h := ?_) | refine w2 ?_ ?_ | refine w3 (h := ?_) | refine w4 (h := ?_) | refine hD _ _ ?_ | refine hL _ _ ?_ | (intro h; (try simp only [n1, n2, n3, n4, n5, n6] at h); first | (exfalso; omega) | (cases h; done) | skip)) <;> (conv => whnf))
  refine round_next tok ?_
  conv => whnf
  repeat' ((first | refine w1 (h := ?_) | refine w2 ?_ ?_ | refine w3 (h := ?_) | refine w4 (h := ?_) | refine hD _ _ ?_ | refine hL _ _ ?_ | (intro h; (try simp only [n1, n2, n3, n4, n5, n6] at h); first | (exfalso; omega) | (cases h; done) | skip)) <;> (conv => whnf))
  refine ⟨(64 + m2, _), ?_, Ret.mk [0, 1, 4] [(4, SObj.row _ 5)] (Fold.drop1 (by repeat first | exact List.mem_cons_self .. | apply List.mem_cons_of_mem)) rfl (SEq.ren rfl ?_) ⟨OSub.ren rfl rfl, trivial⟩ (fun _ h => nomatch h)⟩
  · simp only [Nat.zero_mul, List.take_zero, List.nil_append, Nat.mul_one]
    rw [List.take_left' (show (b.map bv).length = 0 + b.length by simp), repRow_one, List.take_left' (by rw [List.length_append, List.length_map, List.length_replicate]; omega), pad, List.map_append, show 64 - b.length = n by omega, List.map_replicate]
    rfl
  · simp only [ren, sg]
    have e1 : 0 + b.length + n = 64 := by omega
    rw [e1]; rfl
theorem tSave (fx : List Fact) (d : DS) (hd : d.Ok) (at_ : Int) (ha : -1000000 ≤ at_ ∧ at_ ≤ 1000000) (A : Option Addr) (cap : Nat) (b : List UInt8) (hB : BytesAt fx A b) (hb : b.length ≤ 64) :
    Tri Try.prog 43 [.p 0 0, .v (.int .i64 at_), .v (.slice A b.length cap)] [dsk 0 d] 1 fx (RetE (α := Unit) 1 (fun _ => True) (fun _ => .v (.int .i64 (d.save at_ b).1)) (fun _ => [dsk 0 (d.save at_ b).2]) 1 (fun _ => [])) := by
  refine Tri.one ?_
  obtain ⟨n, hn⟩ : ∃ n : Nat, b.length + n = 64 := ⟨64 - b.length, by omega⟩
  rw [save_nat hb]
  have hpl := pad_length hb
  refine Tri.of_code tok Try.func43 rfl rfl rfl (by decide) rfl (Nat.le_of_ble_eq_true rfl) ?_
  conv => whnf
  repeat' ((first | refine w1 (h := ?_) | refine w2 ?_ ?_ | refine w3 (h := ?_) | refine w4 (h := ?_) | refine hD _ _ ?_ | refine hL _ _ ?_ | (intro h; (try simp only [n1, n2, n3, n4, n5, n6] at h); first | (exfalso; omega) | (cases h; done) | skip)) <;> (conv => whnf))
  have hn2 : ((64 : Int) - (b.length : Int)).toNat = n := by omega
  rw [hn2]
  refine Tri.use (tPad fx A cap b hB n hn) [2,1] rfl (args_ren rfl rfl) ⟨OSub.ren rfl rfl, OSub.ren rfl rfl, trivial⟩ (fun f hf => by first | exact hf | cases hf | simp_all) (fun u hu => ?_)
  conv => whnf
  repeat' ((first | refine w1 (h := ?_) | refine w2 ?_ ?_ | refine w3 (h := ?_) | refine w4 (h := ?_) | refine hD _ _ ?_ | refine hL _ _ ?_ | (intro h; (try simp only [n1, n2, n3, n4, n5, n6] at h); first | (exfalso; omega) | (cases h; done) | skip)) <;> (conv => whnf))
  obtain ⟨c, xs⟩ := u
  simp only at hu
  have hx : xs.take (pad b).length = (pad b).map bv := by rw [hpl]; exact hu
  have hput : ∀ (d : DS) (i : Int) (k : Nat), d.putN i (pad b) (k + 1) = if (d.putS i (pad b)).1 = 0 then (d.putS i (pad b)).2.putN (i + 1) (pad b) k else d.putS i (pad b) := fun _ _ _ => rfl
  generalize hres : d.putN at_ (pad b) 3 = res
  refine loop_by tok (α := Nat × DS) (fun x => match x with | (i, e) => ⟨[(0, .p 0 0), (1, .v (.int .i64 at_)), (2, .s 1 0 64 c), (23, .v (.int .i64 i))], [dsk 0 e, (1, .row xs 5)], 2, fx⟩)
    (fun x => x.1 ≤ 3 ∧ x.2.Ok ∧ res = x.2.putN (at_ + x.1) (pad b) (3 - x.1)) (fun x => 3 - x.1) (0, d) [0, 3] ⟨Nat.zero_le _, hd, by rw [← hres]; simp⟩ ⟨rfl, ⟨SEq.ren rfl rfl, fun _ _ _ => rfl, SEq.ren rfl rfl, fun _ _ _ => rfl, trivial⟩, ⟨OSub.ren rfl rfl, OSub.ren rfl rfl, trivial⟩, fun f hf => hf⟩ ?_
  rintro ⟨i, e⟩ ⟨hi, he, hp⟩
  simp only at hi he hp
  conv => whnf
  repeat' ((first | refine w1 (h := ?_) | refine w2 ?_ ?_ | refine w3 (h := ?_) | refine w4 (h := ?_) | refine hD _ _ ?_ | refine hL _ _ ?_ | (intro h; (try simp only [n1, n2, n3, n4, n5, n6] at h); first | (exfalso; omega) | (cases h; done) | skip)) <;> (conv => whnf))
  · have h3 : 3 - i = (3 - (i + 1)) + 1 := by omega
    rw [h3, hput] at hp
    have t := tPutRow fx e he (at_ + i) (pad b) xs c hx
    rw [hpl] at t
    refine Tri.use t [0,1] rfl (args_ren rfl rfl) ⟨OSub.ren rfl rfl, OSub.ren rfl rfl, trivial⟩ (fun f hf => by first | exact hf | cases hf | simp_all) (fun u hu => ?_)
    conv => whnf
    repeat' ((first | refine w1 (h := ?_) | refine w2 ?_ ?_ | refine w3 (h := ?_) | refine w4 (h := ?_) | refine hD _ _ ?_ | refine hL _ _ ?_ | (intro h; (try simp only [n1, n2, n3, n4, n5, n6] at h); first | (exfalso; omega) | (cases h; done) | skip)) <;> (conv => whnf))
    · rw [if_neg (by assumption)] at hp
      rw [hp]
      exact Ret.mk [0] [dsk 0 _] (Fold.drop1 (by repeat first | exact List.mem_cons_self .. | apply List.mem_cons_of_mem)) rfl (fun _ _ _ => rfl) ⟨OSub.ren rfl rfl, trivial⟩ (fun _ h => nomatch h)
    · rw [if_pos (by omega)] at hp
      refine ⟨(i + 1, _), [0, 1], ⟨⟨by simp only; omega, he.putS _ _, ?_⟩, by simp only; omega⟩, rfl, ⟨SEq.ren rfl rfl, fun _ _ _ => rfl, SEq.ren rfl rfl, SEq.eq rfl, trivial⟩, ⟨OSub.ren rfl rfl, OSub.ren rfl rfl, trivial⟩, fun f hf => hf⟩
      simp only
      rw [hp, Int.add_assoc]
      rfl
  · obtain rfl : i = 3 := by omega
    rw [hp]
    exact Ret.mk [0] [dsk 0 _] (Fold.drop1 (by repeat first | exact List.mem_cons_self .. | apply List.mem_cons_of_mem)) rfl (fun _ _ _ => rfl) ⟨OSub.ren rfl rfl, trivial⟩ (fun _ h => nomatch h)
theorem tSaveLong (fx : List Fact) (d : DS) (at_ : Int) (A : Option Addr) (cap n : Nat) (hn : 64 < n) :
    Tri Try.prog 43 [.p 0 0, .v (.int .i64 at_), .v (.slice A n cap)] [dsk 0 d] 1 fx (RetE (α := Unit) 1 (fun _ => True) (fun _ => .k .i64 1) (fun _ => [dsk 0 d]) 1 (fun _ => [])) := by
  refine Tri.one ?_
  refine Tri.of_code tok Try.func43 rfl rfl rfl (by decide) rfl (Nat.le_of_ble_eq_true rfl) ?_
  conv => whnf
  repeat' ((first | refine w1 (h := ?_) | refine w2 ?_ ?_ | refine w3 (h := ?_) | refine w4 (h := ?_) | refine hD _ _ ?_ | refine hL _ _ ?_ | (intro h; (try simp only [n1, n2, n3, n4, n5, n6] at h); first | (exfalso; omega) | (cases h; done) | skip)) <;> (conv => whnf))
  exact Ret.mk [0] [dsk 0 d] (Fold.drop1 (by repeat first | exact List.mem_cons_self .. | apply List.mem_cons_of_mem)) rfl (fun _ _ _ => rfl) ⟨OSub.ren rfl rfl, trivial⟩ (fun _ h => nomatch h)
theorem tSaveNil (fx : List Fact) (at_ : Int) (A : Option Addr) (cap n : Nat) :
    Tri Try.prog 43 [.v (.pointer none), .v (.int .i64 at_), .v (.slice A n cap)] [] 0 fx (Ret 0 (.k .i64 1) [] 0 []) := by
  refine Tri.of_code tok Try.func43 rfl rfl rfl (by decide) rfl (Nat.le_of_ble_eq_true rfl) ?_
  conv => whnf
  repeat' ((first | refine w1 (h := ?_) | refine w2 ?_ ?_ | refine w3 (h := ?_) | refine w4 (h := ?_) | refine hD _ _ ?_ | refine hL _ _ ?_ | (intro h; (try simp only [n1, n2, n3, n4, n5, n6] at h); first | (exfalso; omega) | (cases h; done) | skip)) <;> (conv => whnf))
  exact Ret.noneS rfl (fun _ _ => rfl) (fun _ h => nomatch h)
/-- What is saved is the caller's own row. -/
theorem tSaveRow (fx : List Fact) (d : DS) (hd : d.Ok) (at_ : Int) (ha : -1000000 ≤ at_ ∧ at_ ≤ 1000000) (b : List UInt8) (hb : b.length ≤ 64) (o : SObj) (xs : List Value) (ho : rowOf o xs 5) (cap : Nat) (hx : xs.take b.length = b.map bv) :
    Tri Try.prog 43 [.p 0 0, .v (.int .i64 at_), .s 1 0 b.length cap] [dsk 0 d, (1, o)] 2 fx (RetE (α := Unit) 2 (fun _ => True) (fun _ => .v (.int .i64 (d.save at_ b).1)) (fun _ => [dsk 0 (d.save at_ b).2]) 2 (fun _ => [])) := by
  refine Tri.lend 1 (xs := xs) (T := 5) (fun b1 => [.p 0 0, .v (.int .i64 at_), .v (.slice (some ⟨b1, 0, none⟩) b.length cap)]) (by simp) ho (fun _ => rfl) fun b1 => ?_
  refine Tri.use (tSave (rowFact b1 xs 5 :: fx) d hd at_ ha (some ⟨b1, 0, none⟩) cap b (BytesAt.row (List.mem_cons_self ..) (by rw [List.drop_zero]; exact hx)) hb) [0] rfl (args_ren rfl rfl) ⟨OSub.ren rfl rfl, trivial⟩ (fun f hf => hf) fun u hu => ?_
  conv => whnf
  refine And.intro rfl ?_
  exact ⟨(), trivial, Ret.mk [0, 1] [dsk 0 _] (Fold.drop1 (by repeat first | exact List.mem_cons_self .. | apply List.mem_cons_of_mem)) rfl (fun _ _ _ => rfl) ⟨OSub.ren rfl rfl, trivial⟩ (fun _ h => nomatch h)⟩
end Go.Proofs.Ytekgjjanikicnaa.Sx

namespace Go.Proofs.Ytekgjjanikicnaa.Sx
open Go
set_option maxRecDepth 100000
set_option linter.unusedSimpArgs false
set_option linter.unusedVariables false

theorem tMendErr (fx : List Fact) (d : DS) (hd : d.Ok) (at_ : Int) (ha : -1000000 ≤ at_ ∧ at_ ≤ 1000000) (he : d.lerr at_ ≠ 0) :
    Tri Try.prog 45 [.p 0 0, .v (.int .i64 at_)] [dsk 0 d] 1 fx (RetE (α := Unit) 1 (fun _ => True) (fun _ => .v (.int .i64 (d.lerr at_))) (fun _ => [dsk 0 d]) 1 (fun _ => [])) := by
  refine Tri.one ?_
  refine Tri.of_code tok Try.func45 rfl rfl rfl (by decide) rfl (Nat.le_of_ble_eq_true rfl) ?_
  conv => whnf
  repeat' ((first | refine w1 (h := ?_) | refine w2 ?_ ?_ | refine w3 (h := ?_) | refine w4 (h := ?_) | refine hD _ _ ?_ | refine hL _ _ ?_ | (intro h; (try simp only [n1, n2, n3, n4, n5, n6] at h); first | (exfalso; omega) | (cases h; done) | skip)) <;> (conv => whnf))
  refine Tri.use (tMreadErr fx d hd at_ ha he) [0] rfl (args_ren rfl rfl) ⟨OSub.ren rfl rfl, trivial⟩ (fun f hf => by first | exact hf | cases hf | simp_all) (fun u hu => ?_)
  conv => whnf
  repeat' ((first | refine w1 (h := ?_) | refine w2 ?_ ?_ | refine w3 (h := ?_) | refine w4 (h := ?_) | refine hD _ _ ?_ | refine hL _ _ ?_ | (intro h; (try simp only [n1, n2, n3, n4, n5, n6] at h); first | (exfalso; omega) | (cases h; done) | skip)) <;> (conv => whnf))
  refine And.intro ⟨rfl, rfl⟩ ?_
  conv => whnf
  repeat' ((first | refine w1 (h := ?_) | refine w2 ?_ ?_ | refine w3 (h := ?_) | refine w4 (h := ?_) | refine hD _ _ ?_ | refine hL _ _ ?_ | (intro h; (try simp only [n1, n2, n3, n4, n5, n6] at h); first | (exfalso; omega) | (cases h; done) | skip)) <;> (conv => whnf))
  exact Ret.mk [0] [dsk 0 d] (Fold.drop1 (by repeat first | exact List.mem_cons_self .. | apply List.mem_cons_of_mem)) rfl (fun _ _ _ => rfl) ⟨OSub.ren rfl rfl, trivial⟩ (fun _ h => nomatch h)
theorem tMendNil (fx : List Fact) (at_ : Int) : Tri Try.prog 45 [.v (.pointer none), .v (.int .i64 at_)] [] 0 fx (Ret 0 (.k .i64 1) [] 0 []) := by
  refine Tri.of_code tok Try.func45 rfl rfl rfl (by decide) rfl (Nat.le_of_ble_eq_true rfl) ?_
  conv => whnf
  repeat' ((first | refine w1 (h := ?_) | refine w2 ?_ ?_ | refine w3 (h := ?_) | refine w4 (h := ?_) | refine hD _ _ ?_ | refine hL _ _ ?_ | (intro h; (try simp only [n1, n2, n3, n4, n5, n6] at h); first | (exfalso; omega) | (cases h; done) | skip)) <;> (conv => whnf))
  refine Tri.use (tMreadNil fx at_).one [] rfl (args_ren rfl rfl) trivial (fun f hf => by first | exact hf | cases hf | simp_all) (fun u hu => ?_)
  conv => whnf
  repeat' ((first | refine w1 (h := ?_) | refine w2 ?_ ?_ | refine w3 (h := ?_) | refine w4 (h := ?_) | refine hD _ _ ?_ | refine hL _ _ ?_ | (intro h; (try simp only [n1, n2, n3, n4, n5, n6] at h); first | (exfalso; omega) | (cases h; done) | skip)) <;> (conv => whnf))
  refine And.intro (nil3_ok rfl rfl rfl) (And.intro ⟨rfl, rfl⟩ ?_)
  conv => whnf
  repeat' ((first | refine w1 (h := ?_) | refine w2 ?_ ?_ | refine w3 (h := ?_) | refine w4 (h := ?_) | refine hD _ _ ?_ | refine hL _ _ ?_ | (intro h; (try simp only [n1, n2, n3, n4, n5, n6] at h); first | (exfalso; omega) | (cases h; done) | skip)) <;> (conv => whnf))
  exact Ret.noneS rfl (fun _ _ => rfl) (fun _ h => nomatch h)
theorem tMend (fx : List Fact) (d : DS) (hd : d.Ok) (h : d.down = false) (p : Nat) (hp : p + 2 < d.l.length) :
    Tri Try.prog 45 [.p 0 0, .v (.int .i64 p)] [dsk 0 d] 1 fx (RetE (α := Unit) 1 (fun _ => True) (fun _ => .v (.int .i64 (d.mend p).1)) (fun _ => [dsk 0 (d.mend p).2]) 1 (fun _ => [])) := by
  refine Tri.one ?_
  rw [mend_nat (lerr_ok h hp)]
  have hlen := hd.len
  refine Tri.of_code tok Try.func45 rfl rfl rfl (by decide) rfl (Nat.le_of_ble_eq_true rfl) ?_
  conv => whnf
  repeat' ((first | refine w1 (h := ?_) | refine w2 ?_ ?_ | refine w3 (h := ?_) | refine w4 (h := ?_) | refine hD _ _ ?_ | refine hL _ _ ?_ | (intro h; (try simp only [n1, n2, n3, n4, n5, n6] at h); first | (exfalso; omega) | (cases h; done) | skip)) <;> (conv => whnf))
  refine Tri.use (tMread fx d hd h p hp) [0] rfl (args_ren rfl rfl) ⟨OSub.ren rfl rfl, trivial⟩ (fun f hf => by first | exact hf | cases hf | simp_all) (fun u hu => ?_)
  rename Rd3 => r
  conv => whnf
  repeat' ((first | refine w1 (h := ?_) | refine w2 ?_ ?_ | refine w3 (h := ?_) | refine w4 (h := ?_) | refine hD _ _ ?_ | refine hL _ _ ?_ | (intro h; (try simp only [n1, n2, n3, n4, n5, n6] at h); first | (exfalso; omega) | (cases h; done) | skip)) <;> (conv => whnf))
  refine Tri.use (tValue _ _ _ _ _ _ _ _ _ _ (Rd3.at0 (d := d) (p := p) (fx := fx) r) r.at1 r.at2 (hd.get_length (by omega)) (hd.get_length (by omega)) (hd.get_length (by omega))) [] rfl (fun _ _ _ => rfl) trivial (fun f hf => hf) fun x hx => ?_
  rw [← val_nat] at hx
  have hv64 : (d.val p).length = 64 := by
    rw [val_nat]; unfold val3
    split <;> exact hd.get_length (by omega)
  conv => whnf
  repeat' ((first | refine w1 (h := ?_) | refine w2 ?_ ?_ | refine w3 (h := ?_) | refine w4 (h := ?_) | refine hD _ _ ?_ | refine hL _ _ ?_ | (intro h; (try simp only [n1, n2, n3, n4, n5, n6] at h); first | (exfalso; omega) | (cases h; done) | skip)) <;> (conv => whnf))
  have hB : ∀ i, i < 3 → ∃ (b : Nat) (c : Nat), [SV.v (Value.slice (some ⟨r.b0, 0, none⟩) 64 (64 + r.s0.length)), SV.v (Value.slice (some ⟨r.b1, 0, none⟩) 64 (64 + r.s1.length)), SV.v (Value.slice (some ⟨r.b2, 0, none⟩) 64 (64 + r.s2.length))][i]? = some (.v (.slice (some ⟨b, 0, none⟩) 64 c)) ∧ BytesAt (r.f d p ++ fx) (some ⟨b, 0, none⟩) (d.get (p + i)) := fun i hi => by
    have : i = 0 ∨ i = 1 ∨ i = 2 := by omega
    rcases this with rfl | rfl | rfl
    · exact ⟨_, _, rfl, r.at0⟩
    · exact ⟨_, _, rfl, r.at1⟩
    · exact ⟨_, _, rfl, r.at2⟩
  generalize hres : d.fix (p : Int) (d.val p) (rest3 d p 0) = res
  refine loop_by tok (α := Nat × DS) (fun y => match y with | (i, e) => ⟨[(0, .p 0 0), (1, .v (.int .i64 p)), (7, .v (.slice x.A 64 x.cap)), (22, .agg [SV.v (Value.slice (some ⟨r.b0, 0, none⟩) 64 (64 + r.s0.length)), SV.v (Value.slice (some ⟨r.b1, 0, none⟩) 64 (64 + r.s1.length)), SV.v (Value.slice (some ⟨r.b2, 0, none⟩) 64 (64 + r.s2.length))]), (23, .v (.int .i64 i))], [dsk 0 e], 1, r.f d p ++ fx⟩)
    (fun y => y.1 ≤ 3 ∧ y.2.Ok ∧ res = y.2.fix (p + y.1) (d.val p) (rest3 d p y.1)) (fun y => 3 - y.1) (0, d) [0] ⟨Nat.zero_le _, hd, by rw [← hres]; simp⟩ ⟨rfl, ⟨SEq.ren rfl rfl, fun _ _ _ => rfl, fun _ _ _ => rfl, fun _ _ _ => rfl, fun _ _ _ => rfl, trivial⟩, ⟨OSub.ren rfl rfl, trivial⟩, fun f hf => hf⟩ ?_
  rintro ⟨i, e⟩ ⟨hi, he, hr⟩
  simp only at hi he hr
  conv => whnf
  repeat' ((first | refine w1 (h := ?_) | refine w2 ?_ ?_ | refine w3 (h := ?_) | refine w4 (h := ?_) | refine hD _ _ ?_ | refine hL _ _ ?_ | (intro h; (try simp only [n1, n2, n3, n4, n5, n6] at h); first | (exfalso; omega) | (cases h; done) | skip)) <;> (conv => whnf))
  · have hi3 : i < 3 := by omega
    obtain ⟨b, c, h1, h2⟩ := hB i hi3
    have hg64 := hd.get_length (show p + i < d.l.length by omega)
    rw [rest3_cons hi3, fix_step] at hr
    refine Exists.intro (.v (.slice (some ⟨b, 0, none⟩) 64 c)) (And.intro (by rw [Nat.mul_one]; exact h1) ?_)
    conv => whnf
    repeat' ((first | refine w1 (h := ?_) | refine w2 ?_ ?_ | refine w3 (h := ?_) | refine w4 (h := ?_) | refine hD _ _ ?_ | refine hL _ _ ?_ | (intro h; (try simp only [n1, n2, n3, n4, n5, n6] at h); first | (exfalso; omega) | (cases h; done) | skip)) <;> (conv => whnf))
    have t := tEqual (r.f d p ++ fx) (some ⟨b, 0, none⟩) x.A c x.cap (d.get (p + i)) (d.val p) h2 hx (by omega)
    rw [hg64, hv64] at t
    refine Tri.use t [] rfl (args_ren rfl rfl) trivial (fun f hf => by first | exact hf | cases hf | simp_all) (fun u hu => ?_)
    conv => whnf
    repeat' ((first | refine w1 (h := ?_) | refine w2 ?_ ?_ | refine w3 (h := ?_) | refine w4 (h := ?_) | refine hD _ _ ?_ | refine hL _ _ ?_ | (intro h; (try simp only [n1, n2, n3, n4, n5, n6] at h); first | (exfalso; omega) | (cases h; done) | skip)) <;> (conv => whnf))
    · rw [if_pos (by assumption)] at hr
      refine ⟨(i + 1, e), [0], ⟨⟨by simp only; omega, he, ?_⟩, by simp only; omega⟩, rfl, ⟨SEq.ren rfl rfl, fun _ _ _ => rfl, fun _ _ _ => rfl, fun _ _ _ => rfl, SEq.eq rfl, trivial⟩, ⟨OSub.ren rfl rfl, trivial⟩, fun f hf => hf⟩
      simp only
      rw [hr, Int.add_assoc]
      rfl
    · rw [if_neg (by assumption)] at hr
      have t2 := tPut (r.f d p ++ fx) e he (p + i) x.A x.cap (d.val p) hx
      rw [hv64] at t2
      refine Tri.use t2 [0] rfl (args_ren rfl rfl) ⟨OSub.ren rfl rfl, trivial⟩ (fun f hf => by first | exact hf | cases hf | simp_all) (fun u hu => ?_)
      conv => whnf
      repeat' ((first | refine w1 (h := ?_) | refine w2 ?_ ?_ | refine w3 (h := ?_) | refine w4 (h := ?_) | refine hD _ _ ?_ | refine hL _ _ ?_ | (intro h; (try simp only [n1, n2, n3, n4, n5, n6] at h); first | (exfalso; omega) | (cases h; done) | skip)) <;> (conv => whnf))
      · rw [if_neg (by assumption)] at hr
        rw [hr]
        exact Ret.mk [0] [dsk 0 _] (Fold.drop1 (by repeat first | exact List.mem_cons_self .. | apply List.mem_cons_of_mem)) rfl (fun _ _ _ => rfl) ⟨OSub.ren rfl rfl, trivial⟩ (fun _ h => nomatch h)
      · rw [if_pos (by omega)] at hr
        refine ⟨(i + 1, _), [0], ⟨⟨by simp only; omega, he.putS _ _, ?_⟩, by simp only; omega⟩, rfl, ⟨SEq.ren rfl rfl, fun _ _ _ => rfl, fun _ _ _ => rfl, fun _ _ _ => rfl, SEq.eq rfl, trivial⟩, ⟨OSub.ren rfl rfl, trivial⟩, fun f hf => hf⟩
        simp only
        rw [hr, Int.add_assoc]
        rfl
  · obtain rfl : i = 3 := by omega
    rw [hr]
    exact Ret.mk [0] [dsk 0 _] (Fold.drop1 (by repeat first | exact List.mem_cons_self .. | apply List.mem_cons_of_mem)) rfl (fun _ _ _ => rfl) ⟨OSub.ren rfl rfl, trivial⟩ (fun _ h => nomatch h)
end Go.Proofs.Ytekgjjanikicnaa.Sx

namespace Go.Proofs.Ytekgjjanikicnaa.Sx
open Go
set_option maxRecDepth 100000
set_option linter.unusedSimpArgs false
set_option linter.unusedVariables false
theorem appFK_go : ∀ {a b : List Fact} {k : List Fact → Prop}, k (a ++ b) → appFK a b k
  | [], _, _, h => h
  | x :: r, b, k, h => appFK_go (a := r) (k := fun l => k (x :: l)) h
theorem BytesAt.part {fx : List Fact} {ad : Addr} {l : List UInt8} (h : BytesAt fx (some ad) l) (i n : Nat) : BytesAt fx (some (ad.add (i * 1))) ((l.drop i).take n) := by
  refine BytesAt.take ⟨fun e => (by cases e), fun ad' e j y hj => ?_⟩ n
  obtain rfl := Option.some.inj e
  rw [Addr.add_add]
  refine h.2 ad rfl (i * 1 + j) y ?_
  rw [List.getElem?_drop] at hj
  rwa [Nat.mul_one]
/-- A disk at a place. -/
abbrev pdk (r D : Nat) (d : DS) : Nat × SObj := (r, .abs (pinA D (dskA d)))
theorem pSize (fx : List Fact) (D : Nat) (d : DS) : Tri Try.prog 38 [.v (ptrV D)] [pdk 0 D d] 1 fx (RetE (α := Unit) 1 (fun _ => True) (fun _ => .v (.int .i64 d.l.length)) (fun _ => [pdk 0 D d]) 1 (fun _ => [])) :=
  Tri.pin1 (tSize fx d) D (fun ρ h => by simp only [denL_cons, denL_nil, den, ptrV, h]) (fun _ => rfl)
theorem pWrite (fx : List Fact) (D : Nat) (d : DS) (hd : d.Ok) (i : Int) (A : Option Addr) (cap : Nat) (b : List UInt8) (hB : BytesAt fx A b) :
    Tri Try.prog 27 [.v (ptrV D), .v (.int .i64 i), .v (.slice A b.length cap)] [pdk 0 D d] 1 fx (RetE (α := Unit) 1 (fun _ => True) (fun _ => .v (.int .i64 (d.write i b).1)) (fun _ => [pdk 0 D (d.write i b).2]) 1 (fun _ => [])) :=
  Tri.pin1 (tWrite fx d hd i A cap b hB) D (fun ρ h => by simp only [denL_cons, denL_nil, den, ptrV, h]) (fun _ => rfl)
theorem pSync (fx : List Fact) (D : Nat) (d : DS) (hd : d.Ok) : Tri Try.prog 35 [.v (ptrV D)] [pdk 0 D d] 1 fx (RetE (α := Unit) 1 (fun _ => True) (fun _ => .v (.int .i64 d.sync.1)) (fun _ => [pdk 0 D d.sync.2]) 1 (fun _ => [])) :=
  Tri.pin1 (tSync fx d hd) D (fun ρ h => by simp only [denL_cons, denL_nil, den, ptrV, h]) (fun _ => rfl)
theorem pRead (fx : List Fact) (D : Nat) (d : DS) (hd : d.Ok) (h : d.down = false) (i : Nat) (hi : i < d.l.length) :
    Tri Try.prog 29 [.v (ptrV D), .v (.int .i64 i)] [pdk 0 D d] 1 fx (RetE (α := List Value) 1 (fun _ => True) (fun sp => .tup [.s 1 0 64 (64 + sp.length), .k .i64 0]) (fun sp => [pdk 0 D d, (1, .row ((d.get i).map bv ++ sp) 5)]) 2 (fun _ => [])) :=
  Tri.pinE (tRead fx d hd h i hi) D (by decide) rfl rfl (fun _ => rfl) (fun ρ h => by simp only [denL_cons, denL_nil, den, ptrV, h]) [0, 1] (fun _ => rfl) (fun _ => SEq.ren rfl rfl) (fun _ => ⟨OSub.ren rfl rfl, OSub.ren rfl rfl, trivial⟩)
theorem pMendErr (fx : List Fact) (D : Nat) (d : DS) (hd : d.Ok) (at_ : Int) (ha : -1000000 ≤ at_ ∧ at_ ≤ 1000000) (he : d.lerr at_ ≠ 0) :
    Tri Try.prog 45 [.v (ptrV D), .v (.int .i64 at_)] [pdk 0 D d] 1 fx (RetE (α := Unit) 1 (fun _ => True) (fun _ => .v (.int .i64 (d.lerr at_))) (fun _ => [pdk 0 D d]) 1 (fun _ => [])) :=
  Tri.pin1 (tMendErr fx d hd at_ ha he) D (fun ρ h => by simp only [denL_cons, denL_nil, den, ptrV, h]) (fun _ => rfl)
theorem pMend (fx : List Fact) (D : Nat) (d : DS) (hd : d.Ok) (h : d.down = false) (p : Nat) (hp : p + 2 < d.l.length) :
    Tri Try.prog 45 [.v (ptrV D), .v (.int .i64 p)] [pdk 0 D d] 1 fx (RetE (α := Unit) 1 (fun _ => True) (fun _ => .v (.int .i64 (d.mend p).1)) (fun _ => [pdk 0 D (d.mend p).2]) 1 (fun _ => [])) :=
  Tri.pin1 (tMend fx d hd h p hp) D (fun ρ h => by simp only [denL_cons, denL_nil, den, ptrV, h]) (fun _ => rfl)
theorem pLoad (fx : List Fact) (D : Nat) (d : DS) (hd : d.Ok) (h : d.down = false) (p : Nat) (hp : p + 2 < d.l.length) :
    Tri Try.prog 44 [.v (ptrV D), .v (.int .i64 p)] [pdk 0 D d] 1 fx (RetE (α := Rd3 × VlA) 1 (fun x => BytesAt (x.1.f d p ++ fx) x.2.A (d.val p)) (fun x => .tup [.v (.slice x.2.A 64 x.2.cap), .k .i64 0]) (fun _ => [pdk 0 D d]) 1 (fun x => x.1.f d p)) :=
  Tri.pin1 (tLoad fx d hd h p hp) D (fun ρ h => by simp only [denL_cons, denL_nil, den, ptrV, h]) (fun _ => rfl)
theorem pLoadF (fx : List Fact) (D : Nat) (d : DS) (hd : d.Ok) (h : d.down = false) (p : Nat) (hp : p + 2 < d.l.length) :
    Tri Try.prog 44 [.v (ptrV D), .v (.int .i64 p)] [pdk 0 D d] 1 fx (RetE (α := VlA × List Fact) 1 (fun x => BytesAt (x.2 ++ fx) x.1.A (d.val p) ∧ 64 ≤ x.1.cap) (fun x => .tup [.v (.slice x.1.A 64 x.1.cap), .k .i64 0]) (fun _ => [pdk 0 D d]) 1 (fun x => x.2)) :=
  Tri.pin1 (tLoadC fx d hd h p hp) D (fun ρ h => by simp only [denL_cons, denL_nil, den, ptrV, h]) (fun _ => rfl)
theorem pSaveRow (fx : List Fact) (D : Nat) (d : DS) (hd : d.Ok) (at_ : Int) (ha : -1000000 ≤ at_ ∧ at_ ≤ 1000000) (b : List UInt8) (hb : b.length ≤ 64) (o : SObj) (xs : List Value) (ho : rowOf o xs 5) (cap : Nat) (hx : xs.take b.length = b.map bv) :
    Tri Try.prog 43 [.v (ptrV D), .v (.int .i64 at_), .s 1 0 b.length cap] [pdk 0 D d, (1, o)] 2 fx (RetE (α := Unit) 2 (fun _ => True) (fun _ => .v (.int .i64 (d.save at_ b).1)) (fun _ => [pdk 0 D (d.save at_ b).2]) 2 (fun _ => [])) :=
  Tri.pinE (tSaveRow fx d hd at_ ha b hb o xs ho cap hx) D (by decide) rfl rfl (fun _ => rfl) (fun ρ h => by simp only [denL_cons, denL_nil, den, ptrV, h]) [0, 1] (fun _ => rfl) (fun _ => SEq.ren rfl rfl) (fun _ => ⟨OSub.ren rfl rfl, trivial⟩)
theorem pSetFuse (fx : List Fact) (D : Nat) (d : DS) (n : Int) : Tri Try.prog 40 [.v (ptrV D), .v (.int .i64 n)] [pdk 0 D d] 1 fx (RetE (α := Unit) 1 (fun _ => True) (fun _ => .tup []) (fun _ => [pdk 0 D (d.setFuse n)]) 1 (fun _ => [])) :=
  Tri.pin1 (tSetFuse fx d n) D (fun ρ h => by simp only [denL_cons, denL_nil, den, ptrV, h]) (fun _ => rfl)
theorem pCrash (fx : List Fact) (D : Nat) (d : DS) (hd : d.Ok) (A : Option Addr) (cap : Nat) (keep : List Bool) (torn at_ : Int) (hK : BoolsAt fx A keep) (hk : keep.length ≤ 1000000000) (ht : -9223372036854775808 ≤ at_ ∧ at_ < 9223372036854775808) :
    Tri Try.prog 28 [.v (ptrV D), .agg [.v (.slice A keep.length cap), .v (.int .i64 torn), .v (.int .i64 at_)]] [pdk 0 D d] 1 fx (RetE (α := Unit) 1 (fun _ => True) (fun _ => .tup []) (fun _ => [pdk 0 D (d.crash keep torn at_)]) 1 (fun _ => [])) :=
  Tri.pin1 (tCrash fx d hd A cap keep torn at_ hK hk ht) D (fun ρ h => by simp only [denL_cons, denL_nil, den, ptrV, h]) (fun _ => rfl)
/-- A new disk, and its place. -/
theorem pNew (fx : List Fact) (n : Nat) (hn : n ≤ 4096) : Tri Try.prog 26 [.v (.int .i64 n)] [] 0 fx (RetE (α := Nat) 0 (fun _ => True) (fun D => .tup [.v (ptrV D), .k .i64 0]) (fun D => [pdk 0 D (DS.new n)]) 1 (fun _ => [])) := by
  have T := (tNew fx n hn).conv.tell (post' := fun y h m f => ∃ D : Nat, y = .tup [.p 0 0, .k .i64 0] ∧ h = [pdk 0 D (DS.new n)] ∧ m = 1 ∧ f = []) (fun y h m f ⟨_, _, e1, e2, e3, e4⟩ => by
    subst e1 e2 e3 e4
    exact ⟨0, dskA (DS.new n), Nat, _, 0, List.mem_singleton.2 rfl, told_pin _, fun D => ⟨D, rfl, rfl, rfl, rfl⟩⟩)
  refine ⟨trivial, fun ρ F w hh hrob => ?_⟩
  refine (T.run ρ F w hh hrob).mono fun e w' ⟨y, h', m', fx', ρ', F', ⟨D, e1, e2, e3, e4⟩, he, hy, hh1, hag, hmm, hk, ho, hf⟩ => ?_
  subst e1 e2 e3 e4
  have hD : ρ' 0 = D := (hh1.obj ρ' (Ag.refl _ _) 0 _ (List.mem_cons_self ..)).1
  refine ⟨.tup [.v (ptrV D), .k .i64 0], _, _, _, ρ', F', ⟨D, trivial, Ret.mk [0] [pdk 0 D _] (Fold.refl _) rfl (fun _ _ _ => rfl) ⟨OSub.ren rfl rfl, trivial⟩ (fun _ h => nomatch h)⟩, ?_, fun _ _ => rfl, hh1, hag, hmm, hk, ho, hf⟩
  rw [he]
  simp only [den, denL_cons, denL_nil, hD, ptrV]
end Go.Proofs.Ytekgjjanikicnaa.Sx

namespace Go.Proofs.Ytekgjjanikicnaa.Sx
open Go
set_option maxRecDepth 100000
set_option linter.unusedSimpArgs false
set_option linter.unusedVariables false
/-- A row of slices, as it may stand: nowhere (there are none), or in an own row. -/
inductive RowI where
  | no
  | row (xs : List Value)
def RowI.Ok (l : List BsV) : RowI → Prop
  | .no => l = []
  | .row xs => xs.take l.length = l.map BsV.v ∧ l.length ≤ xs.length
/-- A store: what is kept, what waits, sectors, and is it over. -/
structure StS where
  kept : List BsV
  wait : List BsV
  used : Nat
  next : Nat
  over : Bool
structure StI (s : StS) where
  K : RowI
  W : RowI
  hK : K.Ok s.kept
  hW : W.Ok s.wait
def RowI.sv (r n : Nat) : RowI → SV
  | .no => .v (.slice none 0 0)
  | .row xs => .s r 0 n xs.length
def RowI.hp (r : Nat) : RowI → List (Nat × SObj)
  | .no => []
  | .row xs => [(r, .row xs 22)]
def stC (D : Nat) (K W : SV) (used next : Nat) (over : Bool) : List SV := [.v (ptrV D), K, W, .v (.int .i64 used), .v (.int .i64 next), .v (.bool over)]
def stL (D : Nat) (s : StS) (i : StI s) : List (Nat × SObj) := (0, .cells (stC D (i.K.sv 1 s.kept.length) (i.W.sv 2 s.wait.length) s.used s.next s.over) 115) :: (i.K.hp 1 ++ i.W.hp 2)
def stoA (D : Nat) (s : StS) : AR := bun (stL D s)
theorem stL_keys (D : Nat) (s : StS) (v : StI s) : ∀ j o, (j, o) ∈ stL D s v → j < 2 + 1 ∧ idsA (2 + 1) o = true := by
  obtain ⟨K, W, hK, hW⟩ := v
  intro j o h
  cases K <;> cases W <;> simp only [stL, RowI.hp, RowI.sv, List.nil_append, List.cons_append, List.append_nil, List.mem_cons, List.not_mem_nil, or_false, Prod.mk.injEq] at h
  · obtain ⟨rfl, rfl⟩ := h; exact ⟨by decide, rfl⟩
  · rcases h with ⟨rfl, rfl⟩ | ⟨rfl, rfl⟩ <;> exact ⟨by decide, rfl⟩
  · rcases h with ⟨rfl, rfl⟩ | ⟨rfl, rfl⟩ <;> exact ⟨by decide, rfl⟩
  · rcases h with ⟨rfl, rfl⟩ | ⟨rfl, rfl⟩ | ⟨rfl, rfl⟩ <;> exact ⟨by decide, rfl⟩
theorem told_sto (D : Nat) (s : StS) : Told (stoA D s) (fun v r k => renH (nm r k) (stL D s v)) 2 := told_bun (stL D s) 2 (fun v => stL_keys D s v)
/-- The store, out of its parts; the other regions stay. -/
theorem sto_fold {D : Nat} {s : StS} (v : StI s) (a k w : Nat) {h : List (Nat × SObj)} {cs : List SV} (hne : a ≠ k ∧ a ≠ w ∧ k ≠ w)
    (h0 : (a, SObj.cells cs 115) ∈ h) (hc : ∀ ρ, denL ρ cs = denL (fun n => ρ (sg [a, k, w] n)) (stC D (v.K.sv 1 s.kept.length) (v.W.sv 2 s.wait.length) s.used s.next s.over))
    (h1 : ∀ xs, v.K = .row xs → (k, SObj.row xs 22) ∈ h) (h2 : ∀ xs, v.W = .row xs → (w, SObj.row xs 22) ∈ h) :
    ∃ l, Fold h ((a, .abs (stoA D s)) :: l) ∧ ∀ r o, (r, o) ∈ h → r ≠ a → r ≠ k → r ≠ w → (r, o) ∈ l := by
  obtain ⟨K, W, hK, hW⟩ := v
  obtain ⟨e1, e2, e3⟩ := hne
  have ib : ∀ {x y : Nat}, x ≠ y → Nat.beq x y = false := fun h => by rw [Bool.eq_false_iff, ne_eq, Nat.beq_eq]; exact h
  have sg0 : sg [a, k, w] 0 = a := rfl
  have sg1 : sg [a, k, w] 1 = k := rfl
  have sg2 : sg [a, k, w] 2 = w := rfl
  have stay : ∀ (ns : List Nat), (∀ n ∈ ns, n = a ∨ n = k ∨ n = w) → ∀ r o, (r, o) ∈ h → r ≠ a → r ≠ k → r ≠ w → (r, o) ∈ restH ns h := fun ns hn r o hm h1 h2 h3 => mem_restH hm (by
    rw [List.any_eq_false]
    intro n hn' he
    have := Nat.eq_of_beq_eq_true he
    subst this
    rcases hn _ hn' with e | e | e
    · exact h1 e
    · exact h2 e
    · exact h3 e)
  cases K with
  | no => cases W with
    | no => exact ⟨_, bun_fold (L := stL D s) ⟨.no, .no, hK, hW⟩ [a, k, w] rfl ⟨⟨_, h0, OSame.cells hc⟩, trivial⟩, stay _ (fun n hn => .inl (by simpa [stL, RowI.hp, sg0] using hn))⟩
    | row ys =>
      refine ⟨_, bun_fold (L := stL D s) ⟨.no, .row ys, hK, hW⟩ [a, k, w] ?_ ⟨⟨_, h0, OSame.cells hc⟩, ⟨_, h2 ys rfl, OSame.ren rfl⟩, trivial⟩, stay _ (fun n hn => ?_)⟩
      · simp only [injB, stL, RowI.hp, List.nil_append, List.map_cons, List.map_nil, List.any_cons, List.any_nil, List.all_cons, List.all_nil, sg0, sg2, ib e2, ib (Ne.symm e2)]
        rfl
      · simp only [stL, RowI.hp, List.nil_append, List.map_cons, List.map_nil, sg0, sg2, List.mem_cons, List.not_mem_nil, or_false] at hn
        rcases hn with e | e
        · exact .inl e
        · exact .inr (.inr e)
  | row xs => cases W with
    | no =>
      refine ⟨_, bun_fold (L := stL D s) ⟨.row xs, .no, hK, hW⟩ [a, k, w] ?_ ⟨⟨_, h0, OSame.cells hc⟩, ⟨_, h1 xs rfl, OSame.ren rfl⟩, trivial⟩, stay _ (fun n hn => ?_)⟩
      · simp only [injB, stL, RowI.hp, List.append_nil, List.map_cons, List.map_nil, List.any_cons, List.any_nil, List.all_cons, List.all_nil, sg0, sg1, ib e1, ib (Ne.symm e1)]
        rfl
      · simp only [stL, RowI.hp, List.append_nil, List.map_cons, List.map_nil, sg0, sg1, List.mem_cons, List.not_mem_nil, or_false] at hn
        rcases hn with e | e
        · exact .inl e
        · exact .inr (.inl e)
    | row ys =>
      refine ⟨_, bun_fold (L := stL D s) ⟨.row xs, .row ys, hK, hW⟩ [a, k, w] ?_ ⟨⟨_, h0, OSame.cells hc⟩, ⟨_, h1 xs rfl, OSame.ren rfl⟩, ⟨_, h2 ys rfl, OSame.ren rfl⟩, trivial⟩, stay _ (fun n hn => ?_)⟩
      · simp only [injB, stL, RowI.hp, List.cons_append, List.nil_append, List.map_cons, List.map_nil, List.any_cons, List.any_nil, List.all_cons, List.all_nil, sg0, sg1, sg2, ib e1, ib (Ne.symm e1), ib e2, ib (Ne.symm e2), ib e3, ib (Ne.symm e3)]
        rfl
      · simp only [stL, RowI.hp, List.cons_append, List.nil_append, List.map_cons, List.map_nil, sg0, sg1, sg2, List.mem_cons, List.not_mem_nil, or_false] at hn
        rcases hn with e | e | e
        · exact .inl e
        · exact .inr (.inl e)
        · exact .inr (.inr e)
/-- A disk and a store, as a call leaves them. -/
theorem sto_ret {D : Nat} {d : DS} {s : StS} (v : StI s) (k w : Nat) {h : List (Nat × SObj)} {cs : List SV} {x y : SV} {n : Nat} {f0 f : List Fact} {m0 : Nat} (hne : Nat.ble 2 k = true ∧ Nat.ble 2 w = true ∧ Nat.beq k w = false)
    (h0 : (1, SObj.cells cs 115) ∈ h) (hp : (0, SObj.abs (pinA D (dskA d))) ∈ h)
    (h1 : ∀ xs, v.K = .row xs → (k, SObj.row xs 22) ∈ h) (h2 : ∀ xs, v.W = .row xs → (w, SObj.row xs 22) ∈ h)
    (hc : ∀ ρ, denL ρ cs = denL (fun n => ρ (sg [1, k, w] n)) (stC D (v.K.sv 1 s.kept.length) (v.W.sv 2 s.wait.length) s.used s.next s.over))
    (hn : namesOk m0 n 2 [0, 1] [0, 1] = true) (hv : SEq 2 [0, 1] x y) (hf : ∀ g, g ∈ f0 → g ∈ f) : Ret m0 x [pdk 0 D d, (1, .abs (stoA D s))] 2 f0 y h n f := by
  obtain ⟨a1, a2, a3⟩ := hne
  have a1 := Nat.le_of_ble_eq_true a1
  have a2 := Nat.le_of_ble_eq_true a2
  have a3 : k ≠ w := fun e => by subst e; rw [Nat.beq_refl] at a3; cases a3
  obtain ⟨l, hl, hst⟩ := sto_fold v 1 k w ⟨by omega, by omega, a3⟩ h0 hc h1 h2
  exact Ret.mk [0, 1] [pdk 0 D d, (1, .abs (stoA D s))] (hl.trans (Fold.drop2 (List.mem_cons_of_mem _ (hst 0 _ hp (by omega) (by omega) (by omega))) (List.mem_cons_self ..))) hn hv ⟨OSub.ren rfl rfl, OSub.ren rfl rfl, trivial⟩ hf
end Go.Proofs.Ytekgjjanikicnaa.Sx

namespace Go.Proofs.Ytekgjjanikicnaa.Sx
open Go
set_option maxRecDepth 100000
set_option linter.unusedSimpArgs false
set_option linter.unusedVariables false
theorem tSTakes (fx : List Fact) (n : Nat) (hn : n < 1000000000000) : Tri Try.prog 78 [.v (.int .i64 n)] [] 0 fx (Ret 0 (.v (.int .i64 (takesN n : Nat))) [] 0 []) := by
  refine Tri.of_code tok Try.func78 rfl rfl rfl (by decide) rfl (Nat.le_of_ble_eq_true rfl) ?_
  conv => whnf
  repeat' ((first | refine w1 (h := ?_) | refine w2 ?_ ?_ | refine w3 (h := ?_) | refine w4 (h := ?_) | refine hD _ _ ?_ | refine hL _ _ ?_ | (intro h; (try simp only [n1, n2, n3, n4, n5, n6] at h); first | (exfalso; omega) | (cases h; done) | skip)) <;> (conv => whnf))
  refine Ret.noneS rfl (fun _ _ => ?_) (fun _ h => nomatch h)
  simp only [den, takesN]
  congr 1
theorem or_i64 (x y : Nat) (hx : x < 4611686018427387904) (hy : y < 4611686018427387904) : bitz .or .i64 (x : Int) (y : Int) = ((x ||| y : Nat) : Int) := by
  have ex : (BitVec.ofInt IntKind.i64.bits (x : Int)).toNat = x := by simp [IntKind.bits]; omega
  have ey : (BitVec.ofInt IntKind.i64.bits (y : Int)).toNat = y := by simp [IntKind.bits]; omega
  have hb : x ||| y < 2 ^ 62 := Nat.or_lt_two_pow (by omega) (by omega)
  simp only [bitz, BitVec.toNat_or, ex, ey]
  exact wrap_i64_of _ (by omega) (by omega)
theorem put_step (x i : Nat) (hx : x < 4611686018427387904) (hi : 8 * i < 64) : Value.int .u8 (IntKind.u8.wrap ((x : Int) / ((pw .i64 (8 * (i : Int)) : Nat) : Int))) = bv (UInt8.ofNat (x / 2 ^ (8 * i))) := by
  have e : pw .i64 (8 * (i : Int)) = 2 ^ (8 * i) := by
    unfold pw
    congr 1
    simp [IntKind.bits]; omega
  rw [e, div_nat, wrap_u8_nat]
  simp only [bv, UInt8.toNat_ofNat']
theorem putB_get (x : Nat) {n i : Nat} (h : i < n) : (putB x n)[i]? = some (UInt8.ofNat (x / 2 ^ (8 * i))) := by
  simp [putB, List.getElem?_range h]
theorem row_putS {l : List UInt8} {n i : Nat} (hl : l.length = n) (hi : i < n) {v : Value} {c : UInt8} (hc : l[i]? = some c) (hv : v = bv c) :
    splice ((l.take i).map bv ++ List.replicate (n - i) (.int .u8 0)) (0 + i * 1) [v] = (l.take (i + 1)).map bv ++ List.replicate (n - (i + 1)) (.int .u8 0) := by
  subst hv
  have h1 : ((l.take i).map bv).length = i := by simp; omega
  unfold splice
  rw [show 0 + i * 1 = i by omega, List.take_left' h1, List.length_singleton, List.drop_append, h1, List.drop_of_length_le (by rw [h1]; omega), show i + 1 - i = 1 by omega, List.nil_append, List.drop_replicate, List.take_add_one, hc]
  simp [Nat.sub_sub]
theorem tSPut (fx : List Fact) (x n : Nat) (hx : x < 4611686018427387904) (hn : n ≤ 8) (h0 : 0 < n) : Tri Try.prog 79 [.v (.int .i64 x), .v (.int .i64 n)] [] 0 fx (RetE (α := Unit) 0 (fun _ => True) (fun _ => .s 0 0 n n) (fun _ => [(0, .row ((putB x n).map bv) 5)]) 1 (fun _ => [])) := by
  refine Tri.one ?_
  have hl := putB_length x n
  refine Tri.of_code tok Try.func79 rfl rfl rfl (by decide) rfl (Nat.le_of_ble_eq_true rfl) ?_
  conv => whnf
  repeat' ((first | refine w1 (h := ?_) | refine w2 ?_ ?_ | refine w3 (h := ?_) | refine w4 (h := ?_) | refine hD _ _ ?_ | refine hL _ _ ?_ | (intro h; (try simp only [n1, n2, n3, n4, n5, n6] at h); first | (exfalso; omega) | (cases h; done) | skip)) <;> (conv => whnf))
  refine loop_by tok (α := Nat) (fun i => ⟨[(0, .v (.int .i64 x)), (5, .s 0 0 n n), (10, .v (.int .i64 n)), (11, .v (.int .i64 (i : Int)))], [(0, .row (((putB x n).take i).map bv ++ List.replicate (n - i) (.int .u8 0)) 5)], 1, fx⟩)
    (fun i => i ≤ n) (fun i => n - i) 0 [0] (Nat.zero_le _) ⟨rfl, ⟨fun _ _ _ => rfl, SEq.ren rfl rfl, fun _ _ _ => rfl, fun _ _ _ => rfl, trivial⟩, ⟨OSub.row (by rw [repRow_one]; rfl), trivial⟩, fun f hf => hf⟩ ?_
  rintro i hi
  have hrl : (((putB x n).take i).map bv ++ List.replicate (n - i) (Value.int .u8 0)).length = n := by simp; omega
  conv => whnf
  repeat' ((first | (refine And.intro (by rw [hrl, List.length_singleton]; omega) ?_) | refine w1 (h := ?_) | refine w2 ?_ ?_ | refine w3 (h := ?_) | refine w4 (h := ?_) | refine hD _ _ ?_ | refine hL _ _ ?_ | (intro h; (try simp only [n1, n2, n3, n4, n5, n6] at h); first | (exfalso; omega) | (cases h; done) | skip)) <;> (conv => whnf))
  · refine ⟨i + 1, [0], ⟨by omega, by omega⟩, ⟨rfl, ⟨fun _ _ _ => rfl, SEq.ren rfl rfl, fun _ _ _ => rfl, fun _ _ _ => rfl, trivial⟩, ⟨OSub.row (row_putS hl (by omega) (putB_get x (by omega)) (put_step x i hx (by omega))).symm, trivial⟩, fun f hf => hf⟩⟩
  · obtain rfl : i = n := by omega
    exact Ret.mk [0] [(0, .row (((putB x i).take i).map bv ++ List.replicate (i - i) (.int .u8 0)) 5)] (Fold.drop1 (by repeat first | exact List.mem_cons_self .. | apply List.mem_cons_of_mem)) rfl (SEq.ren rfl rfl) ⟨OSub.row (by rw [List.take_of_length_le (by rw [hl]; omega)]; simp), trivial⟩ (fun _ h => nomatch h)
theorem num_step {x : Nat} (c : UInt8) (hx : x ≤ 1073741824) : bitz .or .i64 (IntKind.i64.wrap ((x : Int) * ((256 : Nat) : Int))) (c.toNat : Int) = ((c.toNat + 256 * x : Nat) : Int) := by
  have := c.toNat_lt
  rw [mul_nat, wrap_i64_of _ (by omega) (by omega), or_i64 _ _ (by omega) (by omega), or_256 _ _ (by omega)]
  congr 1
  omega
theorem tSNumber (fx : List Fact) (A : Option Addr) (cap : Nat) (b : List UInt8) (hA : BytesAt fx A b) (hl : b.length < 1000000) : Tri Try.prog 76 [.v (.slice A b.length cap)] [] 0 fx (RetE (α := Unit) 0 (fun _ => True) (fun _ => .v (.int .i64 (numB b))) (fun _ => []) 0 (fun _ => [])) := by
  refine Tri.one ?_
  refine Tri.of_code tok Try.func76 rfl rfl rfl (by decide) rfl (Nat.le_of_ble_eq_true rfl) ?_
  conv => whnf
  repeat' ((first | refine w1 (h := ?_) | refine w2 ?_ ?_ | refine w3 (h := ?_) | refine w4 (h := ?_) | refine hD _ _ ?_ | refine hL _ _ ?_ | (intro h; (try simp only [n1, n2, n3, n4, n5, n6] at h); first | (exfalso; omega) | (cases h; done) | skip)) <;> (conv => whnf))
  refine loop_by tok (α := Nat) (fun i => ⟨[(0, .v (.slice A b.length cap)), (3, .v (.int .i64 (leN (b.drop i) : Nat))), (4, .v (.int .i64 ((i : Int) - 1)))], [], 0, fx⟩)
    (fun i => i ≤ b.length ∧ leN (b.drop i) ≤ 1073741824) (fun i => i) b.length [] ⟨Nat.le_refl _, by rw [List.drop_length]; simp [leN]⟩ ⟨rfl, ⟨fun _ _ _ => rfl, SEq.eq (by rw [List.drop_length]; rfl), fun _ _ _ => rfl, trivial⟩, trivial, fun f hf => hf⟩ ?_
  rintro i ⟨hi, hx⟩
  conv => whnf
  repeat' ((first | refine w1 (h := ?_) | refine w2 ?_ ?_ | refine w3 (h := ?_) | refine w4 (h := ?_) | refine hD _ _ ?_ | refine hL _ _ ?_ | (intro h; (try simp only [n1, n2, n3, n4, n5, n6] at h); first | (exfalso; omega) | (cases h; done) | skip)) <;> (conv => whnf))
  · obtain ⟨j, rfl⟩ : ∃ j, i = j + 1 := ⟨i - 1, by omega⟩
    obtain ⟨ad, rfl, h1⟩ := hA.get (i := j) (by omega)
    have ej : (((j + 1 : Nat) : Int) - 1).toNat = j := by omega
    have e1 := leN_drop (b := b) (i := j) (by omega)
    have es := num_step (x := leN (b.drop (j + 1))) b[j] hx
    rw [← e1] at es
    rw [ej]
    have hcl := b[j].toNat_lt
    conv => whnf
    repeat' ((first | refine w1 (h := ?_) | refine w2 ?_ ?_ | refine w3 (h := ?_) | refine w4 (h := ?_) | refine hD _ _ ?_ | refine hL _ _ ?_ | (intro h; (try simp only [n1, n2, n3, n4, n5, n6] at h); first | (exfalso; omega) | (cases h; done) | skip)) <;> (conv => whnf))
    · have hge := leN_drop_le b j
      rename_i h
      rw [es] at h
      refine Ret.noneS rfl (fun _ _ => ?_) (fun _ h => nomatch h)
      simp only [den, numB]
      rw [if_pos (by omega)]
    · rename_i h
      rw [es] at h
      refine ⟨j, [], ⟨⟨by omega, by omega⟩, by omega⟩, rfl, ⟨fun _ _ _ => rfl, SEq.eq (by rw [es]), SEq.eq ?_, trivial⟩, trivial, fun f hf => hf⟩
      congr 1
      omega
  · obtain rfl : i = 0 := by omega
    refine Ret.noneS rfl (fun _ _ => ?_) (fun _ h => nomatch h)
    rw [List.drop_zero] at hx
    simp only [den, numB_small hx, List.drop_zero]
/-- A copy of bytes that are told by facts. -/
theorem tSCloneRow (fx : List Fact) (ad : Addr) (cap : Nat) (l : List UInt8) (hA : BytesAt fx (some ad) l) (hl : l.length < 1000000000) :
    Tri Try.prog 62 [.v (.slice (some ad) l.length cap)] [] 0 fx (RetE (α := List Value) 0 (fun xs => xs.take l.length = l.map bv ∧ l.length ≤ xs.length) (fun xs => .s 0 0 l.length xs.length) (fun xs => [(0, .row xs 5)]) 1 (fun _ => [])) := by
  have hbA : (l.map bv).length = l.length * 1 ∧ RowAt fx (some ad) (l.map bv) := ⟨by simp, hA.rowAt⟩
  refine Tri.of_code tok Try.func62 rfl rfl rfl (by decide) rfl (Nat.le_of_ble_eq_true rfl) ?_
  conv => whnf
  repeat' ((first | (refine Exists.intro (l.map bv) (And.intro hbA ?_)) | refine w1 (h := ?_) | refine w2 ?_ ?_ | refine w3 (h := ?_) | refine w4 (h := ?_) | refine hD _ _ ?_ | refine hL _ _ ?_ | (intro h; (try simp only [n1, n2, n3, n4, n5, n6] at h); first | (exfalso; omega) | (cases h; done) | skip)) <;> (conv => whnf))
  refine And.intro ⟨by omega, by omega, by simp, fun u hu => by obtain ⟨c, _, rfl⟩ := List.mem_map.1 hu; rfl⟩ ?_
  intro m sp hsp
  conv => whnf
  repeat' ((first | refine w1 (h := ?_) | refine w2 ?_ ?_ | refine w3 (h := ?_) | refine w4 (h := ?_) | refine hD _ _ ?_ | refine hL _ _ ?_ | (intro h; (try simp only [n1, n2, n3, n4, n5, n6] at h); first | (exfalso; omega) | (cases h; done) | skip)) <;> (conv => whnf))
  refine ⟨List.map bv l ++ sp, ⟨by rw [List.take_left' (by simp)], by simp⟩, Ret.mk [1] [(1, .row (List.map bv l ++ sp) 5)] (Fold.drop1 (by repeat first | exact List.mem_cons_self .. | apply List.mem_cons_of_mem)) rfl (SEq.ren rfl ?_) ⟨OSub.ren rfl rfl, trivial⟩ (fun _ h => nomatch h)⟩
  simp only [ren, sg, List.length_append, List.length_map, hsp, Nat.zero_add, Nat.mul_one]
  rfl
theorem BytesAt.nil {fx : List Fact} {A : Option Addr} : BytesAt fx A [] := ⟨fun _ => rfl, fun ad e j y hj => by simp at hj⟩
theorem tSClone (fx : List Fact) (A : Option Addr) (cap : Nat) (l : List UInt8) (hA : BytesAt fx A l) (hl : l.length < 1000000000) :
    Tri Try.prog 62 [.v (.slice A l.length cap)] [] 0 fx (RetE (α := BsV × List Fact) 0 (fun x => x.1.bs = l ∧ x.1.Fit x.2) (fun x => .v x.1.v) (fun _ => []) 0 (fun x => x.2)) := by
  cases A with
  | none =>
    obtain rfl := hA.1 rfl
    refine Tri.of_code tok Try.func62 rfl rfl rfl (by decide) rfl (Nat.le_of_ble_eq_true rfl) ?_
    conv => whnf
    repeat' ((first | refine w1 (h := ?_) | refine w2 ?_ ?_ | refine w3 (h := ?_) | refine w4 (h := ?_) | refine hD _ _ ?_ | refine hL _ _ ?_ | (intro h; (try simp only [n1, n2, n3, n4, n5, n6] at h); first | (exfalso; omega) | (cases h; done) | skip)) <;> (conv => whnf))
    exact ⟨(⟨none, [], 0⟩, []), ⟨rfl, Nat.le_refl _, BytesAt.nil⟩, Ret.noneS rfl (fun _ _ => rfl) (fun _ h => nomatch h)⟩
  | some ad =>
    refine Tri.share (tSCloneRow fx ad cap l hA hl).conv fun y h m f ⟨xs, ⟨p1, p2⟩, e1, e2, e3, e4⟩ => ?_
    subst e1 e2 e3 e4
    refine ⟨0, xs, 5, List.mem_singleton.2 rfl, fun b => ⟨.v (.slice (some ⟨b, 0, none⟩) l.length xs.length), fun ρ hr => by subst hr; rfl, (⟨some ⟨b, 0, none⟩, l, xs.length⟩, [rowFact b xs 5]), ⟨rfl, p2, BytesAt.row (List.mem_cons_self ..) (by rw [List.drop_zero]; exact p1)⟩, ?_⟩⟩
    exact Ret.mk [] [] (Fold.drop (fun e he => by cases he)) rfl (fun _ _ _ => rfl) trivial (fun g hg => by simpa using hg)
end Go.Proofs.Ytekgjjanikicnaa.Sx

namespace Go.Proofs.Ytekgjjanikicnaa.Sx
open Go
set_option maxRecDepth 100000
set_option linter.unusedSimpArgs false
set_option linter.unusedVariables false
/-- A store's struct. -/
abbrev stc (r D : Nat) (K W : SV) (used next : Nat) (over : Bool) : Nat × SObj := (r, .cells (stC D K W used next over) 115)
/-- A region that names no others. -/
def Plain (o : SObj) : Prop := (∃ xs T, o = .row xs T) ∨ ∃ A, o = .abs A
theorem Plain.sub {o : SObj} (h : Plain o) {n : Nat} {σ : List Nat} : OSub n σ o o := by
  rcases h with ⟨xs, T, rfl⟩ | ⟨A, rfl⟩
  · exact OSub.row rfl
  · exact OSub.abs
theorem Fold.drop4 {a b c d : Nat × SObj} {h : List (Nat × SObj)} (ha : a ∈ h) (hb : b ∈ h) (hc : c ∈ h) (hd : d ∈ h) : Fold h [a, b, c, d] := Fold.drop fun e he => by
  rcases List.mem_cons.1 he with rfl | he
  · exact ha
  rcases List.mem_cons.1 he with rfl | he
  · exact hb
  rcases List.mem_cons.1 he with rfl | he
  · exact hc
  · obtain rfl := List.mem_singleton.1 he
    exact hd
mutual
theorem idsB_mono {n m : Nat} (h : n ≤ m) : ∀ {x : SV}, idsB n x = true → idsB m x = true
  | .v _, _ => rfl
  | .b _, _ => rfl
  | .k _ _, _ => rfl
  | .p r _, hs => by simp only [idsB, Nat.blt_eq] at hs ⊢; omega
  | .q r _, hs => by simp only [idsB, Nat.blt_eq] at hs ⊢; omega
  | .s r _ _ _, hs => by simp only [idsB, Nat.blt_eq] at hs ⊢; omega
  | .m r, hs => by simp only [idsB, Nat.blt_eq] at hs ⊢; omega
  | .agg cs, hs => by simp only [idsB] at hs ⊢; exact idsL_mono h hs
  | .tup cs, hs => by simp only [idsB] at hs ⊢; exact idsL_mono h hs
  | .fn _ a c, hs => by simp only [idsB, Bool.and_eq_true] at hs ⊢; exact ⟨idsL_mono h hs.1, idsL_mono h hs.2⟩
theorem idsL_mono {n m : Nat} (h : n ≤ m) : ∀ {l : List SV}, idsL n l = true → idsL m l = true
  | [], _ => rfl
  | x :: r, hs => by simp only [idsL, Bool.and_eq_true] at hs ⊢; exact ⟨idsB_mono h hs.1, idsL_mono h hs.2⟩
end
theorem rdE_parts {g : Nat → Sec} {used pos : Nat} {b : List UInt8} {p : Nat} (h : rdE g used pos = some (b, p)) : pos < used ∧ leN ((g (3 + pos)).take 2) ≤ 200 ∧ pos + takesN (leN ((g (3 + pos)).take 2)) ≤ used ∧ b = ((secs g (3 + pos) (takesN (leN ((g (3 + pos)).take 2)))).drop 2).take (leN ((g (3 + pos)).take 2)) ∧ p = pos + takesN (leN ((g (3 + pos)).take 2)) := by
  unfold rdE at h
  split at h
  · cases h
  · split at h
    · cases h
    · simp only [Option.some.injEq, Prod.mk.injEq] at h
      exact ⟨by omega, by omega, by omega, h.1.symm, h.2.symm⟩
theorem OSub.sto {n : Nat} {σ : List Nat} {D : Nat} {K W : SV} {u x u' x' : Int} {o o' : Bool} (hn : Nat.ble 3 n = true) (hs : sg σ 0 = 0 ∧ sg σ 1 = 1 ∧ sg σ 2 = 2) (hK : idsB 3 K = true) (hW : idsB 3 W = true) (e : u = u' ∧ x = x' ∧ o = o') :
    OSub n σ (.cells [.v (ptrV D), K, W, .v (.int .i64 u), .v (.int .i64 x), .v (.bool o)] 115) (.cells [.v (ptrV D), K, W, .v (.int .i64 u'), .v (.int .i64 x'), .v (.bool o')] 115) := fun ρ ρ'' ha w b F ho => by
  obtain ⟨rfl, rfl, rfl⟩ := e
  have hn := Nat.le_of_ble_eq_true hn
  have ag : Ag 3 ρ ρ'' := fun i hi => by
    have h3 : i = 0 ∨ i = 1 ∨ i = 2 := by omega
    rcases h3 with rfl | rfl | rfl
    · rw [ha 0 (by omega), hs.1]
    · rw [ha 1 (by omega), hs.2.1]
    · rw [ha 2 (by omega), hs.2.2]
  simp only [ObjOk, denL_cons, denL_nil, den_ids ag K hK, den_ids ag W hW] at ho ⊢
  exact ho
set_option maxHeartbeats 1000000 in
theorem tSReadRow (fx : List Fact) (D : Nat) (d : DS) (hd : d.Ok) (hdn : d.down = false) (K W : SV) (hK : idsB 3 K = true) (hW : idsB 3 W = true) (used pos next : Nat) (over : Bool) (o : SObj) (ho : Plain o) (hu : used + 3 ≤ d.l.length) (b : List UInt8) (p : Nat) (hr : rdE d.get used pos = some (b, p)) :
    Tri Try.prog 77 [.p 1 0, .v (.int .i64 used)] [pdk 0 D d, stc 1 D K W pos next over, (2, o)] 3 fx
      (RetE (α := List Value) 3 (fun xs => xs.take b.length = b.map bv ∧ b.length ≤ xs.length) (fun xs => .tup [.s 3 0 b.length xs.length, .k .i64 0]) (fun xs => [pdk 0 D d, stc 1 D K W p next over, (2, o), (3, .row xs 5)]) 4 (fun _ => [])) := by
  obtain ⟨h1, h2, h3, h4, h5⟩ := rdE_parts hr
  have hlen := hd.len
  have htk4 : ∀ n, n ≤ 200 → takesN n ≤ 4 := fun n hn => by unfold takesN; omega
  have hg : ∀ j, j < used → (d.get (3 + j)).length = 64 := fun j hj => hd.get_length (by omega)
  generalize hn : leN ((d.get (3 + pos)).take 2) = n at *
  replace htk4 := htk4 n h2
  show Tri _ _ _ [pdk 0 D d, (1, .cells [.v (ptrV D), K, W, .v (.int .i64 pos), .v (.int .i64 next), .v (.bool over)] 115), (2, o)] 3 fx _
  refine Tri.of_code tok Try.func77 rfl rfl rfl (by decide) rfl (Nat.le_of_ble_eq_true rfl) ?_
  conv => whnf
  repeat' ((first | refine w1 (h := ?_) | refine w2 ?_ ?_ | refine w3 (h := ?_) | refine w4 (h := ?_) | refine hD _ _ ?_ | refine hL _ _ ?_ | (intro h; (try simp only [n1, n2, n3, n4, n5, n6] at h); first | (exfalso; omega) | (cases h; done) | skip)) <;> (conv => whnf))
  have hids : ∀ m, Nat.ble 3 m = true → idsH m [(1, SObj.cells [.v (ptrV D), K, W, .v (.int .i64 pos), .v (.int .i64 next), .v (.bool over)] 115)] = true := fun m hm => by have hm := Nat.le_of_ble_eq_true hm; simp [idsH, idsO, idsL, idsB, idsB_mono hm hK, idsB_mono hm hW]; omega
  refine draw_opaque fun KD hD => ?_
  refine draw_new tok (by kernel_rfl) [.any 0, .any 1, .any 2, .any 4, .any 5, .any 6, .load 3, .one 7, .any 8, .one 9, .any 10, .any 11, .any 12, .any 13, .any 14] [] ([(1, SObj.cells [.v (ptrV D), K, W, .v (.int .i64 pos), .v (.int .i64 next), .v (.bool over)] 115)]) (by kernel_rfl) rfl (hids _ rfl) (by repeat' (first | exact trivial | refine And.intro rfl ?_)) ?_
  conv => whnf
  repeat' ((first | refine w1 (h := ?_) | refine w2 ?_ ?_ | refine w3 (h := ?_) | refine w4 (h := ?_) | refine hD _ _ ?_ | refine hL _ _ ?_ | (intro h; (try simp only [n1, n2, n3, n4, n5, n6] at h); first | (exfalso; omega) | (cases h; done) | skip)) <;> (conv => whnf))
  refine Tri.use (pRead fx D d hd hdn (3 + pos) (by omega)) [0] rfl (args_ren rfl rfl) ⟨OSub.ren rfl rfl, trivial⟩ (fun f hf => by first | exact hf | cases hf | simp_all) (fun u hu => ?_)
  rename List Value => sp
  conv => whnf
  repeat' ((first | refine w1 (h := ?_) | refine w2 ?_ ?_ | refine w3 (h := ?_) | refine w4 (h := ?_) | refine hD _ _ ?_ | refine hL _ _ ?_ | (intro h; (try simp only [n1, n2, n3, n4, n5, n6] at h); first | (exfalso; omega) | (cases h; done) | skip)) <;> (conv => whnf))
  have h2l : ((d.get (3 + pos)).take 2).length = 2 := by rw [List.length_take, hg pos h1]; rfl
  have hnb : numB ((d.get (3 + pos)).take 2) = (n : Int) := by rw [numB_small (by omega), hn]
  refine Tri.lend 3 (xs := (d.get (3 + pos)).map bv ++ sp) (T := 5) (fun b1 => [.v (.slice (some ⟨b1, 0, none⟩) 2 (64 + sp.length))]) (by repeat first | exact List.mem_cons_self .. | apply List.mem_cons_of_mem) rowOf.row (fun _ => rfl) fun b1 => ?_
  have tn := tSNumber (rowFact b1 ((d.get (3 + pos)).map bv ++ sp) 5 :: fx) (some ⟨b1, 0, none⟩) (64 + sp.length) ((d.get (3 + pos)).take 2) (BytesAt.row (List.mem_cons_self ..) (by rw [h2l, List.drop_zero, List.take_append_of_le_length (by rw [List.length_map, hg pos h1]; decide), List.map_take])) (by rw [h2l]; decide)
  rw [h2l, hnb] at tn
  refine Tri.use tn [] rfl (fun _ _ _ => rfl) trivial (fun f hf => hf) fun u hu => ?_
  conv => whnf
  refine And.intro rfl ?_
  conv => whnf
  repeat' ((first | refine w1 (h := ?_) | refine w2 ?_ ?_ | refine w3 (h := ?_) | refine w4 (h := ?_) | refine hD _ _ ?_ | refine hL _ _ ?_ | (intro h; (try simp only [n1, n2, n3, n4, n5, n6] at h); first | (exfalso; omega) | (cases h; done) | skip)) <;> (conv => whnf))
  refine draw_opaque fun KD hD => ?_
  refine draw_new tok (by kernel_rfl) [.any 0, .any 1, .any 2, .any 3, .any 4, .any 5, .any 7, .any 10, .load 6, .one 8, .any 9, .any 11, .any 12] [] ([(1, SObj.cells [.v (ptrV D), K, W, .v (.int .i64 pos), .v (.int .i64 next), .v (.bool over)] 115)]) (by kernel_rfl) rfl (hids _ rfl) (by repeat' (first | exact trivial | refine And.intro rfl ?_)) ?_
  conv => whnf
  repeat' ((first | refine w1 (h := ?_) | refine w2 ?_ ?_ | refine w3 (h := ?_) | refine w4 (h := ?_) | refine hD _ _ ?_ | refine hL _ _ ?_ | (intro h; (try simp only [n1, n2, n3, n4, n5, n6] at h); first | (exfalso; omega) | (cases h; done) | skip)) <;> (conv => whnf))
  refine Tri.use ((tSTakes fx n (by omega)).one) [] rfl (fun _ _ _ => rfl) trivial (fun f hf => by first | exact hf | cases hf) (fun u hu => ?_)
  conv => whnf
  repeat' ((first | refine w1 (h := ?_) | refine w2 ?_ ?_ | refine w3 (h := ?_) | refine w4 (h := ?_) | refine hD _ _ ?_ | refine hL _ _ ?_ | (intro h; (try simp only [n1, n2, n3, n4, n5, n6] at h); first | (exfalso; omega) | (cases h; done) | skip)) <;> (conv => whnf))
  refine loop_by tok (α := Nat × List Value) (fun x => match x with | (i, xs) => ⟨[(0, .p 1 0), (6, .s 3 0 (64 * i) xs.length), (8, .v (.int .i64 n)), (9, .v (.int .i64 (i : Int)))], [pdk 0 D d, (1, .cells [.v (ptrV D), K, W, .v (.int .i64 pos), .v (.int .i64 next), .v (.bool over)] 115), (2, o), (3, .row xs 5)], 4, fx⟩)
    (fun x => 1 ≤ x.1 ∧ x.1 ≤ takesN n ∧ 64 * x.1 ≤ x.2.length ∧ x.2.take (64 * x.1) = (secs d.get (3 + pos) x.1).map bv) (fun x => takesN n - x.1) (1, (d.get (3 + pos)).map bv ++ sp) [0, 1, 2, 3] ⟨Nat.le_refl _, takesN_pos n, by rw [List.length_append, List.length_map, hg pos h1]; omega, ?_⟩
    ⟨rfl, ⟨SEq.ren rfl rfl, SEq.ren rfl ?_, fun _ _ _ => rfl, fun _ _ _ => rfl, trivial⟩, ⟨OSub.ren rfl rfl, OSub.sto rfl ⟨rfl, rfl, rfl⟩ hK hW ⟨rfl, rfl, rfl⟩, ho.sub, OSub.ren rfl rfl, trivial⟩, fun f hf => hf⟩ ?_
  · simp only [secs, List.nil_append, Nat.add_zero]
    rw [List.take_left' (by rw [List.length_map, hg pos h1])]
  · simp only [ren, List.length_append, List.length_map, hg pos h1]; rfl
  clear hu tn
  rintro ⟨i, xs⟩ ⟨hi1, hi2, hxl, hxs⟩
  simp only at hi1 hi2 hxl hxs
  conv => whnf
  repeat' ((first | refine w1 (h := ?_) | refine w2 ?_ ?_ | refine w3 (h := ?_) | refine w4 (h := ?_) | refine hD _ _ ?_ | refine hL _ _ ?_ | (intro h; (try simp only [n1, n2, n3, n4, n5, n6] at h); first | (exfalso; omega) | (cases h; done) | skip)) <;> (conv => whnf))
  refine Tri.use ((tSTakes fx n (by omega)).one) [] rfl (fun _ _ _ => rfl) trivial (fun f hf => by first | exact hf | cases hf) (fun u hu => ?_)
  conv => whnf
  repeat' ((first | refine w1 (h := ?_) | refine w2 ?_ ?_ | refine w3 (h := ?_) | refine w4 (h := ?_) | refine hD _ _ ?_ | refine hL _ _ ?_ | (intro h; (try simp only [n1, n2, n3, n4, n5, n6] at h); first | (exfalso; omega) | (cases h; done) | skip)) <;> (conv => whnf))
  · refine draw_opaque fun KD hD => ?_
    refine draw_new tok (by kernel_rfl) [.any 0, .any 1, .any 2, .any 4, .any 5, .any 6, .any 9, .load 3, .one 7, .any 8, .any 10, .one 11, .any 12, .any 13, .any 14, .any 15, .any 16] [] ([(1, SObj.cells [.v (ptrV D), K, W, .v (.int .i64 pos), .v (.int .i64 next), .v (.bool over)] 115)]) (by kernel_rfl) rfl (hids _ rfl) (by repeat' (first | exact trivial | refine And.intro rfl ?_)) ?_
    conv => whnf
    repeat' ((first | refine w1 (h := ?_) | refine w2 ?_ ?_ | refine w3 (h := ?_) | refine w4 (h := ?_) | refine hD _ _ ?_ | refine hL _ _ ?_ | (intro h; (try simp only [n1, n2, n3, n4, n5, n6] at h); first | (exfalso; omega) | (cases h; done) | skip)) <;> (conv => whnf))
    refine Tri.use (pRead fx D d hd hdn (3 + pos + i) (by omega)) [0] rfl (args_ren rfl rfl) ⟨OSub.ren rfl rfl, trivial⟩ (fun f hf => by first | exact hf | cases hf | simp_all) (fun u hu => ?_)
    rename List Value => sp2
    have hgl : (d.get (3 + pos + i)).length = 64 := by rw [Nat.add_assoc]; exact hg (pos + i) (by omega)
    conv => whnf
    repeat' ((first | refine w1 (h := ?_) | refine w2 ?_ ?_ | refine w3 (h := ?_) | refine w4 (h := ?_) | refine hD _ _ ?_ | refine hL _ _ ?_ | (intro h; (try simp only [n1, n2, n3, n4, n5, n6] at h); first | (exfalso; omega) | (cases h; done) | skip)) <;> (conv => whnf))
    refine ⟨(d.get (3 + pos + i)).map bv, ⟨by rw [List.drop_zero, List.take_left' (by rw [List.length_map, hgl])], by rw [List.length_map, hgl]⟩, ?_⟩
    conv => whnf
    repeat' ((first | refine w1 (h := ?_) | refine w2 ?_ ?_ | refine w3 (h := ?_) | refine w4 (h := ?_) | refine hD _ _ ?_ | refine hL _ _ ?_ | (intro h; (try simp only [n1, n2, n3, n4, n5, n6] at h); first | (exfalso; omega) | (cases h; done) | skip)) <;> (conv => whnf))
    refine And.intro ⟨by omega, hxl, by omega, fun u hu => by obtain ⟨c, _, rfl⟩ := List.mem_map.1 hu; rfl⟩ ?_
    intro m3 sp3 hsp3
    conv => whnf
    repeat' ((first | refine w1 (h := ?_) | refine w2 ?_ ?_ | refine w3 (h := ?_) | refine w4 (h := ?_) | refine hD _ _ ?_ | refine hL _ _ ?_ | (intro h; (try simp only [n1, n2, n3, n4, n5, n6] at h); first | (exfalso; omega) | (cases h; done) | skip)) <;> (conv => whnf))
    refine ⟨(i + 1, _), [0, 1, 2, 5], ⟨⟨by simp only; omega, by simp only; omega, ?_, ?_⟩, by simp only; omega⟩, rfl, ⟨SEq.ren rfl rfl, SEq.ren rfl ?_, fun _ _ _ => rfl, SEq.eq rfl, trivial⟩, ⟨OSub.ren rfl rfl, OSub.sto rfl ⟨rfl, rfl, rfl⟩ hK hW ⟨rfl, rfl, rfl⟩, ho.sub, OSub.ren rfl rfl, trivial⟩, fun f hf => hf⟩
    · simp only [List.length_append, List.length_take, List.length_map, hgl, Nat.mul_one]; omega
    · simp only [Nat.mul_one]
      rw [List.take_left' (by simp only [List.length_append, List.length_take, List.length_map, hgl]; omega), hxs, secs, List.map_append]
    · simp only [ren, sg, List.length_append, List.length_take, List.length_map, hgl, hsp3, Nat.mul_one, Nat.min_eq_left hxl]
      rfl
  · have hi : i = takesN n := by omega
    subst hi
    refine draw_opaque fun KD hD => ?_
    refine draw_new tok (by kernel_rfl) [.any 0, .any 1, .any 2, .any 4, .load 3, .one 5, .any 6, .any 7, .any 8, .last 9] [9] ([(1, SObj.cells [.v (ptrV D), K, W, .v (.int .i64 pos), .v (.int .i64 next), .v (.bool over)] 115)]) (by kernel_rfl) rfl (hids _ rfl) (by repeat' (first | exact trivial | refine And.intro rfl ?_)) ?_
    conv => whnf
    repeat' ((first | refine w1 (h := ?_) | refine w2 ?_ ?_ | refine w3 (h := ?_) | refine w4 (h := ?_) | refine hD _ _ ?_ | refine hL _ _ ?_ | (intro h; (try simp only [n1, n2, n3, n4, n5, n6] at h); first | (exfalso; omega) | (cases h; done) | skip)) <;> (conv => whnf))
    have htk := takesN_ge n
    have eo : offs xs.length 2 0 1 = 2 := by unfold offs; rw [if_neg (by omega)]
    have el : (2 + (n : Int)).toNat - 2 = n := by omega
    refine Tri.use ((tSTakes fx n (by omega)).one) [] rfl (fun _ _ _ => rfl) trivial (fun f hf => by first | exact hf | cases hf) (fun u hu => ?_)
    conv => whnf
    repeat' ((first | refine w1 (h := ?_) | refine w2 ?_ ?_ | refine w3 (h := ?_) | refine w4 (h := ?_) | refine hD _ _ ?_ | refine hL _ _ ?_ | (intro h; (try simp only [n1, n2, n3, n4, n5, n6] at h); first | (exfalso; omega) | (cases h; done) | skip)) <;> (conv => whnf))
    rw [eo, el]
    have hbl : b.length = n := by rw [h4, List.length_take, List.length_drop, secs_length (fun j hj => by rw [Nat.add_assoc]; exact hg (pos + j) (by omega))]; omega
    have hbx : ((xs.drop 2).take b.length) = b.map bv := by
      have e2 : xs.drop 2 = (xs.take (64 * takesN n)).drop 2 ++ xs.drop (64 * takesN n) := by
        rw [← List.drop_append_of_le_length (by rw [List.length_take]; omega), List.take_append_drop]
      rw [e2, List.take_append_of_le_length (by rw [List.length_drop, List.length_take]; omega), hxs, hbl, h4, List.map_take, List.map_drop]
    refine Tri.lend 3 (xs := xs) (T := 5) (fun b1 => [.v (.slice (some ⟨b1, 2, none⟩) n (xs.length - 2))]) (by repeat first | exact List.mem_cons_self .. | apply List.mem_cons_of_mem) rowOf.row (fun _ => rfl) fun b1 => ?_
    have tc := tSCloneRow (rowFact b1 xs 5 :: fx) ⟨b1, 2, none⟩ (xs.length - 2) b (BytesAt.row (List.mem_cons_self ..) hbx) (by omega)
    rw [hbl] at tc
    refine Tri.use tc [] rfl (fun _ _ _ => rfl) trivial (fun f hf => hf) fun ys hys => ?_
    conv => whnf
    refine And.intro rfl ?_
    conv => whnf
    repeat' ((first | refine w1 (h := ?_) | refine w2 ?_ ?_ | refine w3 (h := ?_) | refine w4 (h := ?_) | refine hD _ _ ?_ | refine hL _ _ ?_ | (intro h; (try simp only [n1, n2, n3, n4, n5, n6] at h); first | (exfalso; omega) | (cases h; done) | skip)) <;> (conv => whnf))
    refine ⟨ys, by rw [hbl]; exact hys, Ret.mk [0, 1, 2, 4] [pdk 0 D d, (1, .cells [.v (ptrV D), K, W, .v (.int .i64 ((pos : Int) + (takesN n : Nat))), .v (.int .i64 next), .v (.bool over)] 115), (2, o), (4, .row ys 5)] (Fold.drop4 (by repeat first | exact List.mem_cons_self .. | apply List.mem_cons_of_mem) (by repeat first | exact List.mem_cons_self .. | apply List.mem_cons_of_mem) (by repeat first | exact List.mem_cons_self .. | apply List.mem_cons_of_mem) (by repeat first | exact List.mem_cons_self .. | apply List.mem_cons_of_mem)) rfl (SEq.ren rfl ?_) ⟨OSub.ren rfl rfl, ?_, ho.sub, OSub.ren rfl rfl, trivial⟩ (fun _ h => nomatch h)⟩
    · rw [hbl]; rfl
    · rw [h5]
      exact OSub.sto rfl ⟨rfl, rfl, rfl⟩ hK hW ⟨rfl, rfl, rfl⟩
theorem tSReadOk (fx : List Fact) (D : Nat) (d : DS) (hd : d.Ok) (hdn : d.down = false) (K W : SV) (hK : idsB 3 K = true) (hW : idsB 3 W = true) (used pos next : Nat) (over : Bool) (o : SObj) (ho : Plain o) (hu : used + 3 ≤ d.l.length) (b : List UInt8) (p : Nat) (hr : rdE d.get used pos = some (b, p)) :
    Tri Try.prog 77 [.p 1 0, .v (.int .i64 used)] [pdk 0 D d, stc 1 D K W pos next over, (2, o)] 3 fx
      (RetE (α := BsV × List Fact) 3 (fun x => x.1.bs = b ∧ x.1.Fit (x.2 ++ fx)) (fun x => .tup [.v x.1.v, .k .i64 0]) (fun _ => [pdk 0 D d, stc 1 D K W p next over, (2, o)]) 3 (fun x => x.2)) := by
  refine Tri.share (tSReadRow fx D d hd hdn K W hK hW used pos next over o ho hu b p hr).conv fun y h m f ⟨xs, ⟨p1, p2⟩, e1, e2, e3, e4⟩ => ?_
  subst e1 e2 e3 e4
  refine ⟨3, xs, 5, (by repeat first | exact List.mem_cons_self .. | apply List.mem_cons_of_mem), fun b1 => ⟨.tup [.v (.slice (some ⟨b1, 0, none⟩) b.length xs.length), .k .i64 0], fun ρ hr => by subst hr; rfl, (⟨some ⟨b1, 0, none⟩, b, xs.length⟩, [rowFact b1 xs 5]), ⟨rfl, p2, BytesAt.row (List.mem_cons_self ..) (by rw [List.drop_zero]; exact p1)⟩, ?_⟩⟩
  exact Ret.mk [0, 1, 2] [pdk 0 D d, stc 1 D K W p next over, (2, o)] (Fold.drop3 (by repeat first | exact List.mem_cons_self .. | apply List.mem_cons_of_mem) (by repeat first | exact List.mem_cons_self .. | apply List.mem_cons_of_mem) (by repeat first | exact List.mem_cons_self .. | apply List.mem_cons_of_mem)) rfl (fun _ _ _ => rfl) ⟨OSub.ren rfl rfl, OSub.sto rfl ⟨rfl, rfl, rfl⟩ hK hW ⟨rfl, rfl, rfl⟩, ho.sub, trivial⟩ (fun g hg => by simpa using hg)
/-- There is no next entry. -/
theorem tSReadNo (fx : List Fact) (D : Nat) (d : DS) (hd : d.Ok) (hdn : d.down = false) (K W : SV) (hK : idsB 3 K = true) (hW : idsB 3 W = true) (used pos next : Nat) (over : Bool) (o : SObj) (ho : Plain o) (hu : used + 3 ≤ d.l.length) (hp : pos ≤ used) (hr : rdE d.get used pos = none) :
    Tri Try.prog 77 [.p 1 0, .v (.int .i64 used)] [pdk 0 D d, stc 1 D K W pos next over, (2, o)] 3 fx
      (RetE (α := Unit) 3 (fun _ => True) (fun _ => .tup [.v (.slice none 0 0), .k .i64 2]) (fun _ => [pdk 0 D d, stc 1 D K W pos next over, (2, o)]) 3 (fun _ => [])) := by
  refine Tri.one ?_
  have hlen := hd.len
  show Tri _ _ _ [pdk 0 D d, (1, .cells [.v (ptrV D), K, W, .v (.int .i64 pos), .v (.int .i64 next), .v (.bool over)] 115), (2, o)] 3 fx _
  have hids : ∀ m, Nat.ble 3 m = true → idsH m [(1, SObj.cells [.v (ptrV D), K, W, .v (.int .i64 pos), .v (.int .i64 next), .v (.bool over)] 115)] = true := fun m hm => by have hm := Nat.le_of_ble_eq_true hm; simp [idsH, idsO, idsL, idsB, idsB_mono hm hK, idsB_mono hm hW]; omega
  refine Tri.of_code tok Try.func77 rfl rfl rfl (by decide) rfl (Nat.le_of_ble_eq_true rfl) ?_
  conv => whnf
  repeat' ((first | refine w1 (h := ?_) | refine w2 ?_ ?_ | refine w3 (h := ?_) | refine w4 (h := ?_) | refine hD _ _ ?_ | refine hL _ _ ?_ | (intro h; (try simp only [n1, n2, n3, n4, n5, n6] at h); first | (exfalso; omega) | (cases h; done) | skip)) <;> (conv => whnf))
  · exact Ret.mk [0, 1, 2] [pdk 0 D d, (1, .cells [.v (ptrV D), K, W, .v (.int .i64 pos), .v (.int .i64 next), .v (.bool over)] 115), (2, o)] (Fold.drop3 (by repeat first | exact List.mem_cons_self .. | apply List.mem_cons_of_mem) (by repeat first | exact List.mem_cons_self .. | apply List.mem_cons_of_mem) (by repeat first | exact List.mem_cons_self .. | apply List.mem_cons_of_mem)) rfl (fun _ _ _ => rfl) ⟨OSub.ren rfl rfl, OSub.sto rfl ⟨rfl, rfl, rfl⟩ hK hW ⟨rfl, rfl, rfl⟩, ho.sub, trivial⟩ (fun _ h => nomatch h)
  have h1 : pos < used := by omega
  have hg : (d.get (3 + pos)).length = 64 := hd.get_length (by omega)
  unfold rdE at hr
  rw [if_neg (by omega)] at hr
  have hn2 := leN_two (d.get (3 + pos))
  generalize hn : leN ((d.get (3 + pos)).take 2) = n at *
  have hr2 : 200 < n ∨ used < pos + takesN n := by
    by_cases h : 200 < n ∨ used < pos + takesN n
    · exact h
    · rw [if_neg h] at hr; cases hr
  refine draw_opaque fun KD hD => ?_
  refine draw_new tok (by kernel_rfl) [.any 0, .any 1, .any 2, .any 4, .any 5, .any 6, .load 3, .one 7, .any 8, .one 9, .any 10, .any 11, .any 12, .any 13, .any 14] [] ([(1, SObj.cells [.v (ptrV D), K, W, .v (.int .i64 pos), .v (.int .i64 next), .v (.bool over)] 115)]) (by kernel_rfl) rfl (hids _ rfl) (by repeat' (first | exact trivial | refine And.intro rfl ?_)) ?_
  conv => whnf
  repeat' ((first | refine w1 (h := ?_) | refine w2 ?_ ?_ | refine w3 (h := ?_) | refine w4 (h := ?_) | refine hD _ _ ?_ | refine hL _ _ ?_ | (intro h; (try simp only [n1, n2, n3, n4, n5, n6] at h); first | (exfalso; omega) | (cases h; done) | skip)) <;> (conv => whnf))
  refine Tri.use (pRead fx D d hd hdn (3 + pos) (by omega)) [0] rfl (args_ren rfl rfl) ⟨OSub.ren rfl rfl, trivial⟩ (fun f hf => by first | exact hf | cases hf | simp_all) (fun u hu => ?_)
  rename List Value => sp
  conv => whnf
  repeat' ((first | refine w1 (h := ?_) | refine w2 ?_ ?_ | refine w3 (h := ?_) | refine w4 (h := ?_) | refine hD _ _ ?_ | refine hL _ _ ?_ | (intro h; (try simp only [n1, n2, n3, n4, n5, n6] at h); first | (exfalso; omega) | (cases h; done) | skip)) <;> (conv => whnf))
  have h2l : ((d.get (3 + pos)).take 2).length = 2 := by rw [List.length_take, hg]; rfl
  have hnb : numB ((d.get (3 + pos)).take 2) = (n : Int) := by rw [numB_small (by omega), hn]
  refine Tri.lend 3 (xs := (d.get (3 + pos)).map bv ++ sp) (T := 5) (fun b1 => [.v (.slice (some ⟨b1, 0, none⟩) 2 (64 + sp.length))]) (by repeat first | exact List.mem_cons_self .. | apply List.mem_cons_of_mem) rowOf.row (fun _ => rfl) fun b1 => ?_
  have tn := tSNumber (rowFact b1 ((d.get (3 + pos)).map bv ++ sp) 5 :: fx) (some ⟨b1, 0, none⟩) (64 + sp.length) ((d.get (3 + pos)).take 2) (BytesAt.row (List.mem_cons_self ..) (by rw [h2l, List.drop_zero, List.take_append_of_le_length (by rw [List.length_map, hg]; decide), List.map_take])) (by rw [h2l]; decide)
  rw [h2l, hnb] at tn
  refine Tri.use tn [] rfl (fun _ _ _ => rfl) trivial (fun f hf => hf) fun u hu => ?_
  conv => whnf
  refine And.intro rfl ?_
  conv => whnf
  repeat' ((first | refine w1 (h := ?_) | refine w2 ?_ ?_ | refine w3 (h := ?_) | refine w4 (h := ?_) | refine hD _ _ ?_ | refine hL _ _ ?_ | (intro h; (try simp only [n1, n2, n3, n4, n5, n6] at h); first | (exfalso; omega) | (cases h; done) | skip)) <;> (conv => whnf))
  refine draw_opaque fun KD hD => ?_
  refine draw_new tok (by kernel_rfl) [.any 0, .any 1, .any 2, .any 3, .any 4, .any 5, .any 7, .any 10, .load 6, .one 8, .any 9, .any 11, .any 12] [] ([(1, SObj.cells [.v (ptrV D), K, W, .v (.int .i64 pos), .v (.int .i64 next), .v (.bool over)] 115)]) (by kernel_rfl) rfl (hids _ rfl) (by repeat' (first | exact trivial | refine And.intro rfl ?_)) ?_
  conv => whnf
  repeat' ((first | refine w1 (h := ?_) | refine w2 ?_ ?_ | refine w3 (h := ?_) | refine w4 (h := ?_) | refine hD _ _ ?_ | refine hL _ _ ?_ | (intro h; (try simp only [n1, n2, n3, n4, n5, n6] at h); first | (exfalso; omega) | (cases h; done) | skip)) <;> (conv => whnf))
  · exact Ret.mk [0, 1, 2] [pdk 0 D d, (1, .cells [.v (ptrV D), K, W, .v (.int .i64 pos), .v (.int .i64 next), .v (.bool over)] 115), (2, o)] (Fold.drop3 (by repeat first | exact List.mem_cons_self .. | apply List.mem_cons_of_mem) (by repeat first | exact List.mem_cons_self .. | apply List.mem_cons_of_mem) (by repeat first | exact List.mem_cons_self .. | apply List.mem_cons_of_mem)) rfl (fun _ _ _ => rfl) ⟨OSub.ren rfl rfl, OSub.sto rfl ⟨rfl, rfl, rfl⟩ hK hW ⟨rfl, rfl, rfl⟩, ho.sub, trivial⟩ (fun _ h => nomatch h)
  · have htk : takesN n ≤ 1100 := by unfold takesN; omega
    refine Tri.use ((tSTakes fx n (by omega)).one) [] rfl (fun _ _ _ => rfl) trivial (fun f hf => by first | exact hf | cases hf) (fun u hu => ?_)
    conv => whnf
    repeat' ((first | refine w1 (h := ?_) | refine w2 ?_ ?_ | refine w3 (h := ?_) | refine w4 (h := ?_) | refine hD _ _ ?_ | refine hL _ _ ?_ | (intro h; (try simp only [n1, n2, n3, n4, n5, n6] at h); first | (exfalso; omega) | (cases h; done) | skip)) <;> (conv => whnf))
    exact Ret.mk [0, 1, 2] [pdk 0 D d, (1, .cells [.v (ptrV D), K, W, .v (.int .i64 pos), .v (.int .i64 next), .v (.bool over)] 115), (2, o)] (Fold.drop3 (by repeat first | exact List.mem_cons_self .. | apply List.mem_cons_of_mem) (by repeat first | exact List.mem_cons_self .. | apply List.mem_cons_of_mem) (by repeat first | exact List.mem_cons_self .. | apply List.mem_cons_of_mem)) rfl (fun _ _ _ => rfl) ⟨OSub.ren rfl rfl, OSub.sto rfl ⟨rfl, rfl, rfl⟩ hK hW ⟨rfl, rfl, rfl⟩, ho.sub, trivial⟩ (fun _ h => nomatch h)
end Go.Proofs.Ytekgjjanikicnaa.Sx

namespace Go.Proofs.Ytekgjjanikicnaa.Sx
open Go
set_option maxRecDepth 100000
set_option linter.unusedSimpArgs false
set_option linter.unusedVariables false
theorem OSub.cellsD {n : Nat} {σ : List Nat} {cs ds : List SV} {T : TypeId} (h : ∀ ρ ρ'', AgS n σ ρ ρ'' → denL ρ'' cs = denL ρ ds) : OSub n σ (.cells cs T) (.cells ds T) := fun ρ ρ'' ha w b F ho => by
  simp only [ObjOk, h ρ ρ'' ha]; exact ho
theorem tSOpenNil (fx : List Fact) : Tri Try.prog 48 [.v (.pointer none)] [] 0 fx (Ret 0 (.tup [.v (.pointer none), .k .i64 1]) [] 0 []) := by
  refine Tri.of_code tok Try.func48 rfl rfl rfl (by decide) rfl (Nat.le_of_ble_eq_true rfl) ?_
  conv => whnf
  repeat' ((first | refine w1 (h := ?_) | refine w2 ?_ ?_ | refine w3 (h := ?_) | refine w4 (h := ?_) | refine hD _ _ ?_ | refine hL _ _ ?_ | (intro h; (try simp only [n1, n2, n3, n4, n5, n6] at h); first | (exfalso; omega) | (cases h; done) | skip)) <;> (conv => whnf))
  exact Ret.noneS rfl (fun _ _ => rfl) (fun _ h => nomatch h)
theorem tSOpenErr (fx : List Fact) (D : Nat) (d : DS) (hd : d.Ok) (he : d.lerr ((0 : Nat) : Int) ≠ 0) :
    Tri Try.prog 48 [.v (ptrV D)] [pdk 0 D d] 1 fx (RetE (α := Unit) 1 (fun _ => True) (fun _ => .tup [.v (.pointer none), .v (.int .i64 (d.lerr ((0 : Nat) : Int)))]) (fun _ => [pdk 0 D d]) 1 (fun _ => [])) := by
  refine Tri.one ?_
  refine Tri.of_code tok Try.func48 rfl rfl rfl (by decide) rfl (Nat.le_of_ble_eq_true rfl) ?_
  conv => whnf
  repeat' ((first | refine w1 (h := ?_) | refine w2 ?_ ?_ | refine w3 (h := ?_) | refine w4 (h := ?_) | refine hD _ _ ?_ | refine hL _ _ ?_ | (intro h; (try simp only [n1, n2, n3, n4, n5, n6] at h); first | (exfalso; omega) | (cases h; done) | skip)) <;> (conv => whnf))
  refine Tri.use (pMendErr fx D d hd ((0 : Nat) : Int) (by decide) he) [0] rfl (args_ren rfl rfl) ⟨OSub.ren rfl rfl, trivial⟩ (fun f hf => by first | exact hf | cases hf | simp_all) (fun u hu => ?_)
  conv => whnf
  repeat' ((first | refine w1 (h := ?_) | refine w2 ?_ ?_ | refine w3 (h := ?_) | refine w4 (h := ?_) | refine hD _ _ ?_ | refine hL _ _ ?_ | (intro h; (try simp only [n1, n2, n3, n4, n5, n6] at h); first | (exfalso; omega) | (cases h; done) | skip)) <;> (conv => whnf))
  exact Ret.mk [0] [pdk 0 D d] (Fold.drop1 (by repeat first | exact List.mem_cons_self .. | apply List.mem_cons_of_mem)) rfl (fun _ _ _ => rfl) ⟨OSub.ren rfl rfl, trivial⟩ (fun _ h => nomatch h)
theorem tSOpenLost (fx : List Fact) (D : Nat) (d : DS) (hd : d.Ok) (h : d.down = false) (hp : 3 ≤ d.l.length) (he : (d.mend ((0 : Nat) : Int)).1 ≠ 0) :
    Tri Try.prog 48 [.v (ptrV D)] [pdk 0 D d] 1 fx (RetE (α := Unit) 1 (fun _ => True) (fun _ => .tup [.v (.pointer none), .v (.int .i64 (d.mend ((0 : Nat) : Int)).1)]) (fun _ => [pdk 0 D (d.mend ((0 : Nat) : Int)).2]) 1 (fun _ => [])) := by
  refine Tri.one ?_
  refine Tri.of_code tok Try.func48 rfl rfl rfl (by decide) rfl (Nat.le_of_ble_eq_true rfl) ?_
  conv => whnf
  repeat' ((first | refine w1 (h := ?_) | refine w2 ?_ ?_ | refine w3 (h := ?_) | refine w4 (h := ?_) | refine hD _ _ ?_ | refine hL _ _ ?_ | (intro h; (try simp only [n1, n2, n3, n4, n5, n6] at h); first | (exfalso; omega) | (cases h; done) | skip)) <;> (conv => whnf))
  refine Tri.use (pMend fx D d hd h 0 (by omega)) [0] rfl (args_ren rfl rfl) ⟨OSub.ren rfl rfl, trivial⟩ (fun f hf => by first | exact hf | cases hf | simp_all) (fun u hu => ?_)
  conv => whnf
  repeat' ((first | refine w1 (h := ?_) | refine w2 ?_ ?_ | refine w3 (h := ?_) | refine w4 (h := ?_) | refine hD _ _ ?_ | refine hL _ _ ?_ | (intro h; (try simp only [n1, n2, n3, n4, n5, n6] at h); first | (exfalso; omega) | (cases h; done) | skip)) <;> (conv => whnf))
  exact Ret.mk [0] [pdk 0 D _] (Fold.drop1 (by repeat first | exact List.mem_cons_self .. | apply List.mem_cons_of_mem)) rfl (fun _ _ _ => rfl) ⟨OSub.ren rfl rfl, trivial⟩ (fun _ h => nomatch h)
/-- What an opened store keeps, as it stands. -/
structure OpR where
  kept : Option (List BsV)
  f : List Fact
def OpR.v (x : OpR) : SV := match x.kept with
  | none => .tup [.v (.pointer none), .k .i64 2]
  | some _ => .tup [.p 1 0, .k .i64 0]
def OpR.hp (D : Nat) (d : DS) (u : Nat) (x : OpR) : List (Nat × SObj) := match x.kept with
  | none => [pdk 0 D d]
  | some l => [pdk 0 D d, (1, .abs (stoA D ⟨l, [], u, u, false⟩))]
def OpR.Ok (fx : List Fact) (o : Option (List (List UInt8))) (x : OpR) : Prop := match x.kept with
  | none => o = none
  | some l => o = some (l.map BsV.bs) ∧ ∀ b ∈ l, b.Fit (x.f ++ fx)
structure OpI where
  i : Nat
  pos : Nat
  l : List BsV
  row : RowI
  gs : List Fact
structure OpI.Pr (g : Nat → Sec) (n used : Nat) (fx : List Fact) (x : OpI) : Prop where
  i : x.i ≤ n ∧ x.l.length = x.i ∧ x.pos ≤ used ∧ x.i ≤ x.pos
  rd : rdAll g used x.i 0 = some (x.l.map BsV.bs, x.pos)
  row : x.row.Ok x.l
  fit : ∀ b ∈ x.l, b.Fit (x.gs ++ fx)
set_option maxHeartbeats 2000000 in
theorem tSOpen (fx : List Fact) (D : Nat) (d : DS) (hd : d.Ok) (h : d.down = false) (hp : 3 ≤ d.l.length) (e : DS) (he : d.mend ((0 : Nat) : Int) = (0, e)) (heo : e.Ok) (hed : e.down = false) (hel : e.l.length = d.l.length) :
    Tri Try.prog 48 [.v (ptrV D)] [pdk 0 D d] 1 fx (RetE (α := OpR) 1 (fun x => x.Ok fx (opnV e.get d.l.length (e.val ((0 : Nat) : Int)))) (fun x => x.v) (fun x => x.hp D e (mkU (e.val ((0 : Nat) : Int))).toNat) 2 (fun x => x.f)) := by
  have hlen := hd.len
  have tm := pMend fx D d hd h 0 (by omega)
  rw [he] at tm
  replace tm := tm.reval (v' := .k .i64 0) (fun _ => rfl)
  have tl := pLoadF fx D e heo hed 0 (by omega)
  have hv64 : (e.val ((0 : Nat) : Int)).length = 64 := by
    rw [val_nat]; unfold val3
    split <;> exact heo.get_length (by omega)
  rw [← hel]
  generalize hv : e.val ((0 : Nat) : Int) = v at *
  refine Tri.of_code tok Try.func48 rfl rfl rfl (by decide) rfl (Nat.le_of_ble_eq_true rfl) ?_
  conv => whnf
  repeat' ((first | refine w1 (h := ?_) | refine w2 ?_ ?_ | refine w3 (h := ?_) | refine w4 (h := ?_) | refine hD _ _ ?_ | refine hL _ _ ?_ | (intro h; (try simp only [n1, n2, n3, n4, n5, n6] at h); first | (exfalso; omega) | (cases h; done) | skip)) <;> (conv => whnf))
  refine Tri.use tm [0] rfl (args_ren rfl rfl) ⟨OSub.ren rfl rfl, trivial⟩ (fun f hf => by first | exact hf | cases hf | simp_all) (fun u hu => ?_)
  conv => whnf
  repeat' ((first | refine w1 (h := ?_) | refine w2 ?_ ?_ | refine w3 (h := ?_) | refine w4 (h := ?_) | refine hD _ _ ?_ | refine hL _ _ ?_ | (intro h; (try simp only [n1, n2, n3, n4, n5, n6] at h); first | (exfalso; omega) | (cases h; done) | skip)) <;> (conv => whnf))
  refine Tri.use tl [0] rfl (args_ren rfl rfl) ⟨OSub.ren rfl rfl, trivial⟩ (fun f hf => hf) (fun u hu => ?_)
  obtain ⟨hA, hcap⟩ := hu
  obtain ⟨ad, hAd, _⟩ := hA.get (i := 0) (by omega)
  conv => whnf
  refine appFK_go ?_
  rw [hAd] at hA ⊢
  generalize u.1.cap = cap at *
  generalize u.2 = fl at *
  conv => whnf
  repeat' ((first | refine w1 (h := ?_) | refine w2 ?_ ?_ | refine w3 (h := ?_) | refine w4 (h := ?_) | refine hD _ _ ?_ | refine hL _ _ ?_ | (intro h; (try simp only [n1, n2, n3, n4, n5, n6] at h); first | (exfalso; omega) | (cases h; done) | skip)) <;> (conv => whnf))
  have tn1 := tSNumber (fl ++ fx) (some ad) cap (v.take 8) (by have := hA.take 8; exact this) (by rw [List.length_take]; omega)
  have tn2 := tSNumber (fl ++ fx) (some (ad.add (8 * 1))) (cap - 8) ((v.drop 8).take 8) (hA.part 8 8) (by rw [List.length_take]; omega)
  have l1 : (v.take 8).length = 8 := by rw [List.length_take]; omega
  have l2 : ((v.drop 8).take 8).length = 8 := by rw [List.length_take, List.length_drop]; omega
  rw [l1] at tn1
  rw [l2] at tn2
  have ec : ¬ cap = 8 := by omega
  have ec2 : ¬ cap = 16 := by omega
  refine draw_opaque fun KD hD => ?_
  refine draw_new tok (by kernel_rfl) [.any 0, .any 1, .any 3, .any 4, .one 2, .one 5, .any 6, .any 7] [] ([]) (by kernel_rfl) rfl (rfl) (by repeat' (first | exact trivial | refine And.intro rfl ?_)) ?_
  conv => whnf
  repeat' ((first | refine w1 (h := ?_) | refine w2 ?_ ?_ | refine w3 (h := ?_) | refine w4 (h := ?_) | refine hD _ _ ?_ | refine hL _ _ ?_ | (intro h; (try simp only [n1, n2, n3, n4, n5, n6] at h); first | (exfalso; omega) | (cases h; done) | skip)) <;> (conv => whnf))
  refine Tri.use (tn1) [] rfl (fun _ _ _ => rfl) trivial (fun f hf => by first | exact hf | cases hf) (fun u hu => ?_)
  conv => whnf
  repeat' ((first | refine w1 (h := ?_) | refine w2 ?_ ?_ | refine w3 (h := ?_) | refine w4 (h := ?_) | refine hD _ _ ?_ | refine hL _ _ ?_ | (intro h; (try simp only [n1, n2, n3, n4, n5, n6] at h); first | (exfalso; omega) | (cases h; done) | skip)) <;> (conv => whnf))
  rw [Option.map_some, if_neg ec, show 16 - 8 = 8 from rfl]
  refine Tri.use (tn2) [] rfl (fun _ _ _ => rfl) trivial (fun f hf => by first | exact hf | cases hf) (fun u hu => ?_)
  conv => whnf
  repeat' ((first | refine w1 (h := ?_) | refine w2 ?_ ?_ | refine w3 (h := ?_) | refine w4 (h := ?_) | refine hD _ _ ?_ | refine hL _ _ ?_ | (intro h; (try simp only [n1, n2, n3, n4, n5, n6] at h); first | (exfalso; omega) | (cases h; done) | skip)) <;> (conv => whnf))
  have hopn : ∀ (hb : mkN v < 0 ∨ mkU v < 0 ∨ (e.l.length : Int) - 3 < mkU v ∨ v.drop 16 ≠ List.replicate 48 0), opnV e.get e.l.length v = none := fun hb => by unfold opnV; rw [if_pos hb]
  refine draw_opaque fun KD hD => ?_
  refine draw_new tok (by kernel_rfl) [.any 0, .any 1, .any 2, .any 3, .any 4, .any 5, .any 6, .any 7, .any 8, .one 9, .any 10, .any 11, .any 12, .any 13, .any 14, .any 15, .one 16, .one 17, .any 18, .any 19] [] ([]) (by kernel_rfl) rfl (rfl) (by repeat' (first | exact trivial | refine And.intro rfl ?_)) ?_
  conv => whnf
  repeat' ((first | refine w1 (h := ?_) | refine w2 ?_ ?_ | refine w3 (h := ?_) | refine w4 (h := ?_) | refine hD _ _ ?_ | refine hL _ _ ?_ | (intro h; (try simp only [n1, n2, n3, n4, n5, n6] at h); first | (exfalso; omega) | (cases h; done) | skip)) <;> (conv => whnf))
  · exact ⟨⟨none, []⟩, hopn (.inl h), Ret.mk [0, 1] [pdk 0 D e] (Fold.drop1 (by repeat first | exact List.mem_cons_self .. | apply List.mem_cons_of_mem)) rfl (fun _ _ _ => rfl) ⟨OSub.ren rfl rfl, trivial⟩ (fun _ h => nomatch h)⟩
  · exact ⟨⟨none, []⟩, hopn (.inr (.inl h)), Ret.mk [0, 1] [pdk 0 D e] (Fold.drop1 (by repeat first | exact List.mem_cons_self .. | apply List.mem_cons_of_mem)) rfl (fun _ _ _ => rfl) ⟨OSub.ren rfl rfl, trivial⟩ (fun _ h => nomatch h)⟩
  refine Tri.use (pSize (fl ++ fx) D e) [0] rfl (args_ren rfl rfl) ⟨OSub.ren rfl rfl, trivial⟩ (fun f hf => by first | exact hf | cases hf | simp_all) (fun u hu => ?_)
  conv => whnf
  repeat' ((first | refine w1 (h := ?_) | refine w2 ?_ ?_ | refine w3 (h := ?_) | refine w4 (h := ?_) | refine hD _ _ ?_ | refine hL _ _ ?_ | (intro h; (try simp only [n1, n2, n3, n4, n5, n6] at h); first | (exfalso; omega) | (cases h; done) | skip)) <;> (conv => whnf))
  · exact ⟨⟨none, []⟩, hopn (.inr (.inr (.inl h))), Ret.mk [0, 1] [pdk 0 D e] (Fold.drop1 (by repeat first | exact List.mem_cons_self .. | apply List.mem_cons_of_mem)) rfl (fun _ _ _ => rfl) ⟨OSub.ren rfl rfl, trivial⟩ (fun _ h => nomatch h)⟩
  rw [Option.map_some, if_neg ec2]
  have l3 : (v.drop 16).length = 48 := by rw [List.length_drop]; omega
  have hA3 : BytesAt (fl ++ fx) (some (ad.add (16 * 1))) (v.drop 16) := by have := hA.part 16 48; rwa [List.take_of_length_le (by omega)] at this
  refine Tri.lend 1 (xs := repRow [.int .u8 0] 48) (T := 5) (fun b1 => [.v (.slice (some (ad.add (16 * 1))) (64 - 16) (cap - 16)), .v (.slice (some ⟨b1, 0, none⟩) 48 48)]) (by repeat first | exact List.mem_cons_self .. | apply List.mem_cons_of_mem) rowOf.row (fun _ => rfl) fun b1 => ?_
  have te := tEqual (rowFact b1 (repRow [.int .u8 0] 48) 5 :: (fl ++ fx)) (some (ad.add (16 * 1))) (some ⟨b1, 0, none⟩) (cap - 16) 48 (v.drop 16) (List.replicate 48 0) (hA3.mono fun f hf => List.mem_cons_of_mem _ hf) (BytesAt.row (List.mem_cons_self ..) rfl) (by omega)
  rw [l3, List.length_replicate] at te
  refine Tri.use te [] rfl (fun _ _ _ => rfl) trivial (fun f hf => hf) fun u hu => ?_
  conv => whnf
  refine And.intro rfl ?_
  conv => whnf
  repeat' ((first | refine w1 (h := ?_) | refine w2 ?_ ?_ | refine w3 (h := ?_) | refine w4 (h := ?_) | refine hD _ _ ?_ | refine hL _ _ ?_ | (intro h; (try simp only [n1, n2, n3, n4, n5, n6] at h); first | (exfalso; omega) | (cases h; done) | skip)) <;> (conv => whnf))
  · exact ⟨⟨none, []⟩, hopn (.inr (.inr (.inr h))), Ret.mk [0, 1] [pdk 0 D e] (Fold.drop1 (by repeat first | exact List.mem_cons_self .. | apply List.mem_cons_of_mem)) rfl (fun _ _ _ => rfl) ⟨OSub.ren rfl rfl, trivial⟩ (fun _ h => nomatch h)⟩
  have hz : v.drop 16 = List.replicate 48 0 := by first | exact h | exact Decidable.of_not_not h
  have hN0 : 0 ≤ mkN v := by show 0 ≤ numB _; omega
  have hU0 : 0 ≤ mkU v ∧ mkU v + 3 ≤ e.l.length := by
    show 0 ≤ numB _ ∧ numB _ + 3 ≤ _
    omega
  obtain ⟨N, hN⟩ := Int.eq_ofNat_of_zero_le hN0
  obtain ⟨U, hU⟩ := Int.eq_ofNat_of_zero_le hU0.1
  have hNlt : N ≤ 1073741824 := by have := numB_lt (v.take 8); have e0 : mkN v = numB (v.take 8) := rfl; omega
  have hUlt : U + 3 ≤ e.l.length := by omega
  have hop : opnV e.get e.l.length v = match rdAll e.get U N 0 with | none => none | some (l, p) => if p = U then some l else none := by
    unfold opnV
    rw [if_neg (by rw [hN, hU, hz]; rintro (h | h | h | h) <;> first | omega | exact h rfl), hN, hU, Int.toNat_natCast, Int.toNat_natCast]
    rfl
  have hU2 : (mkU v).toNat = U := by rw [hU, Int.toNat_natCast]
  rw [hop, hU2]
  clear hopn
  refine LoopVC.fold ((Fold.drop2 (a := (2, _)) (b := (0, _)) (by repeat first | exact List.mem_cons_self .. | apply List.mem_cons_of_mem) (by repeat first | exact List.mem_cons_self .. | apply List.mem_cons_of_mem)).trans (Fold.nothing 1 rfl ⟨2, _, List.mem_cons_self .., by decide⟩)) ?_
  refine loop_by tok (α := OpI) (fun x => match x with
    | ⟨i, pos, l, .no, gs⟩ => ⟨[(7, .v (.int .i64 N)), (8, .v (.int .i64 U)), (9, .p 1 0)], [pdk 0 D e, (1, .cells [.v (ptrV D), .v (.slice none 0 0), .v (.slice none 0 0), .v (.int .i64 pos), .v (.int .i64 ((0 : Nat) : Int)), .v (.bool false)] 115), (2, .abs noA)], 3, gs ++ fx⟩
    | ⟨i, pos, l, .row xs, gs⟩ => ⟨[(7, .v (.int .i64 N)), (8, .v (.int .i64 U)), (9, .p 1 0)], [pdk 0 D e, (1, .cells [.v (ptrV D), .s 2 0 i xs.length, .v (.slice none 0 0), .v (.int .i64 pos), .v (.int .i64 ((0 : Nat) : Int)), .v (.bool false)] 115), (2, .row xs 22)], 3, gs ++ fx⟩)
    (OpI.Pr e.get N U fx) (fun x => N - x.i) ⟨0, 0, [], .no, fl⟩ [0, 2, 1] ⟨⟨Nat.zero_le _, rfl, Nat.zero_le _, Nat.le_refl _⟩, rfl, rfl, fun b hb => by cases hb⟩
    ⟨rfl, ⟨SEq.eq (by rw [← hN]; rfl), SEq.eq (by rw [← hU]; rfl), SEq.ren rfl rfl, trivial⟩, ⟨OSub.ren rfl rfl, OSub.cellsD (args_ren rfl rfl), OSub.ren rfl rfl, trivial⟩, fun f hf => hf⟩ ?_
  clear tn1 tn2 te hA3 hA tl tm
  rintro ⟨i, pos, l, row, gs⟩ ⟨⟨hi, hl, hpos, hip⟩, hrd, hrow, hfit⟩
  simp only at hi hl hpos hrd hrow hfit hip
  have hnone : i < N → rdE e.get U pos = none → rdAll e.get U N 0 = none := fun h1 h2 => by
    have := rdAll_none hrd h2 (N - i) (by omega)
    rwa [show i + (N - i) = N by omega] at this
  have hmore : ∀ b p, rdE e.get U pos = some (b, p) → rdAll e.get U (i + 1) 0 = some (l.map BsV.bs ++ [b], p) := fun b p h => by
    rw [rdAll_snoc hrd, rdAll_one, h]
  cases row with
  | no =>
    obtain rfl : l = [] := hrow
    obtain rfl : i = 0 := by simpa using hl.symm
    conv => whnf
    repeat' ((first | refine w1 (h := ?_) | refine w2 ?_ ?_ | refine w3 (h := ?_) | refine w4 (h := ?_) | refine hD _ _ ?_ | refine hL _ _ ?_ | (intro h; (try simp only [n1, n2, n3, n4, n5, n6] at h); first | (exfalso; omega) | (cases h; done) | skip)) <;> (conv => whnf))
    · cases hre : rdE e.get U pos with
      | none =>
        rw [hnone (by omega) hre]
        refine Tri.use (tSReadNo (gs ++ fx) D e heo hed (.v (.slice none 0 0)) (.v (.slice none 0 0)) rfl rfl U pos 0 false (.abs noA) (.inr ⟨_, rfl⟩) hUlt hpos hre) [0,1,2] rfl (args_ren rfl rfl) ⟨OSub.ren rfl rfl, OSub.ren rfl rfl, OSub.ren rfl rfl, trivial⟩ (fun f hf => by first | exact hf | cases hf | simp_all) (fun u hu => ?_)
        conv => whnf
        repeat' ((first | refine w1 (h := ?_) | refine w2 ?_ ?_ | refine w3 (h := ?_) | refine w4 (h := ?_) | refine hD _ _ ?_ | refine hL _ _ ?_ | (intro h; (try simp only [n1, n2, n3, n4, n5, n6] at h); first | (exfalso; omega) | (cases h; done) | skip)) <;> (conv => whnf))
        exact ⟨⟨none, []⟩, rfl, Ret.mk [0, 1] [pdk 0 D e] (Fold.drop1 (by repeat first | exact List.mem_cons_self .. | apply List.mem_cons_of_mem)) rfl (fun _ _ _ => rfl) ⟨OSub.ren rfl rfl, trivial⟩ (fun _ h => nomatch h)⟩
      | some x =>
        obtain ⟨b, p⟩ := x
        have hp := rdE_le hre
        refine Tri.use (tSReadOk (gs ++ fx) D e heo hed (.v (.slice none 0 0)) (.v (.slice none 0 0)) rfl rfl U pos 0 false (.abs noA) (.inr ⟨_, rfl⟩) hUlt b p hre) [0, 1, 2] rfl (args_ren rfl rfl) ⟨OSub.ren rfl rfl, OSub.ren rfl rfl, OSub.ren rfl rfl, trivial⟩ (fun f hf => hf) fun u hu => ?_
        obtain ⟨hb, hof⟩ := hu
        generalize hu1 : u.1 = o at *
        generalize hu2 : u.2 = f2 at *
        conv => whnf
        refine appFK_go ?_
        conv => whnf
        repeat' ((first | refine w1 (h := ?_) | refine w2 ?_ ?_ | refine w3 (h := ?_) | refine w4 (h := ?_) | refine hD _ _ ?_ | refine hL _ _ ?_ | (intro h; (try simp only [n1, n2, n3, n4, n5, n6] at h); first | (exfalso; omega) | (cases h; done) | skip)) <;> (conv => whnf))
        rename_i m0 sp0
        have hrl : ([o.v] ++ sp0).length = 1 + m0 := by rw [List.length_append, h, Nat.mul_one]; rfl
        refine ⟨⟨1, p, [o], .row ([o.v] ++ sp0), f2 ++ gs⟩, [0, 1, 4], ⟨⟨⟨by show 1 ≤ N; omega, rfl, hp.2.1, by show 1 ≤ p; omega⟩, ?_, ⟨rfl, by simp⟩, fun b hb => ?_⟩, by simp only; omega⟩, rfl, ⟨fun _ _ _ => rfl, fun _ _ _ => rfl, SEq.ren rfl rfl, trivial⟩, ⟨OSub.ren rfl rfl, OSub.ren rfl (by rw [hrl]; rfl), OSub.ren rfl rfl, trivial⟩, fun f hf => by simpa using hf⟩
        · rw [show [o].map BsV.bs = [b] by simp [hb]]; exact hmore b p hre
        · rw [List.mem_singleton.1 hb, List.append_assoc]; exact hof
    · obtain rfl : N = 0 := by omega
      exact ⟨⟨none, []⟩, by show (match rdAll e.get U 0 0 with | none => none | some (l, p) => if p = U then some l else none) = none; rw [hrd]; exact if_neg (by omega), Ret.mk [0, 1] [pdk 0 D e] (Fold.drop1 (by repeat first | exact List.mem_cons_self .. | apply List.mem_cons_of_mem)) rfl (fun _ _ _ => rfl) ⟨OSub.ren rfl rfl, trivial⟩ (fun _ h => nomatch h)⟩
    · obtain rfl : N = 0 := by omega
      obtain rfl : pos = U := by omega
      exact ⟨⟨some [], gs⟩, ⟨by rw [hrd]; exact if_pos rfl, hfit⟩, sto_ret (s := ⟨[], [], pos, pos, false⟩) ⟨.no, .no, rfl, rfl⟩ 2 3 (by decide) (by repeat first | exact List.mem_cons_self .. | apply List.mem_cons_of_mem) (by repeat first | exact List.mem_cons_self .. | apply List.mem_cons_of_mem) (fun xs e => by cases e) (fun xs e => by cases e) (fun ρ => rfl) rfl (SEq.ren rfl rfl) (fun g hg => List.mem_append_left _ hg)⟩
  | row xs =>
    obtain ⟨hx1, hx2⟩ := hrow
    subst hl
    have hUl : U ≤ 4096 := by omega
    conv => whnf
    repeat' ((first | refine w1 (h := ?_) | refine w2 ?_ ?_ | refine w3 (h := ?_) | refine w4 (h := ?_) | refine hD _ _ ?_ | refine hL _ _ ?_ | (intro h; (try simp only [n1, n2, n3, n4, n5, n6] at h); first | (exfalso; omega) | (cases h; done) | skip)) <;> (conv => whnf))
    · cases hre : rdE e.get U pos with
      | none =>
        rw [hnone (by omega) hre]
        refine Tri.use (tSReadNo (gs ++ fx) D e heo hed (.s 2 0 l.length xs.length) (.v (.slice none 0 0)) rfl rfl U pos 0 false (.row xs 22) (.inl ⟨_, _, rfl⟩) hUlt hpos hre) [0,1,2] rfl (args_ren rfl rfl) ⟨OSub.ren rfl rfl, OSub.ren rfl rfl, OSub.ren rfl rfl, trivial⟩ (fun f hf => by first | exact hf | cases hf | simp_all) (fun u hu => ?_)
        conv => whnf
        repeat' ((first | refine w1 (h := ?_) | refine w2 ?_ ?_ | refine w3 (h := ?_) | refine w4 (h := ?_) | refine hD _ _ ?_ | refine hL _ _ ?_ | (intro h; (try simp only [n1, n2, n3, n4, n5, n6] at h); first | (exfalso; omega) | (cases h; done) | skip)) <;> (conv => whnf))
        exact ⟨⟨none, []⟩, rfl, Ret.mk [0, 1] [pdk 0 D e] (Fold.drop1 (by repeat first | exact List.mem_cons_self .. | apply List.mem_cons_of_mem)) rfl (fun _ _ _ => rfl) ⟨OSub.ren rfl rfl, trivial⟩ (fun _ h => nomatch h)⟩
      | some x =>
        obtain ⟨b, p⟩ := x
        have hp := rdE_le hre
        refine Tri.use (tSReadOk (gs ++ fx) D e heo hed (.s 2 0 l.length xs.length) (.v (.slice none 0 0)) rfl rfl U pos 0 false (.row xs 22) (.inl ⟨_, _, rfl⟩) hUlt b p hre) [0, 1, 2] rfl (args_ren rfl rfl) ⟨OSub.ren rfl rfl, OSub.ren rfl rfl, OSub.ren rfl rfl, trivial⟩ (fun f hf => hf) fun u hu => ?_
        obtain ⟨hb, hof⟩ := hu
        generalize hu1 : u.1 = o at *
        generalize hu2 : u.2 = f2 at *
        conv => whnf
        refine appFK_go ?_
        conv => whnf
        repeat' ((first | refine w1 (h := ?_) | refine w2 ?_ ?_ | refine w3 (h := ?_) | refine w4 (h := ?_) | refine hD _ _ ?_ | refine hL _ _ ?_ | (intro h; (try simp only [n1, n2, n3, n4, n5, n6] at h); first | (exfalso; omega) | (cases h; done) | skip)) <;> (conv => whnf))
        refine And.intro ⟨by omega, hx2, by omega, fun u hu => by rw [List.mem_singleton.1 hu]; rfl⟩ ?_
        intro m0 sp0 hsp0
        conv => whnf
        repeat' ((first | refine w1 (h := ?_) | refine w2 ?_ ?_ | refine w3 (h := ?_) | refine w4 (h := ?_) | refine hD _ _ ?_ | refine hL _ _ ?_ | (intro h; (try simp only [n1, n2, n3, n4, n5, n6] at h); first | (exfalso; omega) | (cases h; done) | skip)) <;> (conv => whnf))
        have hrl : (xs.take (l.length * 1) ++ [o.v] ++ sp0).length = l.length + 1 + m0 := by
          simp only [List.length_append, List.length_take, List.length_singleton, hsp0, Nat.mul_one, Nat.min_eq_left hx2]
        refine ⟨⟨l.length + 1, p, l ++ [o], .row (xs.take (l.length * 1) ++ [o.v] ++ sp0), f2 ++ gs⟩, [0, 1, 4], ⟨⟨⟨by show l.length + 1 ≤ N; omega, by simp, hp.2.1, by show l.length + 1 ≤ p; omega⟩, ?_, ⟨?_, by rw [hrl]; simp⟩, fun b hb => ?_⟩, by simp only; omega⟩, rfl, ⟨fun _ _ _ => rfl, fun _ _ _ => rfl, SEq.ren rfl rfl, trivial⟩, ⟨OSub.ren rfl rfl, OSub.ren rfl (by rw [hrl]; rfl), OSub.ren rfl rfl, trivial⟩, fun f hf => by simpa using hf⟩
        · show rdAll e.get U (l.length + 1) 0 = some ((l ++ [o]).map BsV.bs, p)
          rw [List.map_append, show [o].map BsV.bs = [b] by simp [hb]]; exact hmore b p hre
        · rw [Nat.mul_one, hx1, List.take_left' (by simp)]; simp
        · show b.Fit ((f2 ++ gs) ++ fx)
          rw [List.append_assoc]
          rcases List.mem_append.1 hb with hb | hb
          · exact (hfit b hb).mono fun f hf => List.mem_append_right _ hf
          · rw [List.mem_singleton.1 hb]; exact hof
    · obtain rfl : N = l.length := by omega
      exact ⟨⟨none, []⟩, by show (match rdAll e.get U l.length 0 with | none => none | some (l, p) => if p = U then some l else none) = none; rw [hrd]; exact if_neg (by omega), Ret.mk [0, 1] [pdk 0 D e] (Fold.drop1 (by repeat first | exact List.mem_cons_self .. | apply List.mem_cons_of_mem)) rfl (fun _ _ _ => rfl) ⟨OSub.ren rfl rfl, trivial⟩ (fun _ h => nomatch h)⟩
    · obtain rfl : N = l.length := by omega
      obtain rfl : pos = U := by omega
      exact ⟨⟨some l, gs⟩, ⟨by rw [hrd]; exact if_pos rfl, hfit⟩, sto_ret (s := ⟨l, [], pos, pos, false⟩) ⟨.row xs, .no, ⟨hx1, hx2⟩, rfl⟩ 2 3 (by decide) (by repeat first | exact List.mem_cons_self .. | apply List.mem_cons_of_mem) (by repeat first | exact List.mem_cons_self .. | apply List.mem_cons_of_mem) (fun xs e => by cases e; exact (by repeat first | exact List.mem_cons_self .. | apply List.mem_cons_of_mem)) (fun xs e => by cases e) (fun ρ => by rfl) rfl (SEq.ren rfl rfl) (fun g hg => List.mem_append_left _ hg)⟩
end Go.Proofs.Ytekgjjanikicnaa.Sx

namespace Go.Proofs.Ytekgjjanikicnaa.Sx
open Go
set_option maxRecDepth 100000
set_option linter.unusedSimpArgs false
set_option linter.unusedVariables false
/-- A store alone, as a call leaves it. -/
theorem sto_ret1 {D : Nat} {s : StS} (v : StI s) (k w : Nat) {h : List (Nat × SObj)} {cs : List SV} {x y : SV} {n : Nat} {f0 f : List Fact} {m0 : Nat} (hne : Nat.ble 1 k = true ∧ Nat.ble 1 w = true ∧ Nat.beq k w = false)
    (h0 : (0, SObj.cells cs 115) ∈ h)
    (h1 : ∀ xs, v.K = .row xs → (k, SObj.row xs 22) ∈ h) (h2 : ∀ xs, v.W = .row xs → (w, SObj.row xs 22) ∈ h)
    (hc : ∀ ρ, denL ρ cs = denL (fun n => ρ (sg [0, k, w] n)) (stC D (v.K.sv 1 s.kept.length) (v.W.sv 2 s.wait.length) s.used s.next s.over))
    (hn : namesOk m0 n 1 [0] [0] = true) (hv : SEq 1 [0] x y) (hf : ∀ g, g ∈ f0 → g ∈ f) : Ret m0 x [(0, .abs (stoA D s))] 1 f0 y h n f := by
  obtain ⟨a1, a2, a3⟩ := hne
  have a1 := Nat.le_of_ble_eq_true a1
  have a2 := Nat.le_of_ble_eq_true a2
  have a3 : k ≠ w := fun e => by subst e; rw [Nat.beq_refl] at a3; cases a3
  obtain ⟨l, hl, hst⟩ := sto_fold v 0 k w ⟨by omega, by omega, a3⟩ h0 hc h1 h2
  exact Ret.mk [0] [(0, .abs (stoA D s))] (hl.trans (Fold.drop1 (List.mem_cons_self ..))) hn hv ⟨OSub.ren rfl rfl, trivial⟩ hf
theorem sto_ret1R {D : Nat} {s : StS} (v : StI s) (k w r : Nat) {h : List (Nat × SObj)} {cs : List SV} {x y : SV} {n : Nat} {f0 f : List Fact} {m0 : Nat} {ys : List Value} {T : TypeId} (hne : (Nat.ble 1 k = true ∧ Nat.ble 1 w = true ∧ Nat.beq k w = false) ∧ Nat.ble 1 r = true ∧ Nat.beq r k = false ∧ Nat.beq r w = false)
    (h0 : (0, SObj.cells cs 115) ∈ h) (hr : (r, SObj.row ys T) ∈ h)
    (h1 : ∀ xs, v.K = .row xs → (k, SObj.row xs 22) ∈ h) (h2 : ∀ xs, v.W = .row xs → (w, SObj.row xs 22) ∈ h)
    (hc : ∀ ρ, denL ρ cs = denL (fun n => ρ (sg [0, k, w] n)) (stC D (v.K.sv 1 s.kept.length) (v.W.sv 2 s.wait.length) s.used s.next s.over))
    (hn : namesOk m0 n 2 [0, r] [0, 1] = true) (hv : SEq 2 [0, r] x y) (hf : ∀ g, g ∈ f0 → g ∈ f) : Ret m0 x [(0, .abs (stoA D s)), (1, .row ys T)] 2 f0 y h n f := by
  obtain ⟨⟨a1, a2, a3⟩, b1, b2, b3⟩ := hne
  have a1 := Nat.le_of_ble_eq_true a1
  have a2 := Nat.le_of_ble_eq_true a2
  have a3 : k ≠ w := fun e => by subst e; rw [Nat.beq_refl] at a3; cases a3
  have b1 := Nat.le_of_ble_eq_true b1
  have b2 : r ≠ k := fun e => by subst e; rw [Nat.beq_refl] at b2; cases b2
  have b3 : r ≠ w := fun e => by subst e; rw [Nat.beq_refl] at b3; cases b3
  obtain ⟨l, hl, hst⟩ := sto_fold v 0 k w ⟨by omega, by omega, a3⟩ h0 hc h1 h2
  refine Ret.mk [0, r] [(0, .abs (stoA D s)), (r, .row ys T)] (hl.trans (Fold.drop2 (List.mem_cons_self ..) (List.mem_cons_of_mem _ (hst r _ hr (by omega) b2 b3)))) hn hv ⟨OSub.ren rfl rfl, ?_, trivial⟩ hf
  have e1 : Nat.beq r 0 = false := by rw [Bool.eq_false_iff, ne_eq, Nat.beq_eq]; omega
  simp only [objK, sg, List.getD_cons_zero, List.getD_cons_succ, e1, Nat.beq_refl]
  exact OSub.row rfl
theorem tSLenNil (fx : List Fact) : Tri Try.prog 55 [.v (.pointer none)] [] 0 fx (Ret 0 (.k .i64 0) [] 0 []) := by
  refine Tri.of_code tok Try.func55 rfl rfl rfl (by decide) rfl (Nat.le_of_ble_eq_true rfl) ?_
  conv => whnf
  repeat' ((first | refine w1 (h := ?_) | refine w2 ?_ ?_ | refine w3 (h := ?_) | refine w4 (h := ?_) | refine hD _ _ ?_ | refine hL _ _ ?_ | (intro h; (try simp only [n1, n2, n3, n4, n5, n6] at h); first | (exfalso; omega) | (cases h; done) | skip)) <;> (conv => whnf))
  exact Ret.noneS rfl (fun _ _ => rfl) (fun _ h => nomatch h)
theorem tSWaitsNil (fx : List Fact) : Tri Try.prog 54 [.v (.pointer none)] [] 0 fx (Ret 0 (.k .i64 0) [] 0 []) := by
  refine Tri.of_code tok Try.func54 rfl rfl rfl (by decide) rfl (Nat.le_of_ble_eq_true rfl) ?_
  conv => whnf
  repeat' ((first | refine w1 (h := ?_) | refine w2 ?_ ?_ | refine w3 (h := ?_) | refine w4 (h := ?_) | refine hD _ _ ?_ | refine hL _ _ ?_ | (intro h; (try simp only [n1, n2, n3, n4, n5, n6] at h); first | (exfalso; omega) | (cases h; done) | skip)) <;> (conv => whnf))
  exact Ret.noneS rfl (fun _ _ => rfl) (fun _ h => nomatch h)
theorem tSRoomNil (fx : List Fact) : Tri Try.prog 51 [.v (.pointer none)] [] 0 fx (Ret 0 (.k .i64 0) [] 0 []) := by
  refine Tri.of_code tok Try.func51 rfl rfl rfl (by decide) rfl (Nat.le_of_ble_eq_true rfl) ?_
  conv => whnf
  repeat' ((first | refine w1 (h := ?_) | refine w2 ?_ ?_ | refine w3 (h := ?_) | refine w4 (h := ?_) | refine hD _ _ ?_ | refine hL _ _ ?_ | (intro h; (try simp only [n1, n2, n3, n4, n5, n6] at h); first | (exfalso; omega) | (cases h; done) | skip)) <;> (conv => whnf))
  exact Ret.noneS rfl (fun _ _ => rfl) (fun _ h => nomatch h)
theorem tSLen (fx : List Fact) (D : Nat) (s : StS) : Tri Try.prog 55 [.p 0 0] [(0, .abs (stoA D s))] 1 fx (RetE (α := Unit) 1 (fun _ => True) (fun _ => .v (.int .i64 s.kept.length)) (fun _ => [(0, .abs (stoA D s))]) 1 (fun _ => [])) := by
  refine Tri.toldE (told_sto D s) trivial 0 (List.mem_singleton.2 rfl) fun v => Tri.one ?_
  obtain ⟨K, W, hK, hW⟩ := v
  cases K <;> cases W
  all_goals
    refine Tri.of_code tok Try.func55 rfl rfl rfl (by decide) rfl (Nat.le_of_ble_eq_true rfl) ?_
    conv => whnf
    repeat' ((first | refine w1 (h := ?_) | refine w2 ?_ ?_ | refine w3 (h := ?_) | refine w4 (h := ?_) | refine hD _ _ ?_ | refine hL _ _ ?_ | (intro h; (try simp only [n1, n2, n3, n4, n5, n6] at h); first | (exfalso; omega) | (cases h; done) | skip)) <;> (conv => whnf))
    refine sto_ret1 ⟨_, _, hK, hW⟩ 1 2 (by decide) (by repeat first | exact List.mem_cons_self .. | apply List.mem_cons_of_mem) (fun xs e => by cases e <;> exact (by repeat first | exact List.mem_cons_self .. | apply List.mem_cons_of_mem)) (fun xs e => by cases e <;> exact (by repeat first | exact List.mem_cons_self .. | apply List.mem_cons_of_mem)) (fun ρ => rfl) rfl ?_ (fun _ h => nomatch h)
    first | exact SEq.ren rfl rfl | exact SEq.eq (by rw [show s.kept = [] from hK]; rfl)
theorem tSWaits (fx : List Fact) (D : Nat) (s : StS) : Tri Try.prog 54 [.p 0 0] [(0, .abs (stoA D s))] 1 fx (RetE (α := Unit) 1 (fun _ => True) (fun _ => .v (.int .i64 s.wait.length)) (fun _ => [(0, .abs (stoA D s))]) 1 (fun _ => [])) := by
  refine Tri.toldE (told_sto D s) trivial 0 (List.mem_singleton.2 rfl) fun v => Tri.one ?_
  obtain ⟨K, W, hK, hW⟩ := v
  cases K <;> cases W
  all_goals
    refine Tri.of_code tok Try.func54 rfl rfl rfl (by decide) rfl (Nat.le_of_ble_eq_true rfl) ?_
    conv => whnf
    repeat' ((first | refine w1 (h := ?_) | refine w2 ?_ ?_ | refine w3 (h := ?_) | refine w4 (h := ?_) | refine hD _ _ ?_ | refine hL _ _ ?_ | (intro h; (try simp only [n1, n2, n3, n4, n5, n6] at h); first | (exfalso; omega) | (cases h; done) | skip)) <;> (conv => whnf))
    refine sto_ret1 ⟨_, _, hK, hW⟩ 1 2 (by decide) (by repeat first | exact List.mem_cons_self .. | apply List.mem_cons_of_mem) (fun xs e => by cases e <;> exact (by repeat first | exact List.mem_cons_self .. | apply List.mem_cons_of_mem)) (fun xs e => by cases e <;> exact (by repeat first | exact List.mem_cons_self .. | apply List.mem_cons_of_mem)) (fun ρ => rfl) rfl ?_ (fun _ h => nomatch h)
    first | exact SEq.ren rfl rfl | exact SEq.eq (by rw [show s.wait = [] from hW]; rfl)
theorem tSRoom (fx : List Fact) (D : Nat) (d : DS) (hd : d.l.length ≤ 4096) (s : StS) (hn : s.next ≤ 1000000) : Tri Try.prog 51 [.p 1 0] [pdk 0 D d, (1, .abs (stoA D s))] 2 fx (RetE (α := Unit) 2 (fun _ => True) (fun _ => .v (.int .i64 ((d.l.length : Int) - 3 - s.next))) (fun _ => [pdk 0 D d, (1, .abs (stoA D s))]) 2 (fun _ => [])) := by
  refine Tri.toldE (told_sto D s) trivial 1 (by repeat first | exact List.mem_cons_self .. | apply List.mem_cons_of_mem) fun v => Tri.one ?_
  obtain ⟨K, W, hK, hW⟩ := v
  cases K <;> cases W
  all_goals
    refine Tri.of_code tok Try.func51 rfl rfl rfl (by decide) rfl (Nat.le_of_ble_eq_true rfl) ?_
    conv => whnf
    repeat' ((first | refine w1 (h := ?_) | refine w2 ?_ ?_ | refine w3 (h := ?_) | refine w4 (h := ?_) | refine hD _ _ ?_ | refine hL _ _ ?_ | (intro h; (try simp only [n1, n2, n3, n4, n5, n6] at h); first | (exfalso; omega) | (cases h; done) | skip)) <;> (conv => whnf))
    refine draw_opaque fun KD hD => ?_
    refine draw_solid tok (by kernel_rfl) [.any 0, .any 1, .any 2, .any 6, .any 7, .any 8, .load 3, .load 9, .one 4, .any 5, .any 10, .any 11] [] (by kernel_rfl) rfl rfl (by repeat' (first | exact trivial | refine And.intro rfl ?_)) ?_
    conv => whnf
    repeat' ((first | refine w1 (h := ?_) | refine w2 ?_ ?_ | refine w3 (h := ?_) | refine w4 (h := ?_) | refine hD _ _ ?_ | refine hL _ _ ?_ | (intro h; (try simp only [n1, n2, n3, n4, n5, n6] at h); first | (exfalso; omega) | (cases h; done) | skip)) <;> (conv => whnf))
    refine Tri.use (pSize fx D d) [0] rfl (args_ren rfl rfl) ⟨OSub.ren rfl rfl, trivial⟩ (fun f hf => by first | exact hf | cases hf | simp_all) (fun u hu => ?_)
    conv => whnf
    repeat' ((first | refine w1 (h := ?_) | refine w2 ?_ ?_ | refine w3 (h := ?_) | refine w4 (h := ?_) | refine hD _ _ ?_ | refine hL _ _ ?_ | (intro h; (try simp only [n1, n2, n3, n4, n5, n6] at h); first | (exfalso; omega) | (cases h; done) | skip)) <;> (conv => whnf))
    exact sto_ret ⟨_, _, hK, hW⟩ 2 3 (by decide) (by repeat first | exact List.mem_cons_self .. | apply List.mem_cons_of_mem) (by repeat first | exact List.mem_cons_self .. | apply List.mem_cons_of_mem) (fun xs e => by cases e <;> exact (by repeat first | exact List.mem_cons_self .. | apply List.mem_cons_of_mem)) (fun xs e => by cases e <;> exact (by repeat first | exact List.mem_cons_self .. | apply List.mem_cons_of_mem)) (fun ρ => rfl) rfl (SEq.ren rfl rfl) (fun _ h => nomatch h)
theorem tSEntryNil (fx : List Fact) (i : Int) : Tri Try.prog 57 [.v (.pointer none), .v (.int .i64 i)] [] 0 fx (Ret 0 (.tup [.v (.slice none 0 0), .b false]) [] 0 []) := by
  refine Tri.of_code tok Try.func57 rfl rfl rfl (by decide) rfl (Nat.le_of_ble_eq_true rfl) ?_
  conv => whnf
  repeat' ((first | refine w1 (h := ?_) | refine w2 ?_ ?_ | refine w3 (h := ?_) | refine w4 (h := ?_) | refine hD _ _ ?_ | refine hL _ _ ?_ | (intro h; (try simp only [n1, n2, n3, n4, n5, n6] at h); first | (exfalso; omega) | (cases h; done) | skip)) <;> (conv => whnf))
  · exact Ret.noneS rfl (fun _ _ => rfl) (fun _ h => nomatch h)
  · refine Tri.use ((tSLenNil fx).one) [] rfl (fun _ _ _ => rfl) trivial (fun f hf => by first | exact hf | cases hf) (fun u hu => ?_)
    conv => whnf
    repeat' ((first | refine w1 (h := ?_) | refine w2 ?_ ?_ | refine w3 (h := ?_) | refine w4 (h := ?_) | refine hD _ _ ?_ | refine hL _ _ ?_ | (intro h; (try simp only [n1, n2, n3, n4, n5, n6] at h); first | (exfalso; omega) | (cases h; done) | skip)) <;> (conv => whnf))
    exact Ret.noneS rfl (fun _ _ => rfl) (fun _ h => nomatch h)
/-- What is out of range is no entry. -/
theorem tSEntryOut (fx : List Fact) (D : Nat) (s : StS) (i : Int) (hi : i < 0 ∨ (s.kept.length : Int) ≤ i) : Tri Try.prog 57 [.p 0 0, .v (.int .i64 i)] [(0, .abs (stoA D s))] 1 fx (RetE (α := Unit) 1 (fun _ => True) (fun _ => .tup [.v (.slice none 0 0), .b false]) (fun _ => [(0, .abs (stoA D s))]) 1 (fun _ => [])) := by
  refine Tri.one ?_
  refine Tri.of_code tok Try.func57 rfl rfl rfl (by decide) rfl (Nat.le_of_ble_eq_true rfl) ?_
  conv => whnf
  repeat' ((first | refine w1 (h := ?_) | refine w2 ?_ ?_ | refine w3 (h := ?_) | refine w4 (h := ?_) | refine hD _ _ ?_ | refine hL _ _ ?_ | (intro h; (try simp only [n1, n2, n3, n4, n5, n6] at h); first | (exfalso; omega) | (cases h; done) | skip)) <;> (conv => whnf))
  · exact Ret.mk [0] [(0, .abs (stoA D s))] (Fold.drop1 (by repeat first | exact List.mem_cons_self .. | apply List.mem_cons_of_mem)) rfl (fun _ _ _ => rfl) ⟨OSub.ren rfl rfl, trivial⟩ (fun _ h => nomatch h)
  · refine Tri.use (tSLen fx D s) [0] rfl (args_ren rfl rfl) ⟨OSub.ren rfl rfl, trivial⟩ (fun f hf => by first | exact hf | cases hf | simp_all) (fun u hu => ?_)
    conv => whnf
    repeat' ((first | refine w1 (h := ?_) | refine w2 ?_ ?_ | refine w3 (h := ?_) | refine w4 (h := ?_) | refine hD _ _ ?_ | refine hL _ _ ?_ | (intro h; (try simp only [n1, n2, n3, n4, n5, n6] at h); first | (exfalso; omega) | (cases h; done) | skip)) <;> (conv => whnf))
    exact Ret.mk [0] [(0, .abs (stoA D s))] (Fold.drop1 (by repeat first | exact List.mem_cons_self .. | apply List.mem_cons_of_mem)) rfl (fun _ _ _ => rfl) ⟨OSub.ren rfl rfl, trivial⟩ (fun _ h => nomatch h)
/-- An entry, copied into an own row. -/
theorem tSEntryRow (fx : List Fact) (D : Nat) (s : StS) (i : Nat) (hi : i < s.kept.length) (hk : s.kept.length ≤ 1000000) (ad : Addr) (had : s.kept[i].B = some ad) (hf : s.kept[i].Fit fx) (hbl : s.kept[i].bs.length < 1000000000) : Tri Try.prog 57 [.p 0 0, .v (.int .i64 i)] [(0, .abs (stoA D s))] 1 fx
    (RetE (α := List Value) 1 (fun xs => xs.take s.kept[i].bs.length = s.kept[i].bs.map bv ∧ s.kept[i].bs.length ≤ xs.length) (fun xs => .tup [.s 1 0 s.kept[i].bs.length xs.length, .b true]) (fun xs => [(0, .abs (stoA D s)), (1, .row xs 5)]) 2 (fun _ => [])) := by
  refine Tri.toldE (told_sto D s) trivial 0 (List.mem_singleton.2 rfl) fun v => ?_
  obtain ⟨K, W, hK, hW⟩ := v
  cases K with
  | no => have : s.kept = [] := hK; rw [this] at hi; simp at hi
  | row xs =>
    obtain ⟨hx1, hx2⟩ := hK
    have hxi : xs[0 + i * 1]? = some (.slice (some ad) s.kept[i].bs.length s.kept[i].cap) := by
      rw [Nat.zero_add, Nat.mul_one, ← had]
      have := congrArg (fun l => l[i]?) hx1
      simp only [List.getElem?_map, List.getElem?_eq_getElem hi, Option.map_some] at this
      rwa [List.getElem?_take_of_lt hi] at this
    have tc := tSCloneRow fx ad s.kept[i].cap s.kept[i].bs (by rw [← had]; exact hf.b) hbl
    cases W
    all_goals
      refine Tri.of_code tok Try.func57 rfl rfl rfl (by decide) rfl (Nat.le_of_ble_eq_true rfl) ?_
      conv => whnf
      repeat' ((first | refine w1 (h := ?_) | refine w2 ?_ ?_ | refine w3 (h := ?_) | refine w4 (h := ?_) | refine hD _ _ ?_ | refine hL _ _ ?_ | (intro h; (try simp only [n1, n2, n3, n4, n5, n6] at h); first | (exfalso; omega) | (cases h; done) | skip)) <;> (conv => whnf))
      refine Tri.of_code tok Try.func55 rfl rfl rfl (by decide) rfl (Nat.le_of_ble_eq_true rfl) ?_
      conv => whnf
      repeat' ((first | refine w1 (h := ?_) | refine w2 ?_ ?_ | refine w3 (h := ?_) | refine w4 (h := ?_) | refine hD _ _ ?_ | refine hL _ _ ?_ | (intro h; (try simp only [n1, n2, n3, n4, n5, n6] at h); first | (exfalso; omega) | (cases h; done) | skip)) <;> (conv => whnf))
      refine Tri.use (tc) [] rfl (fun _ _ _ => rfl) trivial (fun f hf => by first | exact hf | cases hf) (fun ys hys => ?_)
      obtain ⟨hy1, hy2⟩ := hys
      conv => whnf
      repeat' ((first | refine w1 (h := ?_) | refine w2 ?_ ?_ | refine w3 (h := ?_) | refine w4 (h := ?_) | refine hD _ _ ?_ | refine hL _ _ ?_ | (intro h; (try simp only [n1, n2, n3, n4, n5, n6] at h); first | (exfalso; omega) | (cases h; done) | skip)) <;> (conv => whnf))
      refine ⟨ys, ⟨hy1, hy2⟩, ?_⟩
      exact sto_ret1R (⟨.row xs, _, ⟨hx1, hx2⟩, hW⟩ : StI s) 1 2 3 (by decide) (by repeat first | exact List.mem_cons_self .. | apply List.mem_cons_of_mem) (by repeat first | exact List.mem_cons_self .. | apply List.mem_cons_of_mem) (fun xs e => by cases e <;> exact (by repeat first | exact List.mem_cons_self .. | apply List.mem_cons_of_mem)) (fun xs e => by cases e <;> exact (by repeat first | exact List.mem_cons_self .. | apply List.mem_cons_of_mem)) (fun ρ => rfl) rfl (SEq.ren rfl rfl) (fun _ h => nomatch h)
/-- An entry, told by facts. -/
theorem tSEntry (fx : List Fact) (D : Nat) (s : StS) (i : Nat) (hi : i < s.kept.length) (hk : s.kept.length ≤ 1000000) (hf : s.kept[i].Fit fx) (hbl : s.kept[i].bs.length < 1000000000) : Tri Try.prog 57 [.p 0 0, .v (.int .i64 i)] [(0, .abs (stoA D s))] 1 fx
    (RetE (α := BsV × List Fact) 1 (fun x => x.1.bs = s.kept[i].bs ∧ x.1.Fit (x.2 ++ fx)) (fun x => .tup [.v x.1.v, .b true]) (fun _ => [(0, .abs (stoA D s))]) 1 (fun x => x.2)) := by
  cases had : s.kept[i].B with
  | some ad =>
    refine Tri.share (tSEntryRow fx D s i hi hk ad had hf hbl).conv fun y h m f ⟨xs, ⟨p1, p2⟩, e1, e2, e3, e4⟩ => ?_
    subst e1 e2 e3 e4
    refine ⟨1, xs, 5, (by repeat first | exact List.mem_cons_self .. | apply List.mem_cons_of_mem), fun b1 => ⟨.tup [.v (.slice (some ⟨b1, 0, none⟩) s.kept[i].bs.length xs.length), .b true], fun ρ hr => by subst hr; rfl, (⟨some ⟨b1, 0, none⟩, s.kept[i].bs, xs.length⟩, [rowFact b1 xs 5]), ⟨rfl, p2, BytesAt.row (List.mem_cons_self ..) (by rw [List.drop_zero]; exact p1)⟩, ?_⟩⟩
    exact Ret.mk [0] [(0, .abs (stoA D s))] (Fold.drop1 (by repeat first | exact List.mem_cons_self .. | apply List.mem_cons_of_mem)) rfl (fun _ _ _ => rfl) ⟨OSub.ren rfl rfl, trivial⟩ (fun g hg => by simpa using hg)
  | none =>
    have hb0 : s.kept[i].bs = [] := hf.b.1 had
    refine Tri.toldE (told_sto D s) trivial 0 (List.mem_singleton.2 rfl) fun v => ?_
    obtain ⟨K, W, hK, hW⟩ := v
    cases K with
    | no => have : s.kept = [] := hK; rw [this] at hi; simp at hi
    | row xs =>
      obtain ⟨hx1, hx2⟩ := hK
      have hxi : xs[0 + i * 1]? = some (.slice none s.kept[i].bs.length s.kept[i].cap) := by
        rw [Nat.zero_add, Nat.mul_one, ← had]
        have := congrArg (fun l => l[i]?) hx1
        simp only [List.getElem?_map, List.getElem?_eq_getElem hi, Option.map_some] at this
        rwa [List.getElem?_take_of_lt hi] at this
      have tc := tSClone fx none s.kept[i].cap s.kept[i].bs (by rw [← had]; exact hf.b) hbl
      cases W
      all_goals
        refine Tri.of_code tok Try.func57 rfl rfl rfl (by decide) rfl (Nat.le_of_ble_eq_true rfl) ?_
        conv => whnf
        repeat' ((first | refine w1 (h := ?_) | refine w2 ?_ ?_ | refine w3 (h := ?_) | refine w4 (h := ?_) | refine hD _ _ ?_ | refine hL _ _ ?_ | (intro h; (try simp only [n1, n2, n3, n4, n5, n6] at h); first | (exfalso; omega) | (cases h; done) | skip)) <;> (conv => whnf))
        refine Tri.of_code tok Try.func55 rfl rfl rfl (by decide) rfl (Nat.le_of_ble_eq_true rfl) ?_
        conv => whnf
        repeat' ((first | refine w1 (h := ?_) | refine w2 ?_ ?_ | refine w3 (h := ?_) | refine w4 (h := ?_) | refine hD _ _ ?_ | refine hL _ _ ?_ | (intro h; (try simp only [n1, n2, n3, n4, n5, n6] at h); first | (exfalso; omega) | (cases h; done) | skip)) <;> (conv => whnf))
        refine Tri.use (tc) [] rfl (fun _ _ _ => rfl) trivial (fun f hf => by first | exact hf | cases hf) (fun ys hys => ?_)
        obtain ⟨hy1, hy2⟩ := hys
        conv => whnf
        refine appFK_go ?_
        conv => whnf
        repeat' ((first | refine w1 (h := ?_) | refine w2 ?_ ?_ | refine w3 (h := ?_) | refine w4 (h := ?_) | refine hD _ _ ?_ | refine hL _ _ ?_ | (intro h; (try simp only [n1, n2, n3, n4, n5, n6] at h); first | (exfalso; omega) | (cases h; done) | skip)) <;> (conv => whnf))
        refine ⟨ys, ⟨hy1, hy2.mono fun f hf => List.mem_append_left _ hf⟩, ?_⟩
        exact sto_ret1 (⟨.row xs, _, ⟨hx1, hx2⟩, hW⟩ : StI s) 1 2 (by decide) (by repeat first | exact List.mem_cons_self .. | apply List.mem_cons_of_mem) (fun xs e => by cases e <;> exact (by repeat first | exact List.mem_cons_self .. | apply List.mem_cons_of_mem)) (fun xs e => by cases e <;> exact (by repeat first | exact List.mem_cons_self .. | apply List.mem_cons_of_mem)) (fun ρ => rfl) rfl (SEq.ren rfl rfl) (fun g hg => List.mem_append_left _ hg)
end Go.Proofs.Ytekgjjanikicnaa.Sx

namespace Go.Proofs.Ytekgjjanikicnaa.Sx
open Go
set_option maxRecDepth 100000
set_option linter.unusedSimpArgs false
set_option linter.unusedVariables false
theorem tCat3 (fx : List Fact) (A : Option Addr) (cap : Nat) (b p : List UInt8) (hB : BytesAt fx A b) (n L : Nat) (hp : p.length = 2) (hb : 2 + b.length + n = L) (hL : L < 1000000) :
    Tri Try.prog 71 [.s 0 0 3 3] [(0, .cells [.s 1 0 2 2, .v (.slice A b.length cap), .s 2 0 n n] 22), (1, .row (p.map bv) 5), (2, .row (repRow [.int .u8 0] n) 5)] 3 fx
      (RetE (α := List Value) 3 (fun xs => xs.take L = (p ++ b ++ List.replicate n 0).map bv ∧ L ≤ xs.length) (fun xs => .s 3 0 L xs.length) (fun xs => [(3, .row xs 5)]) 4 (fun _ => [])) := by
  have hrm : ∀ {l : List UInt8} {u : Value}, u ∈ l.map bv → u.oneCell' = true := fun hu => by obtain ⟨c, _, rfl⟩ := List.mem_map.1 hu; rfl
  have hpl : (p.map bv).length = 2 := by rw [List.length_map, hp]
  refine Tri.of_code tok Try.func71 rfl rfl rfl (by decide) rfl (Nat.le_of_ble_eq_true rfl) ?_
  conv => whnf
  repeat' ((first | refine w1 (h := ?_) | refine w2 ?_ ?_ | refine w3 (h := ?_) | refine w4 (h := ?_) | refine hD _ _ ?_ | refine hL _ _ ?_ | (intro h; (try simp only [n1, n2, n3, n4, n5, n6] at h); first | (exfalso; omega) | (cases h; done) | skip)) <;> (conv => whnf))
  refine loop_rounds 4 (round_next tok ?_)
  conv => whnf
  repeat' ((first | refine w1 (h := ?_) | refine w2 ?_ ?_ | refine w3 (h := ?_) | refine w4 (h := ?_) | refine hD _ _ ?_ | refine hL _ _ ?_ | (intro h; (try simp only [n1, n2, n3, n4, n5, n6] at h); first | (exfalso; omega) | (cases h; done) | skip)) <;> (conv => whnf))
  refine round_next tok ?_
  conv => whnf
  repeat' ((first | refine w1 (h := ?_) | refine w2 ?_ ?_ | refine w3 (h := ?_) | refine w4 (h := ?_) | refine hD _ _ ?_ | refine hL _ _ ?_ | (intro h; (try simp only [n1, n2, n3, n4, n5, n6] at h); first | (exfalso; omega) | (cases h; done) | skip)) <;> (conv => whnf))
  refine round_next tok ?_
  conv => whnf
  repeat' ((first | refine w1 (h := ?_) | refine w2 ?_ ?_ | refine w3 (h := ?_) | refine w4 (h := ?_) | refine hD _ _ ?_ | refine hL _ _ ?_ | (intro h; (try simp only [n1, n2, n3, n4, n5, n6] at h); first | (exfalso; omega) | (cases h; done) | skip)) <;> (conv => whnf))
  refine round_next tok ?_
  conv => whnf
  repeat' ((first | refine w1 (h := ?_) | refine w2 ?_ ?_ | refine w3 (h := ?_) | refine w4 (h := ?_) | refine hD _ _ ?_ | refine hL _ _ ?_ | (intro h; (try simp only [n1, n2, n3, n4, n5, n6] at h); first | (exfalso; omega) | (cases h; done) | skip)) <;> (conv => whnf))
  have eL : (0 : Int) + ((2 : Nat) : Int) + (b.length : Int) + (n : Int) = ((L : Nat) : Int) := by omega
  rw [eL]
  obtain ⟨L', rfl⟩ : ∃ L', L = L' + 1 := ⟨L - 1, by omega⟩
  refine Tri.of_code tok Try.func86 rfl rfl rfl (by decide) rfl (Nat.le_of_ble_eq_true rfl) ?_
  conv => whnf
  repeat' ((first | refine w1 (h := ?_) | refine w2 ?_ ?_ | refine w3 (h := ?_) | refine w4 (h := ?_) | refine hD _ _ ?_ | refine hL _ _ ?_ | (intro h; (try simp only [n1, n2, n3, n4, n5, n6] at h); first | (exfalso; omega) | (cases h; done) | skip)) <;> (conv => whnf))
  rename_i m0 sp0
  have hsp0 := h
  rw [Nat.mul_one] at hsp0
  have hr0 : (repRow [Value.int IntKind.u8 0] (L' + 1) ++ sp0).length = L' + 1 + m0 := by rw [List.length_append, hsp0, repRow_one, List.length_replicate]
  refine loop_rounds 4 (round_next tok ?_)
  conv => whnf
  repeat' ((first | (refine Exists.intro (p.map bv) (And.intro ⟨by rw [List.drop_zero, List.take_of_length_le (by rw [hpl]; decide)], by rw [hpl]⟩ ?_)) | refine w1 (h := ?_) | refine w2 ?_ ?_ | refine w3 (h := ?_) | refine w4 (h := ?_) | refine hD _ _ ?_ | refine hL _ _ ?_ | (intro h; (try simp only [n1, n2, n3, n4, n5, n6] at h); first | (exfalso; omega) | (cases h; done) | skip)) <;> (conv => whnf))
  refine And.intro ⟨by omega, by omega, by rw [hr0]; omega, fun u hu => hrm hu⟩ ?_
  intro m1 sp1 hsp1
  conv => whnf
  repeat' ((first | refine w1 (h := ?_) | refine w2 ?_ ?_ | refine w3 (h := ?_) | refine w4 (h := ?_) | refine hD _ _ ?_ | refine hL _ _ ?_ | (intro h; (try simp only [n1, n2, n3, n4, n5, n6] at h); first | (exfalso; omega) | (cases h; done) | skip)) <;> (conv => whnf))
  refine round_next tok ?_
  conv => whnf
  repeat' ((first | refine w1 (h := ?_) | refine w2 ?_ ?_ | refine w3 (h := ?_) | refine w4 (h := ?_) | refine hD _ _ ?_ | refine hL _ _ ?_ | (intro h; (try simp only [n1, n2, n3, n4, n5, n6] at h); first | (exfalso; omega) | (cases h; done) | skip)) <;> (conv => whnf))
  refine ⟨b.map bv, ⟨by simp, hB.rowAt⟩, ?_⟩
  conv => whnf
  repeat' ((first | refine w1 (h := ?_) | refine w2 ?_ ?_ | refine w3 (h := ?_) | refine w4 (h := ?_) | refine hD _ _ ?_ | refine hL _ _ ?_ | (intro h; (try simp only [n1, n2, n3, n4, n5, n6] at h); first | (exfalso; omega) | (cases h; done) | skip)) <;> (conv => whnf))
  have hr1 : (List.take (0 * 1) (repRow [Value.int IntKind.u8 0] (L' + 1) ++ sp0) ++ p.map bv ++ sp1).length = 2 + m1 := by simp [hp, hsp1]
  refine And.intro ⟨by omega, by omega, by rw [hr1]; omega, fun u hu => hrm hu⟩ ?_
  intro m2 sp2 hsp2
  conv => whnf
  repeat' ((first | refine w1 (h := ?_) | refine w2 ?_ ?_ | refine w3 (h := ?_) | refine w4 (h := ?_) | refine hD _ _ ?_ | refine hL _ _ ?_ | (intro h; (try simp only [n1, n2, n3, n4, n5, n6] at h); first | (exfalso; omega) | (cases h; done) | skip)) <;> (conv => whnf))
  refine round_next tok ?_
  conv => whnf
  repeat' ((first | refine w1 (h := ?_) | refine w2 ?_ ?_ | refine w3 (h := ?_) | refine w4 (h := ?_) | refine hD _ _ ?_ | refine hL _ _ ?_ | (intro h; (try simp only [n1, n2, n3, n4, n5, n6] at h); first | (exfalso; omega) | (cases h; done) | skip)) <;> (conv => whnf))
  refine ⟨repRow [.int .u8 0] n, ⟨by rw [List.drop_zero, repRow_one]; simp, by rw [repRow_one]; simp⟩, ?_⟩
  conv => whnf
  repeat' ((first | refine w1 (h := ?_) | refine w2 ?_ ?_ | refine w3 (h := ?_) | refine w4 (h := ?_) | refine hD _ _ ?_ | refine hL _ _ ?_ | (intro h; (try simp only [n1, n2, n3, n4, n5, n6] at h); first | (exfalso; omega) | (cases h; done) | skip)) <;> (conv => whnf))
  have hr2 : (List.take ((0 + 2) * 1) (List.take (0 * 1) (repRow [Value.int IntKind.u8 0] (L' + 1) ++ sp0) ++ p.map bv ++ sp1) ++ b.map bv ++ sp2).length = 2 + b.length + m2 := by
    simp only [List.length_append, List.length_take, hr1, List.length_map, hp, hsp1, hsp2]; omega
  refine And.intro ⟨by omega, by omega, by rw [hr2]; omega, fun u hu => by rw [repRow_one] at hu; rw [List.eq_of_mem_replicate hu]; rfl⟩ ?_
  intro m3 sp3 hsp3
  conv => whnf
  repeat' ((first | refine w1 (h := ?_) | refine w2 ?_ ?_ | refine w3 (h := ?_) | refine w4 (h := ?_) | refine hD _ _ ?_ | refine hL _ _ ?_ | (intro h; (try simp only [n1, n2, n3, n4, n5, n6] at h); first | (exfalso; omega) | (cases h; done) | skip)) <;> (conv => whnf))
  refine round_next tok ?_
  conv => whnf
  repeat' ((first | refine w1 (h := ?_) | refine w2 ?_ ?_ | refine w3 (h := ?_) | refine w4 (h := ?_) | refine hD _ _ ?_ | refine hL _ _ ?_ | (intro h; (try simp only [n1, n2, n3, n4, n5, n6] at h); first | (exfalso; omega) | (cases h; done) | skip)) <;> (conv => whnf))
  have e1 : (List.take (0 * 1) (repRow [Value.int IntKind.u8 0] (L' + 1) ++ sp0) ++ p.map bv ++ sp1).take ((0 + 2) * 1) = p.map bv := by
    rw [Nat.zero_mul, List.take_zero, List.nil_append, List.take_left' (by simp [hp])]
  rw [e1]
  have e2 : (p.map bv ++ b.map bv ++ sp2).take ((0 + 2 + b.length) * 1) = p.map bv ++ b.map bv := by
    rw [List.take_left' (by simp [hp])]
  rw [e2]
  have e3 : (p.map bv ++ b.map bv ++ repRow [Value.int IntKind.u8 0] n).length = L' + 1 := by
    rw [repRow_one]; simp [hp]; omega
  refine ⟨p.map bv ++ b.map bv ++ repRow [Value.int IntKind.u8 0] n ++ sp3, ⟨?_, by rw [List.length_append, e3]; omega⟩, Ret.mk [0, 1, 2, 6] [(6, .row (p.map bv ++ b.map bv ++ repRow [Value.int IntKind.u8 0] n ++ sp3) 5)] (Fold.drop1 (by repeat first | exact List.mem_cons_self .. | apply List.mem_cons_of_mem)) rfl (SEq.ren rfl ?_) ⟨OSub.ren rfl rfl, trivial⟩ (fun _ h => nomatch h)⟩
  · rw [List.take_left' e3, repRow_one]
    simp only [List.map_append, List.map_replicate]
    rfl
  · simp only [ren, sg, List.length_append, List.length_map, hp, hsp3, Nat.mul_one, repRow_one, List.length_replicate]
    have q1 : 0 + 2 + b.length + n = L' + 1 := by omega
    rw [q1]
    rfl
/-- The same, told by a fact. -/
theorem tCat3F (fx : List Fact) (A : Option Addr) (cap : Nat) (b p : List UInt8) (hB : BytesAt fx A b) (n L : Nat) (hp : p.length = 2) (hb : 2 + b.length + n = L) (hL : L < 1000000) :
    Tri Try.prog 71 [.s 0 0 3 3] [(0, .cells [.s 1 0 2 2, .v (.slice A b.length cap), .s 2 0 n n] 22), (1, .row (p.map bv) 5), (2, .row (repRow [.int .u8 0] n) 5)] 3 fx
      (RetE (α := Nat × List Value) 3 (fun x => x.2.take L = (p ++ b ++ List.replicate n 0).map bv ∧ L ≤ x.2.length) (fun x => .v (.slice (some ⟨x.1, 0, none⟩) L x.2.length)) (fun _ => []) 3 (fun x => [rowFact x.1 x.2 5])) := by
  refine Tri.share (tCat3 fx A cap b p hB n L hp hb hL).conv fun y h m f ⟨xs, ⟨p1, p2⟩, e1, e2, e3, e4⟩ => ?_
  subst e1 e2 e3 e4
  refine ⟨3, xs, 5, List.mem_singleton.2 rfl, fun b1 => ⟨.v (.slice (some ⟨b1, 0, none⟩) L xs.length), fun ρ hr => by subst hr; rfl, (b1, xs), ⟨p1, p2⟩, ?_⟩⟩
  exact Ret.mk [0, 1, 2] [] (Fold.drop (fun e he => by cases he)) rfl (fun _ _ _ => rfl) trivial (fun g hg => by simpa using hg)
end Go.Proofs.Ytekgjjanikicnaa.Sx

namespace Go.Proofs.Ytekgjjanikicnaa.Sx
open Go
set_option maxRecDepth 100000
set_option linter.unusedSimpArgs false
set_option linter.unusedVariables false
theorem tSAppNil (fx : List Fact) (A : Option Addr) (n cap : Nat) : Tri Try.prog 52 [.v (.pointer none), .v (.slice A n cap)] [] 0 fx (Ret 0 (.k .i64 6) [] 0 []) := by
  refine Tri.of_code tok Try.func52 rfl rfl rfl (by decide) rfl (Nat.le_of_ble_eq_true rfl) ?_
  conv => whnf
  repeat' ((first | refine w1 (h := ?_) | refine w2 ?_ ?_ | refine w3 (h := ?_) | refine w4 (h := ?_) | refine hD _ _ ?_ | refine hL _ _ ?_ | (intro h; (try simp only [n1, n2, n3, n4, n5, n6] at h); first | (exfalso; omega) | (cases h; done) | skip)) <;> (conv => whnf))
  exact Ret.noneS rfl (fun _ _ => rfl) (fun _ h => nomatch h)
/-- It is over, too long, or there is no room. -/
theorem tSAppNo (fx : List Fact) (D : Nat) (d : DS) (hd : d.l.length ≤ 4096) (s : StS) (hn : s.next ≤ 1000000) (A : Option Addr) (cap : Nat) (b : List UInt8) (hbl : b.length ≤ 1000000) (e : Int)
    (he : (s.over = true ∧ e = 6) ∨ (s.over = false ∧ 200 < b.length ∧ e = 4) ∨ (s.over = false ∧ b.length ≤ 200 ∧ (d.l.length : Int) - 3 - s.next < takesN b.length ∧ e = 5)) :
    Tri Try.prog 52 [.p 1 0, .v (.slice A b.length cap)] [pdk 0 D d, (1, .abs (stoA D s))] 2 fx (RetE (α := Unit) 2 (fun _ => True) (fun _ => .v (.int .i64 e)) (fun _ => [pdk 0 D d, (1, .abs (stoA D s))]) 2 (fun _ => [])) := by
  have htk : takesN b.length ≤ 100000 := by unfold takesN; omega
  refine Tri.toldE (told_sto D s) trivial 1 (by repeat first | exact List.mem_cons_self .. | apply List.mem_cons_of_mem) fun v => Tri.one ?_
  obtain ⟨K, W, hK, hW⟩ := v
  obtain ⟨kept, wait, used, next, over⟩ := s
  simp only at hn he hK hW
  rcases he with ⟨rfl, rfl⟩ | ⟨rfl, h2, rfl⟩ | ⟨rfl, h2, h3, rfl⟩
  · cases K <;> cases W
    all_goals
      refine Tri.of_code tok Try.func52 rfl rfl rfl (by decide) rfl (Nat.le_of_ble_eq_true rfl) ?_
      conv => whnf
      repeat' ((first | refine w1 (h := ?_) | refine w2 ?_ ?_ | refine w3 (h := ?_) | refine w4 (h := ?_) | refine hD _ _ ?_ | refine hL _ _ ?_ | (intro h; (try simp only [n1, n2, n3, n4, n5, n6] at h); first | (exfalso; omega) | (cases h; done) | skip)) <;> (conv => whnf))
      exact sto_ret (s := ⟨kept, wait, used, next, _⟩) ⟨_, _, hK, hW⟩ 2 3 (by decide) (by repeat first | exact List.mem_cons_self .. | apply List.mem_cons_of_mem) (by repeat first | exact List.mem_cons_self .. | apply List.mem_cons_of_mem) (fun xs e => by cases e <;> exact (by repeat first | exact List.mem_cons_self .. | apply List.mem_cons_of_mem)) (fun xs e => by cases e <;> exact (by repeat first | exact List.mem_cons_self .. | apply List.mem_cons_of_mem)) (fun ρ => rfl) rfl (fun _ _ _ => rfl) (fun _ h => nomatch h)
  · cases K <;> cases W
    all_goals
      refine Tri.of_code tok Try.func52 rfl rfl rfl (by decide) rfl (Nat.le_of_ble_eq_true rfl) ?_
      conv => whnf
      repeat' ((first | refine w1 (h := ?_) | refine w2 ?_ ?_ | refine w3 (h := ?_) | refine w4 (h := ?_) | refine hD _ _ ?_ | refine hL _ _ ?_ | (intro h; (try simp only [n1, n2, n3, n4, n5, n6] at h); first | (exfalso; omega) | (cases h; done) | skip)) <;> (conv => whnf))
      exact sto_ret (s := ⟨kept, wait, used, next, _⟩) ⟨_, _, hK, hW⟩ 2 3 (by decide) (by repeat first | exact List.mem_cons_self .. | apply List.mem_cons_of_mem) (by repeat first | exact List.mem_cons_self .. | apply List.mem_cons_of_mem) (fun xs e => by cases e <;> exact (by repeat first | exact List.mem_cons_self .. | apply List.mem_cons_of_mem)) (fun xs e => by cases e <;> exact (by repeat first | exact List.mem_cons_self .. | apply List.mem_cons_of_mem)) (fun ρ => rfl) rfl (fun _ _ _ => rfl) (fun _ h => nomatch h)
  · cases K <;> cases W
    all_goals
      refine Tri.of_code tok Try.func52 rfl rfl rfl (by decide) rfl (Nat.le_of_ble_eq_true rfl) ?_
      conv => whnf
      repeat' ((first | refine w1 (h := ?_) | refine w2 ?_ ?_ | refine w3 (h := ?_) | refine w4 (h := ?_) | refine hD _ _ ?_ | refine hL _ _ ?_ | (intro h; (try simp only [n1, n2, n3, n4, n5, n6] at h); first | (exfalso; omega) | (cases h; done) | skip)) <;> (conv => whnf))
      refine Tri.use ((tSTakes fx b.length (by omega)).one) [] rfl (fun _ _ _ => rfl) trivial (fun f hf => by first | exact hf | cases hf) (fun u hu => ?_)
      conv => whnf
      repeat' ((first | refine w1 (h := ?_) | refine w2 ?_ ?_ | refine w3 (h := ?_) | refine w4 (h := ?_) | refine hD _ _ ?_ | refine hL _ _ ?_ | (intro h; (try simp only [n1, n2, n3, n4, n5, n6] at h); first | (exfalso; omega) | (cases h; done) | skip)) <;> (conv => whnf))
      refine Tri.of_code tok Try.func51 rfl rfl rfl (by decide) rfl (Nat.le_of_ble_eq_true rfl) ?_
      conv => whnf
      repeat' ((first | refine w1 (h := ?_) | refine w2 ?_ ?_ | refine w3 (h := ?_) | refine w4 (h := ?_) | refine hD _ _ ?_ | refine hL _ _ ?_ | (intro h; (try simp only [n1, n2, n3, n4, n5, n6] at h); first | (exfalso; omega) | (cases h; done) | skip)) <;> (conv => whnf))
      refine draw_opaque fun KD hD => ?_
      refine draw_solid tok (by kernel_rfl) [.any 0, .any 1, .any 2, .any 6, .any 7, .any 8, .load 3, .load 9, .one 4, .any 5, .any 10, .any 11] [] (by kernel_rfl) rfl rfl (by repeat' (first | exact trivial | refine And.intro rfl ?_)) ?_
      conv => whnf
      repeat' ((first | refine w1 (h := ?_) | refine w2 ?_ ?_ | refine w3 (h := ?_) | refine w4 (h := ?_) | refine hD _ _ ?_ | refine hL _ _ ?_ | (intro h; (try simp only [n1, n2, n3, n4, n5, n6] at h); first | (exfalso; omega) | (cases h; done) | skip)) <;> (conv => whnf))
      refine Tri.use (pSize fx D d) [0] rfl (args_ren rfl rfl) ⟨OSub.ren rfl rfl, trivial⟩ (fun f hf => by first | exact hf | cases hf | simp_all) (fun u hu => ?_)
      conv => whnf
      repeat' ((first | refine w1 (h := ?_) | refine w2 ?_ ?_ | refine w3 (h := ?_) | refine w4 (h := ?_) | refine hD _ _ ?_ | refine hL _ _ ?_ | (intro h; (try simp only [n1, n2, n3, n4, n5, n6] at h); first | (exfalso; omega) | (cases h; done) | skip)) <;> (conv => whnf))
      refine And.intro (by simp only; omega) ?_
      conv => whnf
      repeat' ((first | refine w1 (h := ?_) | refine w2 ?_ ?_ | refine w3 (h := ?_) | refine w4 (h := ?_) | refine hD _ _ ?_ | refine hL _ _ ?_ | (intro h; (try simp only [n1, n2, n3, n4, n5, n6] at h); first | (exfalso; omega) | (cases h; done) | skip)) <;> (conv => whnf))
      · exact sto_ret (s := ⟨kept, wait, used, next, _⟩) ⟨_, _, hK, hW⟩ 2 3 (by decide) (by repeat first | exact List.mem_cons_self .. | apply List.mem_cons_of_mem) (by repeat first | exact List.mem_cons_self .. | apply List.mem_cons_of_mem) (fun xs e => by cases e <;> exact (by repeat first | exact List.mem_cons_self .. | apply List.mem_cons_of_mem)) (fun xs e => by cases e <;> exact (by repeat first | exact List.mem_cons_self .. | apply List.mem_cons_of_mem)) (fun ρ => rfl) rfl (fun _ _ _ => rfl) (fun _ h => nomatch h)
end Go.Proofs.Ytekgjjanikicnaa.Sx

namespace Go.Proofs.Ytekgjjanikicnaa.Sx
open Go
set_option maxRecDepth 100000
set_option linter.unusedSimpArgs false
set_option linter.unusedVariables false
theorem tSComNil (fx : List Fact) : Tri Try.prog 56 [.v (.pointer none)] [] 0 fx (Ret 0 (.k .i64 6) [] 0 []) := by
  refine Tri.of_code tok Try.func56 rfl rfl rfl (by decide) rfl (Nat.le_of_ble_eq_true rfl) ?_
  conv => whnf
  repeat' ((first | refine w1 (h := ?_) | refine w2 ?_ ?_ | refine w3 (h := ?_) | refine w4 (h := ?_) | refine hD _ _ ?_ | refine hL _ _ ?_ | (intro h; (try simp only [n1, n2, n3, n4, n5, n6] at h); first | (exfalso; omega) | (cases h; done) | skip)) <;> (conv => whnf))
  exact Ret.noneS rfl (fun _ _ => rfl) (fun _ h => nomatch h)
/-- It is over, or nothing waits. -/
theorem tSComNo (fx : List Fact) (D : Nat) (d : DS) (s : StS) (e : Int) (he : (s.over = true ∧ e = 6) ∨ (s.over = false ∧ s.wait = [] ∧ e = 0)) :
    Tri Try.prog 56 [.p 1 0] [pdk 0 D d, (1, .abs (stoA D s))] 2 fx (RetE (α := Unit) 2 (fun _ => True) (fun _ => .v (.int .i64 e)) (fun _ => [pdk 0 D d, (1, .abs (stoA D s))]) 2 (fun _ => [])) := by
  refine Tri.toldE (told_sto D s) trivial 1 (by repeat first | exact List.mem_cons_self .. | apply List.mem_cons_of_mem) fun v => Tri.one ?_
  obtain ⟨K, W, hK, hW⟩ := v
  obtain ⟨kept, wait, used, next, over⟩ := s
  simp only at he hK hW
  rcases he with ⟨rfl, rfl⟩ | ⟨rfl, rfl, rfl⟩
  all_goals
    cases K <;> cases W
  all_goals
    refine Tri.of_code tok Try.func56 rfl rfl rfl (by decide) rfl (Nat.le_of_ble_eq_true rfl) ?_
    conv => whnf
    repeat' ((first | refine w1 (h := ?_) | refine w2 ?_ ?_ | refine w3 (h := ?_) | refine w4 (h := ?_) | refine hD _ _ ?_ | refine hL _ _ ?_ | (intro h; (try simp only [n1, n2, n3, n4, n5, n6] at h); first | (exfalso; omega) | (cases h; done) | skip)) <;> (conv => whnf))
    all_goals first
      | exact absurd rfl h
      | exact sto_ret (s := ⟨kept, _, used, next, _⟩) ⟨_, _, hK, hW⟩ 2 3 (by decide) (by repeat first | exact List.mem_cons_self .. | apply List.mem_cons_of_mem) (by repeat first | exact List.mem_cons_self .. | apply List.mem_cons_of_mem) (fun xs e => by cases e <;> exact (by repeat first | exact List.mem_cons_self .. | apply List.mem_cons_of_mem)) (fun xs e => by cases e <;> exact (by repeat first | exact List.mem_cons_self .. | apply List.mem_cons_of_mem)) (fun ρ => rfl) rfl (fun _ _ _ => rfl) (fun _ h => nomatch h)
/-- What a commit makes of a disk: its error, and the disk. -/
def DS.com (d : DS) (n used : Nat) : Int × DS := if d.sync.1 = 0 then d.sync.2.putN ((0 : Nat) : Int) (mkV n used) 3 else d.sync
theorem com_save (d : DS) (n used : Nat) : d.save ((0 : Nat) : Int) (putB n 8 ++ putB used 8) = d.putN ((0 : Nat) : Int) (mkV n used) 3 := by
  rw [save_nat (by simp), mkV_pad]
/-- The store behind it. -/
def StS.com (s : StS) (e : Int) : StS := if e = 0 then ⟨s.kept ++ s.wait, [], s.next, s.next, false⟩ else { s with over := decide (e = 6) }
set_option maxHeartbeats 4000000 in
theorem tSCommit (fx : List Fact) (D : Nat) (d : DS) (hd : d.Ok) (s : StS) (ho : s.over = false) (hw0 : s.wait ≠ []) (hk : s.kept.length ≤ 100000) (hw : s.wait.length ≤ 100000) (hn : s.next ≤ 1000000) :
    Tri Try.prog 56 [.p 1 0] [pdk 0 D d, (1, .abs (stoA D s))] 2 fx (RetE (α := Unit) 2 (fun _ => True) (fun _ => .v (.int .i64 (d.com (s.kept.length + s.wait.length) s.next).1))
      (fun _ => [pdk 0 D (d.com (s.kept.length + s.wait.length) s.next).2, (1, .abs (stoA D (s.com (d.com (s.kept.length + s.wait.length) s.next).1)))]) 2 (fun _ => [])) := by
  refine Tri.toldE (told_sto D s) trivial 1 (by repeat first | exact List.mem_cons_self .. | apply List.mem_cons_of_mem) fun v => Tri.one ?_
  obtain ⟨K, W, hK, hW⟩ := v
  obtain ⟨kept, wait, used, next, over⟩ := s
  simp only at ho hw0 hk hw hn hK hW
  subst ho
  simp only
  cases W with
  | no => exact absurd hW hw0
  | row ys =>
  obtain ⟨hw1, hw2⟩ := hW
  have hwp : 0 < wait.length := List.length_pos_iff.2 hw0
  rcases K with _ | xs
  · have hk0 : kept.length = 0 := by rw [show kept = [] from hK]; rfl
    show Tri _ _ _ [(1, .cells [.v (ptrV D), .v (.slice none 0 0), .s 3 0 wait.length ys.length, .v (.int .i64 used), .v (.int .i64 next), .v (.bool false)] 115),  (3, .row ys 22), pdk 0 D d] 4 fx _
    refine Tri.of_code tok Try.func56 rfl rfl rfl (by decide) rfl (Nat.le_of_ble_eq_true rfl) ?_
    conv => whnf
    repeat' ((first | refine w1 (h := ?_) | refine w2 ?_ ?_ | refine w3 (h := ?_) | refine w4 (h := ?_) | refine hD _ _ ?_ | refine hL _ _ ?_ | (intro h; (try simp only [n1, n2, n3, n4, n5, n6] at h); first | (exfalso; omega) | (cases h; done) | skip)) <;> (conv => whnf))
    refine Tri.use (pSync fx D d hd) [0] rfl (args_ren rfl rfl) ⟨OSub.ren rfl rfl, trivial⟩ (fun f hf => by first | exact hf | cases hf | simp_all) (fun u hu => ?_)
    conv => whnf
    repeat' ((first | refine w1 (h := ?_) | refine w2 ?_ ?_ | refine w3 (h := ?_) | refine w4 (h := ?_) | refine hD _ _ ?_ | refine hL _ _ ?_ | (intro h; (try simp only [n1, n2, n3, n4, n5, n6] at h); first | (exfalso; omega) | (cases h; done) | skip)) <;> (conv => whnf))
    · have hc : d.com (kept.length + wait.length) next = d.sync := if_neg h
      have hs : StS.com ⟨kept, wait, used, next, false⟩ d.sync.1 = ⟨kept, wait, used, next, decide (d.sync.1 = 6)⟩ := if_neg h
      rw [hc, hs]
      refine Tri.of_code tok Try.func80 rfl rfl rfl (by decide) rfl (Nat.le_of_ble_eq_true rfl) ?_
      conv => whnf
      repeat' ((first | refine w1 (h := ?_) | refine w2 ?_ ?_ | refine w3 (h := ?_) | refine w4 (h := ?_) | refine hD _ _ ?_ | refine hL _ _ ?_ | (intro h; (try simp only [n1, n2, n3, n4, n5, n6] at h); first | (exfalso; omega) | (cases h; done) | skip)) <;> (conv => whnf))
      exact sto_ret (s := ⟨kept, wait, used, next, decide (d.sync.1 = 6)⟩) ⟨.no, .row ys, hK, ⟨hw1, hw2⟩⟩ 2 3 (by decide) (by repeat first | exact List.mem_cons_self .. | apply List.mem_cons_of_mem) (by repeat first | exact List.mem_cons_self .. | apply List.mem_cons_of_mem) (fun xs e => by cases e <;> exact (by repeat first | exact List.mem_cons_self .. | apply List.mem_cons_of_mem)) (fun xs e => by cases e <;> exact (by repeat first | exact List.mem_cons_self .. | apply List.mem_cons_of_mem)) (fun ρ => rfl) rfl (SEq.ren rfl rfl) (fun _ h => nomatch h)
    have hs0 : d.sync.1 = 0 := by omega
    have hc : d.com (kept.length + wait.length) next = d.sync.2.putN ((0 : Nat) : Int) (mkV (kept.length + wait.length) next) 3 := if_pos hs0
    rw [hc]
    have hso := hd.sync
    generalize d.sync.2 = e at *
    refine draw_opaque fun KD hD => ?_
    refine draw_solid tok (by kernel_rfl) [.any 0, .any 1, .any 2, .any 5, .any 6, .any 7, .load 3, .any 4, .one 8, .any 9, .any 10, .any 11] [] (by kernel_rfl) rfl rfl (by repeat' (first | exact trivial | refine And.intro rfl ?_)) ?_
    conv => whnf
    repeat' ((first | refine w1 (h := ?_) | refine w2 ?_ ?_ | refine w3 (h := ?_) | refine w4 (h := ?_) | refine hD _ _ ?_ | refine hL _ _ ?_ | (intro h; (try simp only [n1, n2, n3, n4, n5, n6] at h); first | (exfalso; omega) | (cases h; done) | skip)) <;> (conv => whnf))
    refine draw_opaque fun KD hD => ?_
    refine draw_new tok (by kernel_rfl) [.any 0, .any 1, .any 2, .any 4, .any 6, .any 7, .any 8, .load 3, .load 9, .one 5, .one 10, .one 11, .one 12, .any 13] [] ([(1, SObj.cells [.v (ptrV D), .v (.slice none 0 0), .s 3 0 wait.length ys.length, .v (.int .i64 used), .v (.int .i64 next), .v (.bool false)] 115)]) (by kernel_rfl) rfl (rfl) (by repeat' (first | exact trivial | refine And.intro rfl ?_)) ?_
    conv => whnf
    repeat' ((first | refine w1 (h := ?_) | refine w2 ?_ ?_ | refine w3 (h := ?_) | refine w4 (h := ?_) | refine hD _ _ ?_ | refine hL _ _ ?_ | (intro h; (try simp only [n1, n2, n3, n4, n5, n6] at h); first | (exfalso; omega) | (cases h; done) | skip)) <;> (conv => whnf))
    rw [show ((0 : Nat) : Int) + (wait.length : Int) = ((kept.length + wait.length : Nat) : Int) by omega]
    refine Tri.use (tSPut fx (kept.length + wait.length) 8 (by omega) (by omega) (by omega)) [] rfl (args_ren rfl rfl) trivial (fun f hf => by first | exact hf | cases hf | simp_all) (fun u hu => ?_)
    conv => whnf
    repeat' ((first | refine w1 (h := ?_) | refine w2 ?_ ?_ | refine w3 (h := ?_) | refine w4 (h := ?_) | refine hD _ _ ?_ | refine hL _ _ ?_ | (intro h; (try simp only [n1, n2, n3, n4, n5, n6] at h); first | (exfalso; omega) | (cases h; done) | skip)) <;> (conv => whnf))
    refine Tri.use (tSPut fx next 8 (by omega) (by omega) (by omega)) [] rfl (args_ren rfl rfl) trivial (fun f hf => by first | exact hf | cases hf | simp_all) (fun u hu => ?_)
    have hl1 := putB_length (kept.length + wait.length) 8
    have hl2 := putB_length next 8
    conv => whnf
    repeat' ((first | refine w1 (h := ?_) | refine w2 ?_ ?_ | refine w3 (h := ?_) | refine w4 (h := ?_) | refine hD _ _ ?_ | refine hL _ _ ?_ | (intro h; (try simp only [n1, n2, n3, n4, n5, n6] at h); first | (exfalso; omega) | (cases h; done) | skip)) <;> (conv => whnf))
    refine And.intro ⟨by decide, by decide, by rw [List.length_map, hl1], fun u hu => by
      rw [List.drop_zero] at hu
      obtain ⟨c, _, rfl⟩ := List.mem_map.1 (List.mem_of_mem_take hu); rfl⟩ ?_
    intro m0 sp0 hsp0
    conv => whnf
    repeat' ((first | refine w1 (h := ?_) | refine w2 ?_ ?_ | refine w3 (h := ?_) | refine w4 (h := ?_) | refine hD _ _ ?_ | refine hL _ _ ?_ | (intro h; (try simp only [n1, n2, n3, n4, n5, n6] at h); first | (exfalso; omega) | (cases h; done) | skip)) <;> (conv => whnf))
    have h16 : (putB (kept.length + wait.length) 8 ++ putB next 8).length = 8 + 8 := by simp
    have ts := pSaveRow fx D e hso ((0 : Nat) : Int) (by decide) (putB (kept.length + wait.length) 8 ++ putB next 8) (by rw [h16]; decide) (.row ((List.map bv (putB (kept.length + wait.length) 8)).take (8 * 1) ++ ((List.map bv (putB next 8)).drop 0).take (8 * 1) ++ sp0) 5) _ rowOf.row (8 + 8 + m0) (by
      rw [h16, List.drop_zero, List.take_of_length_le (l := (putB (kept.length + wait.length) 8).map bv) (by simp), List.take_of_length_le (l := (putB next 8).map bv) (by simp), List.take_left' (by simp), List.map_append])
    rw [h16, com_save] at ts
    refine Tri.use ts [0,6] rfl (args_ren rfl rfl) ⟨OSub.ren rfl rfl, OSub.ren rfl rfl, trivial⟩ (fun f hf => by first | exact hf | cases hf | simp_all) (fun u hu => ?_)
    generalize e.putN ((0 : Nat) : Int) (mkV (kept.length + wait.length) next) 3 = ep at *
    conv => whnf
    repeat' ((first | refine w1 (h := ?_) | refine w2 ?_ ?_ | refine w3 (h := ?_) | refine w4 (h := ?_) | refine hD _ _ ?_ | refine hL _ _ ?_ | (intro h; (try simp only [n1, n2, n3, n4, n5, n6] at h); first | (exfalso; omega) | (cases h; done) | skip)) <;> (conv => whnf))
    · have hs : StS.com ⟨kept, wait, used, next, false⟩ ep.1 = ⟨kept, wait, used, next, decide (ep.1 = 6)⟩ := if_neg h
      rw [hs]
      refine Tri.of_code tok Try.func80 rfl rfl rfl (by decide) rfl (Nat.le_of_ble_eq_true rfl) ?_
      conv => whnf
      repeat' ((first | refine w1 (h := ?_) | refine w2 ?_ ?_ | refine w3 (h := ?_) | refine w4 (h := ?_) | refine hD _ _ ?_ | refine hL _ _ ?_ | (intro h; (try simp only [n1, n2, n3, n4, n5, n6] at h); first | (exfalso; omega) | (cases h; done) | skip)) <;> (conv => whnf))
      exact sto_ret (s := ⟨kept, wait, used, next, decide (ep.1 = 6)⟩) ⟨.no, .row ys, hK, ⟨hw1, hw2⟩⟩ 2 3 (by decide) (by repeat first | exact List.mem_cons_self .. | apply List.mem_cons_of_mem) (by repeat first | exact List.mem_cons_self .. | apply List.mem_cons_of_mem) (fun xs e => by cases e <;> exact (by repeat first | exact List.mem_cons_self .. | apply List.mem_cons_of_mem)) (fun xs e => by cases e <;> exact (by repeat first | exact List.mem_cons_self .. | apply List.mem_cons_of_mem)) (fun ρ => rfl) rfl (SEq.ren rfl rfl) (fun _ h => nomatch h)
    have he0 : ep.1 = 0 := by omega
    have hs : StS.com ⟨kept, wait, used, next, false⟩ ep.1 = ⟨kept ++ wait, [], next, next, false⟩ := if_pos he0
    rw [hs, he0]
    refine draw_opaque fun KD hD => ?_
    refine draw_new tok (by kernel_rfl) [.any 0, .any 1, .any 2, .any 3, .any 4, .any 6, .any 7, .any 8, .load 5, .one 9, .one 10, .any 11, .any 12, .last 13, .any 14, .any 15, .last 16] [13, 16] ([(1, SObj.cells [.v (ptrV D), .v (.slice none 0 0), .s 3 0 wait.length ys.length, .v (.int .i64 used), .v (.int .i64 next), .v (.bool false)] 115)]) (by kernel_rfl) rfl (rfl) (by repeat' (first | exact trivial | refine And.intro rfl ?_)) ?_
    conv => whnf
    repeat' ((first | refine w1 (h := ?_) | refine w2 ?_ ?_ | refine w3 (h := ?_) | refine w4 (h := ?_) | refine hD _ _ ?_ | refine hL _ _ ?_ | (intro h; (try simp only [n1, n2, n3, n4, n5, n6] at h); first | (exfalso; omega) | (cases h; done) | skip)) <;> (conv => whnf))
    refine ⟨wait.map BsV.v, ⟨by rw [Nat.mul_one, List.drop_zero]; exact hw1, by simp⟩, ?_⟩
    conv => whnf
    repeat' ((first | refine w1 (h := ?_) | refine w2 ?_ ?_ | refine w3 (h := ?_) | refine w4 (h := ?_) | refine hD _ _ ?_ | refine hL _ _ ?_ | (intro h; (try simp only [n1, n2, n3, n4, n5, n6] at h); first | (exfalso; omega) | (cases h; done) | skip)) <;> (conv => whnf))
    rename_i m1 sp1
    have hrl : (wait.map BsV.v ++ sp1).length = wait.length + m1 := by rw [List.length_append, List.length_map, h, Nat.mul_one]
    have hkw : (kept ++ wait).length = wait.length := by rw [List.length_append]; omega
    have hK2 : RowI.Ok (kept ++ wait) (.row (wait.map BsV.v ++ sp1)) := by
      rw [show kept = [] from hK]
      exact ⟨by rw [List.nil_append, List.take_left' (by simp)], by simp⟩
    exact sto_ret (s := ⟨kept ++ wait, [], next, next, false⟩) ⟨.row _, .no, hK2, rfl⟩ 7 2 (by decide) (by repeat first | exact List.mem_cons_self .. | apply List.mem_cons_of_mem) (by repeat first | exact List.mem_cons_self .. | apply List.mem_cons_of_mem) (fun xs e => by cases e <;> exact (by repeat first | exact List.mem_cons_self .. | apply List.mem_cons_of_mem)) (fun xs e => by cases e) (fun ρ => by rw [← hrl, ← hkw]; rfl) rfl (fun _ _ _ => rfl) (fun _ h => nomatch h)
  · skip
    show Tri _ _ _ [(1, .cells [.v (ptrV D), .s 2 0 kept.length xs.length, .s 3 0 wait.length ys.length, .v (.int .i64 used), .v (.int .i64 next), .v (.bool false)] 115), (2, .row xs 22), (3, .row ys 22), pdk 0 D d] 4 fx _
    refine Tri.of_code tok Try.func56 rfl rfl rfl (by decide) rfl (Nat.le_of_ble_eq_true rfl) ?_
    conv => whnf
    repeat' ((first | refine w1 (h := ?_) | refine w2 ?_ ?_ | refine w3 (h := ?_) | refine w4 (h := ?_) | refine hD _ _ ?_ | refine hL _ _ ?_ | (intro h; (try simp only [n1, n2, n3, n4, n5, n6] at h); first | (exfalso; omega) | (cases h; done) | skip)) <;> (conv => whnf))
    refine Tri.use (pSync fx D d hd) [0] rfl (args_ren rfl rfl) ⟨OSub.ren rfl rfl, trivial⟩ (fun f hf => by first | exact hf | cases hf | simp_all) (fun u hu => ?_)
    conv => whnf
    repeat' ((first | refine w1 (h := ?_) | refine w2 ?_ ?_ | refine w3 (h := ?_) | refine w4 (h := ?_) | refine hD _ _ ?_ | refine hL _ _ ?_ | (intro h; (try simp only [n1, n2, n3, n4, n5, n6] at h); first | (exfalso; omega) | (cases h; done) | skip)) <;> (conv => whnf))
    · have hc : d.com (kept.length + wait.length) next = d.sync := if_neg h
      have hs : StS.com ⟨kept, wait, used, next, false⟩ d.sync.1 = ⟨kept, wait, used, next, decide (d.sync.1 = 6)⟩ := if_neg h
      rw [hc, hs]
      refine Tri.of_code tok Try.func80 rfl rfl rfl (by decide) rfl (Nat.le_of_ble_eq_true rfl) ?_
      conv => whnf
      repeat' ((first | refine w1 (h := ?_) | refine w2 ?_ ?_ | refine w3 (h := ?_) | refine w4 (h := ?_) | refine hD _ _ ?_ | refine hL _ _ ?_ | (intro h; (try simp only [n1, n2, n3, n4, n5, n6] at h); first | (exfalso; omega) | (cases h; done) | skip)) <;> (conv => whnf))
      exact sto_ret (s := ⟨kept, wait, used, next, decide (d.sync.1 = 6)⟩) ⟨.row xs, .row ys, hK, ⟨hw1, hw2⟩⟩ 2 3 (by decide) (by repeat first | exact List.mem_cons_self .. | apply List.mem_cons_of_mem) (by repeat first | exact List.mem_cons_self .. | apply List.mem_cons_of_mem) (fun xs e => by cases e <;> exact (by repeat first | exact List.mem_cons_self .. | apply List.mem_cons_of_mem)) (fun xs e => by cases e <;> exact (by repeat first | exact List.mem_cons_self .. | apply List.mem_cons_of_mem)) (fun ρ => rfl) rfl (SEq.ren rfl rfl) (fun _ h => nomatch h)
    have hs0 : d.sync.1 = 0 := by omega
    have hc : d.com (kept.length + wait.length) next = d.sync.2.putN ((0 : Nat) : Int) (mkV (kept.length + wait.length) next) 3 := if_pos hs0
    rw [hc]
    have hso := hd.sync
    generalize d.sync.2 = e at *
    refine draw_opaque fun KD hD => ?_
    refine draw_solid tok (by kernel_rfl) [.any 0, .any 1, .any 2, .any 5, .any 6, .any 7, .load 3, .any 4, .one 8, .any 9, .any 10, .any 11] [] (by kernel_rfl) rfl rfl (by repeat' (first | exact trivial | refine And.intro rfl ?_)) ?_
    conv => whnf
    repeat' ((first | refine w1 (h := ?_) | refine w2 ?_ ?_ | refine w3 (h := ?_) | refine w4 (h := ?_) | refine hD _ _ ?_ | refine hL _ _ ?_ | (intro h; (try simp only [n1, n2, n3, n4, n5, n6] at h); first | (exfalso; omega) | (cases h; done) | skip)) <;> (conv => whnf))
    refine draw_opaque fun KD hD => ?_
    refine draw_new tok (by kernel_rfl) [.any 0, .any 1, .any 2, .any 4, .any 6, .any 7, .any 8, .load 3, .load 9, .one 5, .one 10, .one 11, .one 12, .any 13] [] ([(1, SObj.cells [.v (ptrV D), .s 2 0 kept.length xs.length, .s 3 0 wait.length ys.length, .v (.int .i64 used), .v (.int .i64 next), .v (.bool false)] 115)]) (by kernel_rfl) rfl (rfl) (by repeat' (first | exact trivial | refine And.intro rfl ?_)) ?_
    conv => whnf
    repeat' ((first | refine w1 (h := ?_) | refine w2 ?_ ?_ | refine w3 (h := ?_) | refine w4 (h := ?_) | refine hD _ _ ?_ | refine hL _ _ ?_ | (intro h; (try simp only [n1, n2, n3, n4, n5, n6] at h); first | (exfalso; omega) | (cases h; done) | skip)) <;> (conv => whnf))
    refine Tri.use (tSPut fx (kept.length + wait.length) 8 (by omega) (by omega) (by omega)) [] rfl (args_ren rfl rfl) trivial (fun f hf => by first | exact hf | cases hf | simp_all) (fun u hu => ?_)
    conv => whnf
    repeat' ((first | refine w1 (h := ?_) | refine w2 ?_ ?_ | refine w3 (h := ?_) | refine w4 (h := ?_) | refine hD _ _ ?_ | refine hL _ _ ?_ | (intro h; (try simp only [n1, n2, n3, n4, n5, n6] at h); first | (exfalso; omega) | (cases h; done) | skip)) <;> (conv => whnf))
    refine Tri.use (tSPut fx next 8 (by omega) (by omega) (by omega)) [] rfl (args_ren rfl rfl) trivial (fun f hf => by first | exact hf | cases hf | simp_all) (fun u hu => ?_)
    have hl1 := putB_length (kept.length + wait.length) 8
    have hl2 := putB_length next 8
    conv => whnf
    repeat' ((first | refine w1 (h := ?_) | refine w2 ?_ ?_ | refine w3 (h := ?_) | refine w4 (h := ?_) | refine hD _ _ ?_ | refine hL _ _ ?_ | (intro h; (try simp only [n1, n2, n3, n4, n5, n6] at h); first | (exfalso; omega) | (cases h; done) | skip)) <;> (conv => whnf))
    refine And.intro ⟨by decide, by decide, by rw [List.length_map, hl1], fun u hu => by
      rw [List.drop_zero] at hu
      obtain ⟨c, _, rfl⟩ := List.mem_map.1 (List.mem_of_mem_take hu); rfl⟩ ?_
    intro m0 sp0 hsp0
    conv => whnf
    repeat' ((first | refine w1 (h := ?_) | refine w2 ?_ ?_ | refine w3 (h := ?_) | refine w4 (h := ?_) | refine hD _ _ ?_ | refine hL _ _ ?_ | (intro h; (try simp only [n1, n2, n3, n4, n5, n6] at h); first | (exfalso; omega) | (cases h; done) | skip)) <;> (conv => whnf))
    have h16 : (putB (kept.length + wait.length) 8 ++ putB next 8).length = 8 + 8 := by simp
    have ts := pSaveRow fx D e hso ((0 : Nat) : Int) (by decide) (putB (kept.length + wait.length) 8 ++ putB next 8) (by rw [h16]; decide) (.row ((List.map bv (putB (kept.length + wait.length) 8)).take (8 * 1) ++ ((List.map bv (putB next 8)).drop 0).take (8 * 1) ++ sp0) 5) _ rowOf.row (8 + 8 + m0) (by
      rw [h16, List.drop_zero, List.take_of_length_le (l := (putB (kept.length + wait.length) 8).map bv) (by simp), List.take_of_length_le (l := (putB next 8).map bv) (by simp), List.take_left' (by simp), List.map_append])
    rw [h16, com_save] at ts
    refine Tri.use ts [0,6] rfl (args_ren rfl rfl) ⟨OSub.ren rfl rfl, OSub.ren rfl rfl, trivial⟩ (fun f hf => by first | exact hf | cases hf | simp_all) (fun u hu => ?_)
    generalize e.putN ((0 : Nat) : Int) (mkV (kept.length + wait.length) next) 3 = ep at *
    conv => whnf
    repeat' ((first | refine w1 (h := ?_) | refine w2 ?_ ?_ | refine w3 (h := ?_) | refine w4 (h := ?_) | refine hD _ _ ?_ | refine hL _ _ ?_ | (intro h; (try simp only [n1, n2, n3, n4, n5, n6] at h); first | (exfalso; omega) | (cases h; done) | skip)) <;> (conv => whnf))
    · have hs : StS.com ⟨kept, wait, used, next, false⟩ ep.1 = ⟨kept, wait, used, next, decide (ep.1 = 6)⟩ := if_neg h
      rw [hs]
      refine Tri.of_code tok Try.func80 rfl rfl rfl (by decide) rfl (Nat.le_of_ble_eq_true rfl) ?_
      conv => whnf
      repeat' ((first | refine w1 (h := ?_) | refine w2 ?_ ?_ | refine w3 (h := ?_) | refine w4 (h := ?_) | refine hD _ _ ?_ | refine hL _ _ ?_ | (intro h; (try simp only [n1, n2, n3, n4, n5, n6] at h); first | (exfalso; omega) | (cases h; done) | skip)) <;> (conv => whnf))
      exact sto_ret (s := ⟨kept, wait, used, next, decide (ep.1 = 6)⟩) ⟨.row xs, .row ys, hK, ⟨hw1, hw2⟩⟩ 2 3 (by decide) (by repeat first | exact List.mem_cons_self .. | apply List.mem_cons_of_mem) (by repeat first | exact List.mem_cons_self .. | apply List.mem_cons_of_mem) (fun xs e => by cases e <;> exact (by repeat first | exact List.mem_cons_self .. | apply List.mem_cons_of_mem)) (fun xs e => by cases e <;> exact (by repeat first | exact List.mem_cons_self .. | apply List.mem_cons_of_mem)) (fun ρ => rfl) rfl (SEq.ren rfl rfl) (fun _ h => nomatch h)
    have he0 : ep.1 = 0 := by omega
    have hs : StS.com ⟨kept, wait, used, next, false⟩ ep.1 = ⟨kept ++ wait, [], next, next, false⟩ := if_pos he0
    rw [hs, he0]
    refine draw_opaque fun KD hD => ?_
    refine draw_new tok (by kernel_rfl) [.any 0, .any 1, .any 2, .any 3, .any 4, .any 6, .any 7, .any 8, .load 5, .one 9, .one 10, .any 11, .any 12, .last 13, .any 14, .any 15, .last 16] [13, 16] ([(1, SObj.cells [.v (ptrV D), .s 2 0 kept.length xs.length, .s 3 0 wait.length ys.length, .v (.int .i64 used), .v (.int .i64 next), .v (.bool false)] 115)]) (by kernel_rfl) rfl (rfl) (by repeat' (first | exact trivial | refine And.intro rfl ?_)) ?_
    conv => whnf
    repeat' ((first | refine w1 (h := ?_) | refine w2 ?_ ?_ | refine w3 (h := ?_) | refine w4 (h := ?_) | refine hD _ _ ?_ | refine hL _ _ ?_ | (intro h; (try simp only [n1, n2, n3, n4, n5, n6] at h); first | (exfalso; omega) | (cases h; done) | skip)) <;> (conv => whnf))
    refine ⟨wait.map BsV.v, ⟨by rw [Nat.mul_one, List.drop_zero]; exact hw1, by simp⟩, ?_⟩
    conv => whnf
    repeat' ((first | refine w1 (h := ?_) | refine w2 ?_ ?_ | refine w3 (h := ?_) | refine w4 (h := ?_) | refine hD _ _ ?_ | refine hL _ _ ?_ | (intro h; (try simp only [n1, n2, n3, n4, n5, n6] at h); first | (exfalso; omega) | (cases h; done) | skip)) <;> (conv => whnf))
    obtain ⟨hx1, hx2⟩ := hK
    refine And.intro ⟨by omega, hx2, by omega, fun u hu => by obtain ⟨o, _, rfl⟩ := List.mem_map.1 hu; rfl⟩ ?_
    intro m1 sp1 hsp1
    conv => whnf
    repeat' ((first | refine w1 (h := ?_) | refine w2 ?_ ?_ | refine w3 (h := ?_) | refine w4 (h := ?_) | refine hD _ _ ?_ | refine hL _ _ ?_ | (intro h; (try simp only [n1, n2, n3, n4, n5, n6] at h); first | (exfalso; omega) | (cases h; done) | skip)) <;> (conv => whnf))
    have hrl : (xs.take (kept.length * 1) ++ wait.map BsV.v ++ sp1).length = kept.length + wait.length + m1 := by simp only [List.length_append, List.length_take, List.length_map, hsp1, Nat.mul_one, Nat.min_eq_left hx2]
    have hkw : (kept ++ wait).length = kept.length + wait.length := List.length_append
    have hK2 : RowI.Ok (kept ++ wait) (.row (xs.take (kept.length * 1) ++ wait.map BsV.v ++ sp1)) := ⟨by rw [Nat.mul_one, hx1, List.take_left' (by simp), List.map_append], by rw [hrl, hkw]; omega⟩
    exact sto_ret (s := ⟨kept ++ wait, [], next, next, false⟩) ⟨.row _, .no, hK2, rfl⟩ 7 2 (by decide) (by repeat first | exact List.mem_cons_self .. | apply List.mem_cons_of_mem) (by repeat first | exact List.mem_cons_self .. | apply List.mem_cons_of_mem) (fun xs e => by cases e <;> exact (by repeat first | exact List.mem_cons_self .. | apply List.mem_cons_of_mem)) (fun xs e => by cases e) (fun ρ => by rw [← hrl, ← hkw]; rfl) rfl (fun _ _ _ => rfl) (fun _ h => nomatch h)
end Go.Proofs.Ytekgjjanikicnaa.Sx
