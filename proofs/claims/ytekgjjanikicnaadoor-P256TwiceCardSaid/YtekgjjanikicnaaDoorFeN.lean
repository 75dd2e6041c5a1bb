/- The reference's numbers: sums, differences, modulo a number. -/
import Derived.Test.YtekgjjanikicnaaDoorFeD
namespace Go.Proofs.YtekgjjanikicnaaDoor.Sx
open Go Go.Proofs.YtekgjjanikicnaaDoor.Pm
set_option maxRecDepth 100000
set_option linter.unusedSimpArgs false
set_option linter.unusedVariables false

structure RaS where
  i : Nat
  z : N4
  c : Bool
def lowS (z : N4) : Nat → Nat
  | 0 => 0
  | 1 => z.a
  | 2 => z.a + 18446744073709551616 * z.b
  | 3 => z.a + 18446744073709551616 * z.b + 340282366920938463463374607431768211456 * z.c
  | _ => z.val
def powS : Nat → Nat
  | 0 => 1
  | 1 => 18446744073709551616
  | 2 => 340282366920938463463374607431768211456
  | 3 => 6277101735386680763835789423207666416102355444464034512896
  | _ => 115792089237316195423570985008687907853269984665640564039457584007913129639936
theorem N4.Ok.of {a b c d : Nat} (ha : a < 18446744073709551616) (hb : b < 18446744073709551616) (hc : c < 18446744073709551616) (hd : d < 18446744073709551616) : N4.Ok ⟨a, b, c, d⟩ := ⟨ha, hb, hc, hd⟩
def cN (c : Bool) : Nat := if c = true then 1 else 0
/-- A limb of a sum, and what is carried on. -/
def sumL (x y : Nat) (c : Bool) : Nat := (x + y + cN c) % 18446744073709551616
def sumC (x y : Nat) (c : Bool) : Bool := decide (18446744073709551616 ≤ x + y + cN c)
theorem sumL_spec {x y : Nat} {c : Bool} (hx : x < 18446744073709551616) (hy : y < 18446744073709551616) : sumL x y c < 18446744073709551616 ∧ sumL x y c + 18446744073709551616 * cN (sumC x y c) = x + y + cN c := by
  unfold sumL sumC
  have hc : cN c ≤ 1 := by cases c <;> decide
  generalize cN c = k at *
  refine ⟨by omega, ?_⟩
  by_cases h : 18446744073709551616 ≤ x + y + k
  · rw [decide_eq_true h]; simp only [cN, if_true]; omega
  · rw [decide_eq_false h]; simp only [cN, Bool.false_eq_true, if_false]; omega
theorem sumL_f {x y : Nat} : IntKind.u64.wrap ((x : Int) + (y : Int)) = (sumL x y false : Int) := by
  rw [Word.addN, Word.wrapM]; rfl
theorem sumL_t {x y : Nat} : IntKind.u64.wrap (IntKind.u64.wrap ((x : Int) + (y : Int)) + 1) = (sumL x y true : Int) := by
  rw [Word.addN, Word.wrapM, show (((x + y) % 18446744073709551616 : Nat) : Int) + 1 = (((x + y) % 18446744073709551616 + 1 : Nat) : Int) by omega, Word.wrapM]
  unfold sumL
  simp only [cN, if_true]
  omega
/-- A limb of a difference, and what is borrowed. -/
def difL (x y : Nat) (c : Bool) : Nat := if x < y + cN c then x + 18446744073709551616 - (y + cN c) else x - (y + cN c)
def difC (x y : Nat) (c : Bool) : Bool := decide (x < y + cN c)
theorem difL_spec {x y : Nat} {c : Bool} (hx : x < 18446744073709551616) (hy : y < 18446744073709551616) : difL x y c < 18446744073709551616 ∧ difL x y c + y + cN c = x + 18446744073709551616 * cN (difC x y c) := by
  unfold difL difC
  have hc : cN c ≤ 1 := by cases c <;> decide
  generalize cN c = k at *
  by_cases h : x < y + k
  · rw [decide_eq_true h, if_pos h]; simp only [cN, if_true]; omega
  · rw [decide_eq_false h, if_neg h]; simp only [cN, Bool.false_eq_true, if_false]; omega
theorem difL_f {x y : Nat} (hx : x < 18446744073709551616) (hy : y < 18446744073709551616) : IntKind.u64.wrap ((x : Int) - (y : Int)) = (difL x y false : Int) := by
  rw [IntKind.wrap_u64]
  unfold difL
  simp only [cN, Bool.false_eq_true, if_false]
  split <;> omega
theorem difL_t {x y : Nat} (hx : x < 18446744073709551616) (hy : y < 18446744073709551616) : IntKind.u64.wrap (IntKind.u64.wrap ((x : Int) - (y : Int)) - 1) = (difL x y true : Int) := by
  rw [IntKind.wrap_u64, IntKind.wrap_u64]
  unfold difL
  simp only [cN, if_true]
  split <;> omega
/-- The body of the first loop of a code. -/
def loopBody : Code → Option Code
  | .seq a b => match loopBody a with
    | some c => some c
    | none => loopBody b
  | .block _ c => loopBody c
  | .loop c => some c
  | _ => none
def bodyOf (f : Func) : Code := match f.body with
  | some c => (loopBody c).getD c
  | none => .region 0 #[] false
def addInv (x y : N4) (fx : List Fact) (s : RaS) : SS := ⟨[(2, .p 0 0), (3, .p 1 0), (4, .p 2 0), (6, .p 3 0), (7, .v (.bool s.c)), (8, .k .i64 (s.i : Int))],
    [(3, .cells [.v (.int .u64 (s.z.a : Int)), .v (.int .u64 (s.z.b : Int)), .v (.int .u64 (s.z.c : Int)), .v (.int .u64 (s.z.d : Int))] 24), (2, .cells [.k .u64 0, .k .u64 0, .k .u64 0, .k .u64 0] 24),
    (1, .cells [.v (.int .u64 (y.a : Int)), .v (.int .u64 (y.b : Int)), .v (.int .u64 (y.c : Int)), .v (.int .u64 (y.d : Int))] 24), (0, .cells [.v (.int .u64 (x.a : Int)), .v (.int .u64 (x.b : Int)), .v (.int .u64 (x.c : Int)), .v (.int .u64 (x.d : Int))] 24)], 4, fx⟩
def addPr (x y : N4) (s : RaS) : Prop := s.i ≤ 4 ∧ s.z.Ok ∧ lowS s.z s.i + powS s.i * cN s.c = lowS x s.i + lowS y s.i
set_option maxHeartbeats 4000000 in
theorem add0 (fx : List Fact) (x y : N4) (hx : x.Ok) (hy : y.Ok) (z : N4) (c : Bool) (h0 : addPr x y ⟨0, z, c⟩) (K : Exit → SS → Prop) : codeK Tryd.prog tt Tryd.f27.ntmps 0 (bodyOf Tryd.f27) (addInv x y fx ⟨0, z, c⟩)
    (fun e st => match e with | .normal => ∃ x' σ, (addPr x y x' ∧ 4 - x'.i < 4 - 0) ∧ Sub 0 σ st (addInv x y fx x') | e => K e st) := by
    obtain ⟨_, hz, hr⟩ := h0
    simp only at hz hr
    have hs := sumL_spec (c := c) hx.a hy.a
    have nx : addPr x y ⟨1, ⟨sumL x.a y.a c, z.b, z.c, z.d⟩, sumC x.a y.a c⟩ := by
      refine ⟨Nat.le_of_ble_eq_true rfl, N4.Ok.of hs.1 hz.b hz.c hz.d, ?_⟩
      simp only [lowS, powS, N4.val] at hr ⊢
      have h2 := hs.2
      generalize sumL x.a y.a c = w at *
      omega
    conv => whnf
    repeat' ((first | refine And.intro (by repeat' first | exact trivial | refine And.intro rfl ?_) (And.intro (by first | exact fun _ h => h | exact fun _ => List.mem_cons_of_mem _ | exact fun _ => List.mem_append_right _) ?_) | (refine And.intro (fun h => ?_) (fun h => ?_) <;> (try simp only [n1, n2, n3, n4, n5, n6] at h) <;> first | (exfalso; omega) | (cases h; done) | skip) | refine And.intro (by omega) ?_ | refine Exists.intro _ (And.intro (by first | exact And.intro rfl rfl | exact Pl.den (by repeat constructor) | with_reducible rfl | exact cast_succ _ | assumption | exact (Int.toNat_of_nonneg (by omega)).symm | rfl) ?_) | refine hD _ _ ?_ | refine hL _ _ ?_ | (intro h; (try simp only [n1, n2, n3, n4, n5, n6] at h); first | (exfalso; omega) | (cases h; done) | skip)) <;> (conv => whnf))
    refine draw_opaque fun KD hD => ?_
    refine draw_all tok (by kernel_rfl) [.any 0, .any 1, .any 3, .any 4, .load 2, .one 5, .any 6, .any 7] [] (by kernel_rfl) rfl rfl (by repeat' (first | exact trivial | refine And.intro rfl ?_)) ?_
    conv => whnf
    repeat' ((first | refine And.intro (by repeat' first | exact trivial | refine And.intro rfl ?_) (And.intro (by first | exact fun _ h => h | exact fun _ => List.mem_cons_of_mem _ | exact fun _ => List.mem_append_right _) ?_) | (refine And.intro (fun h => ?_) (fun h => ?_) <;> (try simp only [n1, n2, n3, n4, n5, n6] at h) <;> first | (exfalso; omega) | (cases h; done) | skip) | refine And.intro (by omega) ?_ | refine Exists.intro _ (And.intro (by first | exact And.intro rfl rfl | exact Pl.den (by repeat constructor) | with_reducible rfl | exact cast_succ _ | assumption | exact (Int.toNat_of_nonneg (by omega)).symm | rfl) ?_) | refine hD _ _ ?_ | refine hL _ _ ?_ | (intro h; (try simp only [n1, n2, n3, n4, n5, n6] at h); first | (exfalso; omega) | (cases h; done) | skip)) <;> (conv => whnf))
    · rename_i hct; subst hct
      refine ⟨⟨1, ⟨sumL x.a y.a true, z.b, z.c, z.d⟩, sumC x.a y.a true⟩, [0, 1, 2, 3], ⟨nx, by simp only; omega⟩, ⟨rfl, ⟨SEq.nrm rfl rfl, SEq.nrm rfl rfl, SEq.nrm rfl rfl, SEq.nrm rfl rfl, (fun _ _ _ => ?_), (fun _ _ _ => rfl), trivial⟩, ⟨OSub.dens (fun _ _ => ?_), OSub.ren rfl rfl, OSub.ren rfl rfl, OSub.ren rfl rfl, trivial⟩, fun f hf => hf⟩⟩
      · rw [sumL_f] at h; simp only [den, sumC, Value.bool.injEq]; unfold sumL at h; have := hx.a; have := hy.a; simp only [cN, Bool.false_eq_true, if_false] at h; exact (decide_eq_true (by simp only [cN, if_true]; omega))
      · simp only [denL_cons, denL_nil, den, sumL_t]
    · rename_i hct; subst hct
      refine ⟨⟨1, ⟨sumL x.a y.a true, z.b, z.c, z.d⟩, sumC x.a y.a true⟩, [0, 1, 2, 3], ⟨nx, by simp only; omega⟩, ⟨rfl, ⟨SEq.nrm rfl rfl, SEq.nrm rfl rfl, SEq.nrm rfl rfl, SEq.nrm rfl rfl, (fun _ _ _ => ?_), (fun _ _ _ => rfl), trivial⟩, ⟨OSub.dens (fun _ _ => ?_), OSub.ren rfl rfl, OSub.ren rfl rfl, OSub.ren rfl rfl, trivial⟩, fun f hf => hf⟩⟩
      · rw [sumL_f] at h; have := hx.a; have := hy.a; simp only [den, sumL_t, sumC, Value.bool.injEq, decide_eq_decide]; unfold sumL at h ⊢; (try simp only [cN, if_true, Bool.false_eq_true, if_false] at h); (try simp only [cN, if_true, Bool.false_eq_true, if_false]); (try omega)
      · simp only [denL_cons, denL_nil, den, sumL_t]
    · subst h
      refine ⟨⟨1, ⟨sumL x.a y.a false, z.b, z.c, z.d⟩, sumC x.a y.a false⟩, [0, 1, 2, 3], ⟨nx, by simp only; omega⟩, ⟨rfl, ⟨SEq.nrm rfl rfl, SEq.nrm rfl rfl, SEq.nrm rfl rfl, SEq.nrm rfl rfl, (fun _ _ _ => ?_), (fun _ _ _ => rfl), trivial⟩, ⟨OSub.dens (fun _ _ => ?_), OSub.ren rfl rfl, OSub.ren rfl rfl, OSub.ren rfl rfl, trivial⟩, fun f hf => hf⟩⟩
      · simp only [den, sumL_f, sumC, Value.bool.injEq]; have h2 := hs.2; rw [Bool.eq_iff_iff, decide_eq_true_iff, decide_eq_true_iff, Int.ofNat_lt]; have := hx.a; have := hy.a; unfold sumL; simp only [cN, Bool.false_eq_true, if_false]; omega
      · simp only [denL_cons, denL_nil, den, sumL_f]
set_option maxHeartbeats 4000000 in
theorem add1 (fx : List Fact) (x y : N4) (hx : x.Ok) (hy : y.Ok) (z : N4) (c : Bool) (h0 : addPr x y ⟨1, z, c⟩) (K : Exit → SS → Prop) : codeK Tryd.prog tt Tryd.f27.ntmps 0 (bodyOf Tryd.f27) (addInv x y fx ⟨1, z, c⟩)
    (fun e st => match e with | .normal => ∃ x' σ, (addPr x y x' ∧ 4 - x'.i < 4 - 1) ∧ Sub 0 σ st (addInv x y fx x') | e => K e st) := by
    obtain ⟨_, hz, hr⟩ := h0
    simp only at hz hr
    have hs := sumL_spec (c := c) hx.b hy.b
    have nx : addPr x y ⟨2, ⟨z.a, sumL x.b y.b c, z.c, z.d⟩, sumC x.b y.b c⟩ := by
      refine ⟨Nat.le_of_ble_eq_true rfl, N4.Ok.of hz.a hs.1 hz.c hz.d, ?_⟩
      simp only [lowS, powS, N4.val] at hr ⊢
      have h2 := hs.2
      generalize sumL x.b y.b c = w at *
      omega
    conv => whnf
    repeat' ((first | refine And.intro (by repeat' first | exact trivial | refine And.intro rfl ?_) (And.intro (by first | exact fun _ h => h | exact fun _ => List.mem_cons_of_mem _ | exact fun _ => List.mem_append_right _) ?_) | (refine And.intro (fun h => ?_) (fun h => ?_) <;> (try simp only [n1, n2, n3, n4, n5, n6] at h) <;> first | (exfalso; omega) | (cases h; done) | skip) | refine And.intro (by omega) ?_ | refine Exists.intro _ (And.intro (by first | exact And.intro rfl rfl | exact Pl.den (by repeat constructor) | with_reducible rfl | exact cast_succ _ | assumption | exact (Int.toNat_of_nonneg (by omega)).symm | rfl) ?_) | refine hD _ _ ?_ | refine hL _ _ ?_ | (intro h; (try simp only [n1, n2, n3, n4, n5, n6] at h); first | (exfalso; omega) | (cases h; done) | skip)) <;> (conv => whnf))
    refine draw_opaque fun KD hD => ?_
    refine draw_all tok (by kernel_rfl) [.any 0, .any 1, .any 3, .any 4, .load 2, .one 5, .any 6, .any 7] [] (by kernel_rfl) rfl rfl (by repeat' (first | exact trivial | refine And.intro rfl ?_)) ?_
    conv => whnf
    repeat' ((first | refine And.intro (by repeat' first | exact trivial | refine And.intro rfl ?_) (And.intro (by first | exact fun _ h => h | exact fun _ => List.mem_cons_of_mem _ | exact fun _ => List.mem_append_right _) ?_) | (refine And.intro (fun h => ?_) (fun h => ?_) <;> (try simp only [n1, n2, n3, n4, n5, n6] at h) <;> first | (exfalso; omega) | (cases h; done) | skip) | refine And.intro (by omega) ?_ | refine Exists.intro _ (And.intro (by first | exact And.intro rfl rfl | exact Pl.den (by repeat constructor) | with_reducible rfl | exact cast_succ _ | assumption | exact (Int.toNat_of_nonneg (by omega)).symm | rfl) ?_) | refine hD _ _ ?_ | refine hL _ _ ?_ | (intro h; (try simp only [n1, n2, n3, n4, n5, n6] at h); first | (exfalso; omega) | (cases h; done) | skip)) <;> (conv => whnf))
    · rename_i hct; subst hct
      refine ⟨⟨2, ⟨z.a, sumL x.b y.b true, z.c, z.d⟩, sumC x.b y.b true⟩, [0, 1, 2, 3], ⟨nx, by simp only; omega⟩, ⟨rfl, ⟨SEq.nrm rfl rfl, SEq.nrm rfl rfl, SEq.nrm rfl rfl, SEq.nrm rfl rfl, (fun _ _ _ => ?_), (fun _ _ _ => rfl), trivial⟩, ⟨OSub.dens (fun _ _ => ?_), OSub.ren rfl rfl, OSub.ren rfl rfl, OSub.ren rfl rfl, trivial⟩, fun f hf => hf⟩⟩
      · rw [sumL_f] at h; simp only [den, sumC, Value.bool.injEq]; unfold sumL at h; have := hx.b; have := hy.b; simp only [cN, Bool.false_eq_true, if_false] at h; exact (decide_eq_true (by simp only [cN, if_true]; omega))
      · simp only [denL_cons, denL_nil, den, sumL_t]
    · rename_i hct; subst hct
      refine ⟨⟨2, ⟨z.a, sumL x.b y.b true, z.c, z.d⟩, sumC x.b y.b true⟩, [0, 1, 2, 3], ⟨nx, by simp only; omega⟩, ⟨rfl, ⟨SEq.nrm rfl rfl, SEq.nrm rfl rfl, SEq.nrm rfl rfl, SEq.nrm rfl rfl, (fun _ _ _ => ?_), (fun _ _ _ => rfl), trivial⟩, ⟨OSub.dens (fun _ _ => ?_), OSub.ren rfl rfl, OSub.ren rfl rfl, OSub.ren rfl rfl, trivial⟩, fun f hf => hf⟩⟩
      · rw [sumL_f] at h; have := hx.b; have := hy.b; simp only [den, sumL_t, sumC, Value.bool.injEq, decide_eq_decide]; unfold sumL at h ⊢; (try simp only [cN, if_true, Bool.false_eq_true, if_false] at h); (try simp only [cN, if_true, Bool.false_eq_true, if_false]); (try omega)
      · simp only [denL_cons, denL_nil, den, sumL_t]
    · subst h
      refine ⟨⟨2, ⟨z.a, sumL x.b y.b false, z.c, z.d⟩, sumC x.b y.b false⟩, [0, 1, 2, 3], ⟨nx, by simp only; omega⟩, ⟨rfl, ⟨SEq.nrm rfl rfl, SEq.nrm rfl rfl, SEq.nrm rfl rfl, SEq.nrm rfl rfl, (fun _ _ _ => ?_), (fun _ _ _ => rfl), trivial⟩, ⟨OSub.dens (fun _ _ => ?_), OSub.ren rfl rfl, OSub.ren rfl rfl, OSub.ren rfl rfl, trivial⟩, fun f hf => hf⟩⟩
      · simp only [den, sumL_f, sumC, Value.bool.injEq]; have h2 := hs.2; rw [Bool.eq_iff_iff, decide_eq_true_iff, decide_eq_true_iff, Int.ofNat_lt]; have := hx.b; have := hy.b; unfold sumL; simp only [cN, Bool.false_eq_true, if_false]; omega
      · simp only [denL_cons, denL_nil, den, sumL_f]
set_option maxHeartbeats 4000000 in
theorem add2 (fx : List Fact) (x y : N4) (hx : x.Ok) (hy : y.Ok) (z : N4) (c : Bool) (h0 : addPr x y ⟨2, z, c⟩) (K : Exit → SS → Prop) : codeK Tryd.prog tt Tryd.f27.ntmps 0 (bodyOf Tryd.f27) (addInv x y fx ⟨2, z, c⟩)
    (fun e st => match e with | .normal => ∃ x' σ, (addPr x y x' ∧ 4 - x'.i < 4 - 2) ∧ Sub 0 σ st (addInv x y fx x') | e => K e st) := by
    obtain ⟨_, hz, hr⟩ := h0
    simp only at hz hr
    have hs := sumL_spec (c := c) hx.c hy.c
    have nx : addPr x y ⟨3, ⟨z.a, z.b, sumL x.c y.c c, z.d⟩, sumC x.c y.c c⟩ := by
      refine ⟨Nat.le_of_ble_eq_true rfl, N4.Ok.of hz.a hz.b hs.1 hz.d, ?_⟩
      simp only [lowS, powS, N4.val] at hr ⊢
      have h2 := hs.2
      generalize sumL x.c y.c c = w at *
      omega
    conv => whnf
    repeat' ((first | refine And.intro (by repeat' first | exact trivial | refine And.intro rfl ?_) (And.intro (by first | exact fun _ h => h | exact fun _ => List.mem_cons_of_mem _ | exact fun _ => List.mem_append_right _) ?_) | (refine And.intro (fun h => ?_) (fun h => ?_) <;> (try simp only [n1, n2, n3, n4, n5, n6] at h) <;> first | (exfalso; omega) | (cases h; done) | skip) | refine And.intro (by omega) ?_ | refine Exists.intro _ (And.intro (by first | exact And.intro rfl rfl | exact Pl.den (by repeat constructor) | with_reducible rfl | exact cast_succ _ | assumption | exact (Int.toNat_of_nonneg (by omega)).symm | rfl) ?_) | refine hD _ _ ?_ | refine hL _ _ ?_ | (intro h; (try simp only [n1, n2, n3, n4, n5, n6] at h); first | (exfalso; omega) | (cases h; done) | skip)) <;> (conv => whnf))
    refine draw_opaque fun KD hD => ?_
    refine draw_all tok (by kernel_rfl) [.any 0, .any 1, .any 3, .any 4, .load 2, .one 5, .any 6, .any 7] [] (by kernel_rfl) rfl rfl (by repeat' (first | exact trivial | refine And.intro rfl ?_)) ?_
    conv => whnf
    repeat' ((first | refine And.intro (by repeat' first | exact trivial | refine And.intro rfl ?_) (And.intro (by first | exact fun _ h => h | exact fun _ => List.mem_cons_of_mem _ | exact fun _ => List.mem_append_right _) ?_) | (refine And.intro (fun h => ?_) (fun h => ?_) <;> (try simp only [n1, n2, n3, n4, n5, n6] at h) <;> first | (exfalso; omega) | (cases h; done) | skip) | refine And.intro (by omega) ?_ | refine Exists.intro _ (And.intro (by first | exact And.intro rfl rfl | exact Pl.den (by repeat constructor) | with_reducible rfl | exact cast_succ _ | assumption | exact (Int.toNat_of_nonneg (by omega)).symm | rfl) ?_) | refine hD _ _ ?_ | refine hL _ _ ?_ | (intro h; (try simp only [n1, n2, n3, n4, n5, n6] at h); first | (exfalso; omega) | (cases h; done) | skip)) <;> (conv => whnf))
    · rename_i hct; subst hct
      refine ⟨⟨3, ⟨z.a, z.b, sumL x.c y.c true, z.d⟩, sumC x.c y.c true⟩, [0, 1, 2, 3], ⟨nx, by simp only; omega⟩, ⟨rfl, ⟨SEq.nrm rfl rfl, SEq.nrm rfl rfl, SEq.nrm rfl rfl, SEq.nrm rfl rfl, (fun _ _ _ => ?_), (fun _ _ _ => rfl), trivial⟩, ⟨OSub.dens (fun _ _ => ?_), OSub.ren rfl rfl, OSub.ren rfl rfl, OSub.ren rfl rfl, trivial⟩, fun f hf => hf⟩⟩
      · rw [sumL_f] at h; simp only [den, sumC, Value.bool.injEq]; unfold sumL at h; have := hx.c; have := hy.c; simp only [cN, Bool.false_eq_true, if_false] at h; exact (decide_eq_true (by simp only [cN, if_true]; omega))
      · simp only [denL_cons, denL_nil, den, sumL_t]
    · rename_i hct; subst hct
      refine ⟨⟨3, ⟨z.a, z.b, sumL x.c y.c true, z.d⟩, sumC x.c y.c true⟩, [0, 1, 2, 3], ⟨nx, by simp only; omega⟩, ⟨rfl, ⟨SEq.nrm rfl rfl, SEq.nrm rfl rfl, SEq.nrm rfl rfl, SEq.nrm rfl rfl, (fun _ _ _ => ?_), (fun _ _ _ => rfl), trivial⟩, ⟨OSub.dens (fun _ _ => ?_), OSub.ren rfl rfl, OSub.ren rfl rfl, OSub.ren rfl rfl, trivial⟩, fun f hf => hf⟩⟩
      · rw [sumL_f] at h; have := hx.c; have := hy.c; simp only [den, sumL_t, sumC, Value.bool.injEq, decide_eq_decide]; unfold sumL at h ⊢; (try simp only [cN, if_true, Bool.false_eq_true, if_false] at h); (try simp only [cN, if_true, Bool.false_eq_true, if_false]); (try omega)
      · simp only [denL_cons, denL_nil, den, sumL_t]
    · subst h
      refine ⟨⟨3, ⟨z.a, z.b, sumL x.c y.c false, z.d⟩, sumC x.c y.c false⟩, [0, 1, 2, 3], ⟨nx, by simp only; omega⟩, ⟨rfl, ⟨SEq.nrm rfl rfl, SEq.nrm rfl rfl, SEq.nrm rfl rfl, SEq.nrm rfl rfl, (fun _ _ _ => ?_), (fun _ _ _ => rfl), trivial⟩, ⟨OSub.dens (fun _ _ => ?_), OSub.ren rfl rfl, OSub.ren rfl rfl, OSub.ren rfl rfl, trivial⟩, fun f hf => hf⟩⟩
      · simp only [den, sumL_f, sumC, Value.bool.injEq]; have h2 := hs.2; rw [Bool.eq_iff_iff, decide_eq_true_iff, decide_eq_true_iff, Int.ofNat_lt]; have := hx.c; have := hy.c; unfold sumL; simp only [cN, Bool.false_eq_true, if_false]; omega
      · simp only [denL_cons, denL_nil, den, sumL_f]
set_option maxHeartbeats 4000000 in
theorem add3 (fx : List Fact) (x y : N4) (hx : x.Ok) (hy : y.Ok) (z : N4) (c : Bool) (h0 : addPr x y ⟨3, z, c⟩) (K : Exit → SS → Prop) : codeK Tryd.prog tt Tryd.f27.ntmps 0 (bodyOf Tryd.f27) (addInv x y fx ⟨3, z, c⟩)
    (fun e st => match e with | .normal => ∃ x' σ, (addPr x y x' ∧ 4 - x'.i < 4 - 3) ∧ Sub 0 σ st (addInv x y fx x') | e => K e st) := by
    obtain ⟨_, hz, hr⟩ := h0
    simp only at hz hr
    have hs := sumL_spec (c := c) hx.d hy.d
    have nx : addPr x y ⟨4, ⟨z.a, z.b, z.c, sumL x.d y.d c⟩, sumC x.d y.d c⟩ := by
      refine ⟨Nat.le_of_ble_eq_true rfl, N4.Ok.of hz.a hz.b hz.c hs.1, ?_⟩
      simp only [lowS, powS, N4.val] at hr ⊢
      have h2 := hs.2
      generalize sumL x.d y.d c = w at *
      omega
    conv => whnf
    repeat' ((first | refine And.intro (by repeat' first | exact trivial | refine And.intro rfl ?_) (And.intro (by first | exact fun _ h => h | exact fun _ => List.mem_cons_of_mem _ | exact fun _ => List.mem_append_right _) ?_) | (refine And.intro (fun h => ?_) (fun h => ?_) <;> (try simp only [n1, n2, n3, n4, n5, n6] at h) <;> first | (exfalso; omega) | (cases h; done) | skip) | refine And.intro (by omega) ?_ | refine Exists.intro _ (And.intro (by first | exact And.intro rfl rfl | exact Pl.den (by repeat constructor) | with_reducible rfl | exact cast_succ _ | assumption | exact (Int.toNat_of_nonneg (by omega)).symm | rfl) ?_) | refine hD _ _ ?_ | refine hL _ _ ?_ | (intro h; (try simp only [n1, n2, n3, n4, n5, n6] at h); first | (exfalso; omega) | (cases h; done) | skip)) <;> (conv => whnf))
    refine draw_opaque fun KD hD => ?_
    refine draw_all tok (by kernel_rfl) [.any 0, .any 1, .any 3, .any 4, .load 2, .one 5, .any 6, .any 7] [] (by kernel_rfl) rfl rfl (by repeat' (first | exact trivial | refine And.intro rfl ?_)) ?_
    conv => whnf
    repeat' ((first | refine And.intro (by repeat' first | exact trivial | refine And.intro rfl ?_) (And.intro (by first | exact fun _ h => h | exact fun _ => List.mem_cons_of_mem _ | exact fun _ => List.mem_append_right _) ?_) | (refine And.intro (fun h => ?_) (fun h => ?_) <;> (try simp only [n1, n2, n3, n4, n5, n6] at h) <;> first | (exfalso; omega) | (cases h; done) | skip) | refine And.intro (by omega) ?_ | refine Exists.intro _ (And.intro (by first | exact And.intro rfl rfl | exact Pl.den (by repeat constructor) | with_reducible rfl | exact cast_succ _ | assumption | exact (Int.toNat_of_nonneg (by omega)).symm | rfl) ?_) | refine hD _ _ ?_ | refine hL _ _ ?_ | (intro h; (try simp only [n1, n2, n3, n4, n5, n6] at h); first | (exfalso; omega) | (cases h; done) | skip)) <;> (conv => whnf))
    · rename_i hct; subst hct
      refine ⟨⟨4, ⟨z.a, z.b, z.c, sumL x.d y.d true⟩, sumC x.d y.d true⟩, [0, 1, 2, 3], ⟨nx, by simp only; omega⟩, ⟨rfl, ⟨SEq.nrm rfl rfl, SEq.nrm rfl rfl, SEq.nrm rfl rfl, SEq.nrm rfl rfl, (fun _ _ _ => ?_), (fun _ _ _ => rfl), trivial⟩, ⟨OSub.dens (fun _ _ => ?_), OSub.ren rfl rfl, OSub.ren rfl rfl, OSub.ren rfl rfl, trivial⟩, fun f hf => hf⟩⟩
      · rw [sumL_f] at h; simp only [den, sumC, Value.bool.injEq]; unfold sumL at h; have := hx.d; have := hy.d; simp only [cN, Bool.false_eq_true, if_false] at h; exact (decide_eq_true (by simp only [cN, if_true]; omega))
      · simp only [denL_cons, denL_nil, den, sumL_t]
    · rename_i hct; subst hct
      refine ⟨⟨4, ⟨z.a, z.b, z.c, sumL x.d y.d true⟩, sumC x.d y.d true⟩, [0, 1, 2, 3], ⟨nx, by simp only; omega⟩, ⟨rfl, ⟨SEq.nrm rfl rfl, SEq.nrm rfl rfl, SEq.nrm rfl rfl, SEq.nrm rfl rfl, (fun _ _ _ => ?_), (fun _ _ _ => rfl), trivial⟩, ⟨OSub.dens (fun _ _ => ?_), OSub.ren rfl rfl, OSub.ren rfl rfl, OSub.ren rfl rfl, trivial⟩, fun f hf => hf⟩⟩
      · rw [sumL_f] at h; have := hx.d; have := hy.d; simp only [den, sumL_t, sumC, Value.bool.injEq, decide_eq_decide]; unfold sumL at h ⊢; (try simp only [cN, if_true, Bool.false_eq_true, if_false] at h); (try simp only [cN, if_true, Bool.false_eq_true, if_false]); (try omega)
      · simp only [denL_cons, denL_nil, den, sumL_t]
    · subst h
      refine ⟨⟨4, ⟨z.a, z.b, z.c, sumL x.d y.d false⟩, sumC x.d y.d false⟩, [0, 1, 2, 3], ⟨nx, by simp only; omega⟩, ⟨rfl, ⟨SEq.nrm rfl rfl, SEq.nrm rfl rfl, SEq.nrm rfl rfl, SEq.nrm rfl rfl, (fun _ _ _ => ?_), (fun _ _ _ => rfl), trivial⟩, ⟨OSub.dens (fun _ _ => ?_), OSub.ren rfl rfl, OSub.ren rfl rfl, OSub.ren rfl rfl, trivial⟩, fun f hf => hf⟩⟩
      · simp only [den, sumL_f, sumC, Value.bool.injEq]; have h2 := hs.2; rw [Bool.eq_iff_iff, decide_eq_true_iff, decide_eq_true_iff, Int.ofNat_lt]; have := hx.d; have := hy.d; unfold sumL; simp only [cN, Bool.false_eq_true, if_false]; omega
      · simp only [denL_cons, denL_nil, den, sumL_f]
theorem tRAdd01 (fx : List Fact) (x y : N4) (hx : x.Ok) (hy : y.Ok) : Tri Tryd.prog 27 [x.sv, y.sv] [] 0 fx
    (RetE (α := N4 × Bool) 0 (fun r => r.1.Ok ∧ r.1.val + (if r.2 = true then 115792089237316195423570985008687907853269984665640564039457584007913129639936 else 0) = x.val + y.val) (fun r => .tup [r.1.sv, .v (.bool r.2)]) (fun _ => []) 0 (fun _ => [])) := by
  refine Tri.of_code tok Tryd.func27 rfl rfl rfl (by decide) rfl (Nat.le_of_ble_eq_true rfl) ?_
  conv => whnf
  repeat' ((first | refine And.intro (by repeat' first | exact trivial | refine And.intro rfl ?_) (And.intro (by first | exact fun _ h => h | exact fun _ => List.mem_cons_of_mem _ | exact fun _ => List.mem_append_right _) ?_) | (refine And.intro (fun h => ?_) (fun h => ?_) <;> (try simp only [n1, n2, n3, n4, n5, n6] at h) <;> first | (exfalso; omega) | (cases h; done) | skip) | refine And.intro (by omega) ?_ | refine Exists.intro _ (And.intro (by first | exact And.intro rfl rfl | exact Pl.den (by repeat constructor) | with_reducible rfl | exact cast_succ _ | assumption | exact (Int.toNat_of_nonneg (by omega)).symm | rfl) ?_) | refine hD _ _ ?_ | refine hL _ _ ?_ | (intro h; (try simp only [n1, n2, n3, n4, n5, n6] at h); first | (exfalso; omega) | (cases h; done) | skip)) <;> (conv => whnf))
  refine loop_by tok (α := RaS) (addInv x y fx) (addPr x y) (fun s => 4 - s.i) ⟨0, n40, false⟩ [0, 1, 2, 3] ⟨Nat.le_of_ble_eq_true rfl, n40_ok, rfl⟩ ?_ ?_
  · exact ⟨rfl, ⟨SEq.nrm rfl rfl, SEq.nrm rfl rfl, SEq.nrm rfl rfl, SEq.nrm rfl rfl, (fun _ _ _ => rfl), (fun _ _ _ => rfl), trivial⟩, ⟨OSub.dens (fun _ _ => rfl), OSub.ren rfl rfl, OSub.ren rfl rfl, OSub.ren rfl rfl, trivial⟩, fun f hf => hf⟩
  rintro ⟨i, z, c⟩ h0
  have hi : i ≤ 4 := h0.1
  have hc : i = 0 ∨ i = 1 ∨ i = 2 ∨ i = 3 ∨ i = 4 := by omega
  rcases hc with rfl | rfl | rfl | rfl | rfl
  · exact add0 fx x y hx hy z c h0 _
  · exact add1 fx x y hx hy z c h0 _
  · exact add2 fx x y hx hy z c h0 _
  · exact add3 fx x y hx hy z c h0 _
  · obtain ⟨_, hz, hr⟩ := h0
    simp only at hz hr
    conv => whnf
    repeat' ((first | refine And.intro (by repeat' first | exact trivial | refine And.intro rfl ?_) (And.intro (by first | exact fun _ h => h | exact fun _ => List.mem_cons_of_mem _ | exact fun _ => List.mem_append_right _) ?_) | (refine And.intro (fun h => ?_) (fun h => ?_) <;> (try simp only [n1, n2, n3, n4, n5, n6] at h) <;> first | (exfalso; omega) | (cases h; done) | skip) | refine And.intro (by omega) ?_ | refine Exists.intro _ (And.intro (by first | exact And.intro rfl rfl | exact Pl.den (by repeat constructor) | with_reducible rfl | exact cast_succ _ | assumption | exact (Int.toNat_of_nonneg (by omega)).symm | rfl) ?_) | refine hD _ _ ?_ | refine hL _ _ ?_ | (intro h; (try simp only [n1, n2, n3, n4, n5, n6] at h); first | (exfalso; omega) | (cases h; done) | skip)) <;> (conv => whnf))
    refine ⟨(z, c), ⟨hz, ?_⟩, Ret.noneS rfl (fun _ _ => rfl) (fun g hg => by cases hg)⟩
    simp only [lowS, powS] at hr
    cases c
    · simp only [cN, Bool.false_eq_true, if_false] at hr ⊢; omega
    · simp only [cN, if_true] at hr ⊢; omega
def subInv (x y : N4) (fx : List Fact) (s : RaS) : SS := ⟨[(2, .p 0 0), (3, .p 1 0), (4, .p 2 0), (6, .p 3 0), (7, .v (.bool s.c)), (8, .k .i64 (s.i : Int))],
    [(3, .cells [.v (.int .u64 (s.z.a : Int)), .v (.int .u64 (s.z.b : Int)), .v (.int .u64 (s.z.c : Int)), .v (.int .u64 (s.z.d : Int))] 24), (2, .cells [.k .u64 0, .k .u64 0, .k .u64 0, .k .u64 0] 24),
    (1, .cells [.v (.int .u64 (y.a : Int)), .v (.int .u64 (y.b : Int)), .v (.int .u64 (y.c : Int)), .v (.int .u64 (y.d : Int))] 24), (0, .cells [.v (.int .u64 (x.a : Int)), .v (.int .u64 (x.b : Int)), .v (.int .u64 (x.c : Int)), .v (.int .u64 (x.d : Int))] 24)], 4, fx⟩
def subPr (x y : N4) (s : RaS) : Prop := s.i ≤ 4 ∧ s.z.Ok ∧ lowS s.z s.i + lowS y s.i = lowS x s.i + powS s.i * cN s.c
set_option maxHeartbeats 4000000 in
theorem sub0 (fx : List Fact) (x y : N4) (hx : x.Ok) (hy : y.Ok) (z : N4) (c : Bool) (h0 : subPr x y ⟨0, z, c⟩) (K : Exit → SS → Prop) : codeK Tryd.prog tt Tryd.f78.ntmps 0 (bodyOf Tryd.f78) (subInv x y fx ⟨0, z, c⟩)
    (fun e st => match e with | .normal => ∃ x' σ, (subPr x y x' ∧ 4 - x'.i < 4 - 0) ∧ Sub 0 σ st (subInv x y fx x') | e => K e st) := by
    obtain ⟨_, hz, hr⟩ := h0
    simp only at hz hr
    have hs := difL_spec (c := c) hx.a hy.a
    have nx : subPr x y ⟨1, ⟨difL x.a y.a c, z.b, z.c, z.d⟩, difC x.a y.a c⟩ := by
      refine ⟨Nat.le_of_ble_eq_true rfl, N4.Ok.of hs.1 hz.b hz.c hz.d, ?_⟩
      simp only [lowS, powS, N4.val] at hr ⊢
      have h2 := hs.2
      generalize difL x.a y.a c = w at *
      omega
    conv => whnf
    repeat' ((first | refine And.intro (by repeat' first | exact trivial | refine And.intro rfl ?_) (And.intro (by first | exact fun _ h => h | exact fun _ => List.mem_cons_of_mem _ | exact fun _ => List.mem_append_right _) ?_) | (refine And.intro (fun h => ?_) (fun h => ?_) <;> (try simp only [n1, n2, n3, n4, n5, n6] at h) <;> first | (exfalso; omega) | (cases h; done) | skip) | refine And.intro (by omega) ?_ | refine Exists.intro _ (And.intro (by first | exact And.intro rfl rfl | exact Pl.den (by repeat constructor) | with_reducible rfl | exact cast_succ _ | assumption | exact (Int.toNat_of_nonneg (by omega)).symm | rfl) ?_) | refine hD _ _ ?_ | refine hL _ _ ?_ | (intro h; (try simp only [n1, n2, n3, n4, n5, n6] at h); first | (exfalso; omega) | (cases h; done) | skip)) <;> (conv => whnf))
    refine draw_opaque fun KD hD => ?_
    refine draw_all tok (by kernel_rfl) [.any 0, .any 1, .any 3, .any 4, .load 2, .one 5, .any 6, .any 7] [] (by kernel_rfl) rfl rfl (by repeat' (first | exact trivial | refine And.intro rfl ?_)) ?_
    conv => whnf
    repeat' ((first | refine And.intro (by repeat' first | exact trivial | refine And.intro rfl ?_) (And.intro (by first | exact fun _ h => h | exact fun _ => List.mem_cons_of_mem _ | exact fun _ => List.mem_append_right _) ?_) | (refine And.intro (fun h => ?_) (fun h => ?_) <;> (try simp only [n1, n2, n3, n4, n5, n6] at h) <;> first | (exfalso; omega) | (cases h; done) | skip) | refine And.intro (by omega) ?_ | refine Exists.intro _ (And.intro (by first | exact And.intro rfl rfl | exact Pl.den (by repeat constructor) | with_reducible rfl | exact cast_succ _ | assumption | exact (Int.toNat_of_nonneg (by omega)).symm | rfl) ?_) | refine hD _ _ ?_ | refine hL _ _ ?_ | (intro h; (try simp only [n1, n2, n3, n4, n5, n6] at h); first | (exfalso; omega) | (cases h; done) | skip)) <;> (conv => whnf))
    refine draw_opaque fun KD hD => ?_
    refine draw_all tok (by kernel_rfl) [.any 0, .any 1, .any 3, .any 4, .load 2, .one 5, .any 6, .any 7] [] (by kernel_rfl) rfl rfl (by repeat' (first | exact trivial | refine And.intro rfl ?_)) ?_
    conv => whnf
    repeat' ((first | refine And.intro (by repeat' first | exact trivial | refine And.intro rfl ?_) (And.intro (by first | exact fun _ h => h | exact fun _ => List.mem_cons_of_mem _ | exact fun _ => List.mem_append_right _) ?_) | (refine And.intro (fun h => ?_) (fun h => ?_) <;> (try simp only [n1, n2, n3, n4, n5, n6] at h) <;> first | (exfalso; omega) | (cases h; done) | skip) | refine And.intro (by omega) ?_ | refine Exists.intro _ (And.intro (by first | exact And.intro rfl rfl | exact Pl.den (by repeat constructor) | with_reducible rfl | exact cast_succ _ | assumption | exact (Int.toNat_of_nonneg (by omega)).symm | rfl) ?_) | refine hD _ _ ?_ | refine hL _ _ ?_ | (intro h; (try simp only [n1, n2, n3, n4, n5, n6] at h); first | (exfalso; omega) | (cases h; done) | skip)) <;> (conv => whnf))
    · rename_i hct; subst hct
      refine ⟨⟨1, ⟨difL x.a y.a true, z.b, z.c, z.d⟩, difC x.a y.a true⟩, [0, 1, 2, 3], ⟨nx, by simp only; omega⟩, ⟨rfl, ⟨SEq.nrm rfl rfl, SEq.nrm rfl rfl, SEq.nrm rfl rfl, SEq.nrm rfl rfl, (fun _ _ _ => ?_), (fun _ _ _ => rfl), trivial⟩, ⟨OSub.dens (fun _ _ => ?_), OSub.ren rfl rfl, OSub.ren rfl rfl, OSub.ren rfl rfl, trivial⟩, fun f hf => hf⟩⟩
      · simp only [den, difC, Value.bool.injEq]; exact (decide_eq_true (by simp only [cN, if_true]; omega))
      · simp only [denL_cons, denL_nil, den, difL_t (hx.a) (hy.a)]
    · rename_i hct; subst hct
      refine ⟨⟨1, ⟨difL x.a y.a true, z.b, z.c, z.d⟩, difC x.a y.a true⟩, [0, 1, 2, 3], ⟨nx, by simp only; omega⟩, ⟨rfl, ⟨SEq.nrm rfl rfl, SEq.nrm rfl rfl, SEq.nrm rfl rfl, SEq.nrm rfl rfl, (fun _ _ _ => ?_), (fun _ _ _ => rfl), trivial⟩, ⟨OSub.dens (fun _ _ => ?_), OSub.ren rfl rfl, OSub.ren rfl rfl, OSub.ren rfl rfl, trivial⟩, fun f hf => hf⟩⟩
      · have := hx.a; have := hy.a; simp only [den, difL_f hx.a hy.a, difC, Value.bool.injEq, decide_eq_decide]; unfold difL; simp only [cN, if_true, Bool.false_eq_true, if_false]; split <;> omega
      · simp only [denL_cons, denL_nil, den, difL_t (hx.a) (hy.a)]
    · subst h
      refine ⟨⟨1, ⟨difL x.a y.a false, z.b, z.c, z.d⟩, difC x.a y.a false⟩, [0, 1, 2, 3], ⟨nx, by simp only; omega⟩, ⟨rfl, ⟨SEq.nrm rfl rfl, SEq.nrm rfl rfl, SEq.nrm rfl rfl, SEq.nrm rfl rfl, (fun _ _ _ => ?_), (fun _ _ _ => rfl), trivial⟩, ⟨OSub.dens (fun _ _ => ?_), OSub.ren rfl rfl, OSub.ren rfl rfl, OSub.ren rfl rfl, trivial⟩, fun f hf => hf⟩⟩
      · simp only [den, difC, cN, Bool.false_eq_true, if_false, Nat.add_zero, Int.ofNat_lt]
      · simp only [denL_cons, denL_nil, den, difL_f (hx.a) (hy.a)]
set_option maxHeartbeats 4000000 in
theorem sub1 (fx : List Fact) (x y : N4) (hx : x.Ok) (hy : y.Ok) (z : N4) (c : Bool) (h0 : subPr x y ⟨1, z, c⟩) (K : Exit → SS → Prop) : codeK Tryd.prog tt Tryd.f78.ntmps 0 (bodyOf Tryd.f78) (subInv x y fx ⟨1, z, c⟩)
    (fun e st => match e with | .normal => ∃ x' σ, (subPr x y x' ∧ 4 - x'.i < 4 - 1) ∧ Sub 0 σ st (subInv x y fx x') | e => K e st) := by
    obtain ⟨_, hz, hr⟩ := h0
    simp only at hz hr
    have hs := difL_spec (c := c) hx.b hy.b
    have nx : subPr x y ⟨2, ⟨z.a, difL x.b y.b c, z.c, z.d⟩, difC x.b y.b c⟩ := by
      refine ⟨Nat.le_of_ble_eq_true rfl, N4.Ok.of hz.a hs.1 hz.c hz.d, ?_⟩
      simp only [lowS, powS, N4.val] at hr ⊢
      have h2 := hs.2
      generalize difL x.b y.b c = w at *
      omega
    conv => whnf
    repeat' ((first | refine And.intro (by repeat' first | exact trivial | refine And.intro rfl ?_) (And.intro (by first | exact fun _ h => h | exact fun _ => List.mem_cons_of_mem _ | exact fun _ => List.mem_append_right _) ?_) | (refine And.intro (fun h => ?_) (fun h => ?_) <;> (try simp only [n1, n2, n3, n4, n5, n6] at h) <;> first | (exfalso; omega) | (cases h; done) | skip) | refine And.intro (by omega) ?_ | refine Exists.intro _ (And.intro (by first | exact And.intro rfl rfl | exact Pl.den (by repeat constructor) | with_reducible rfl | exact cast_succ _ | assumption | exact (Int.toNat_of_nonneg (by omega)).symm | rfl) ?_) | refine hD _ _ ?_ | refine hL _ _ ?_ | (intro h; (try simp only [n1, n2, n3, n4, n5, n6] at h); first | (exfalso; omega) | (cases h; done) | skip)) <;> (conv => whnf))
    refine draw_opaque fun KD hD => ?_
    refine draw_all tok (by kernel_rfl) [.any 0, .any 1, .any 3, .any 4, .load 2, .one 5, .any 6, .any 7] [] (by kernel_rfl) rfl rfl (by repeat' (first | exact trivial | refine And.intro rfl ?_)) ?_
    conv => whnf
    repeat' ((first | refine And.intro (by repeat' first | exact trivial | refine And.intro rfl ?_) (And.intro (by first | exact fun _ h => h | exact fun _ => List.mem_cons_of_mem _ | exact fun _ => List.mem_append_right _) ?_) | (refine And.intro (fun h => ?_) (fun h => ?_) <;> (try simp only [n1, n2, n3, n4, n5, n6] at h) <;> first | (exfalso; omega) | (cases h; done) | skip) | refine And.intro (by omega) ?_ | refine Exists.intro _ (And.intro (by first | exact And.intro rfl rfl | exact Pl.den (by repeat constructor) | with_reducible rfl | exact cast_succ _ | assumption | exact (Int.toNat_of_nonneg (by omega)).symm | rfl) ?_) | refine hD _ _ ?_ | refine hL _ _ ?_ | (intro h; (try simp only [n1, n2, n3, n4, n5, n6] at h); first | (exfalso; omega) | (cases h; done) | skip)) <;> (conv => whnf))
    refine draw_opaque fun KD hD => ?_
    refine draw_all tok (by kernel_rfl) [.any 0, .any 1, .any 3, .any 4, .load 2, .one 5, .any 6, .any 7] [] (by kernel_rfl) rfl rfl (by repeat' (first | exact trivial | refine And.intro rfl ?_)) ?_
    conv => whnf
    repeat' ((first | refine And.intro (by repeat' first | exact trivial | refine And.intro rfl ?_) (And.intro (by first | exact fun _ h => h | exact fun _ => List.mem_cons_of_mem _ | exact fun _ => List.mem_append_right _) ?_) | (refine And.intro (fun h => ?_) (fun h => ?_) <;> (try simp only [n1, n2, n3, n4, n5, n6] at h) <;> first | (exfalso; omega) | (cases h; done) | skip) | refine And.intro (by omega) ?_ | refine Exists.intro _ (And.intro (by first | exact And.intro rfl rfl | exact Pl.den (by repeat constructor) | with_reducible rfl | exact cast_succ _ | assumption | exact (Int.toNat_of_nonneg (by omega)).symm | rfl) ?_) | refine hD _ _ ?_ | refine hL _ _ ?_ | (intro h; (try simp only [n1, n2, n3, n4, n5, n6] at h); first | (exfalso; omega) | (cases h; done) | skip)) <;> (conv => whnf))
    · rename_i hct; subst hct
      refine ⟨⟨2, ⟨z.a, difL x.b y.b true, z.c, z.d⟩, difC x.b y.b true⟩, [0, 1, 2, 3], ⟨nx, by simp only; omega⟩, ⟨rfl, ⟨SEq.nrm rfl rfl, SEq.nrm rfl rfl, SEq.nrm rfl rfl, SEq.nrm rfl rfl, (fun _ _ _ => ?_), (fun _ _ _ => rfl), trivial⟩, ⟨OSub.dens (fun _ _ => ?_), OSub.ren rfl rfl, OSub.ren rfl rfl, OSub.ren rfl rfl, trivial⟩, fun f hf => hf⟩⟩
      · simp only [den, difC, Value.bool.injEq]; exact (decide_eq_true (by simp only [cN, if_true]; omega))
      · simp only [denL_cons, denL_nil, den, difL_t (hx.b) (hy.b)]
    · rename_i hct; subst hct
      refine ⟨⟨2, ⟨z.a, difL x.b y.b true, z.c, z.d⟩, difC x.b y.b true⟩, [0, 1, 2, 3], ⟨nx, by simp only; omega⟩, ⟨rfl, ⟨SEq.nrm rfl rfl, SEq.nrm rfl rfl, SEq.nrm rfl rfl, SEq.nrm rfl rfl, (fun _ _ _ => ?_), (fun _ _ _ => rfl), trivial⟩, ⟨OSub.dens (fun _ _ => ?_), OSub.ren rfl rfl, OSub.ren rfl rfl, OSub.ren rfl rfl, trivial⟩, fun f hf => hf⟩⟩
      · have := hx.b; have := hy.b; simp only [den, difL_f hx.b hy.b, difC, Value.bool.injEq, decide_eq_decide]; unfold difL; simp only [cN, if_true, Bool.false_eq_true, if_false]; split <;> omega
      · simp only [denL_cons, denL_nil, den, difL_t (hx.b) (hy.b)]
    · subst h
      refine ⟨⟨2, ⟨z.a, difL x.b y.b false, z.c, z.d⟩, difC x.b y.b false⟩, [0, 1, 2, 3], ⟨nx, by simp only; omega⟩, ⟨rfl, ⟨SEq.nrm rfl rfl, SEq.nrm rfl rfl, SEq.nrm rfl rfl, SEq.nrm rfl rfl, (fun _ _ _ => ?_), (fun _ _ _ => rfl), trivial⟩, ⟨OSub.dens (fun _ _ => ?_), OSub.ren rfl rfl, OSub.ren rfl rfl, OSub.ren rfl rfl, trivial⟩, fun f hf => hf⟩⟩
      · simp only [den, difC, cN, Bool.false_eq_true, if_false, Nat.add_zero, Int.ofNat_lt]
      · simp only [denL_cons, denL_nil, den, difL_f (hx.b) (hy.b)]
set_option maxHeartbeats 4000000 in
theorem sub2 (fx : List Fact) (x y : N4) (hx : x.Ok) (hy : y.Ok) (z : N4) (c : Bool) (h0 : subPr x y ⟨2, z, c⟩) (K : Exit → SS → Prop) : codeK Tryd.prog tt Tryd.f78.ntmps 0 (bodyOf Tryd.f78) (subInv x y fx ⟨2, z, c⟩)
    (fun e st => match e with | .normal => ∃ x' σ, (subPr x y x' ∧ 4 - x'.i < 4 - 2) ∧ Sub 0 σ st (subInv x y fx x') | e => K e st) := by
    obtain ⟨_, hz, hr⟩ := h0
    simp only at hz hr
    have hs := difL_spec (c := c) hx.c hy.c
    have nx : subPr x y ⟨3, ⟨z.a, z.b, difL x.c y.c c, z.d⟩, difC x.c y.c c⟩ := by
      refine ⟨Nat.le_of_ble_eq_true rfl, N4.Ok.of hz.a hz.b hs.1 hz.d, ?_⟩
      simp only [lowS, powS, N4.val] at hr ⊢
      have h2 := hs.2
      generalize difL x.c y.c c = w at *
      omega
    conv => whnf
    repeat' ((first | refine And.intro (by repeat' first | exact trivial | refine And.intro rfl ?_) (And.intro (by first | exact fun _ h => h | exact fun _ => List.mem_cons_of_mem _ | exact fun _ => List.mem_append_right _) ?_) | (refine And.intro (fun h => ?_) (fun h => ?_) <;> (try simp only [n1, n2, n3, n4, n5, n6] at h) <;> first | (exfalso; omega) | (cases h; done) | skip) | refine And.intro (by omega) ?_ | refine Exists.intro _ (And.intro (by first | exact And.intro rfl rfl | exact Pl.den (by repeat constructor) | with_reducible rfl | exact cast_succ _ | assumption | exact (Int.toNat_of_nonneg (by omega)).symm | rfl) ?_) | refine hD _ _ ?_ | refine hL _ _ ?_ | (intro h; (try simp only [n1, n2, n3, n4, n5, n6] at h); first | (exfalso; omega) | (cases h; done) | skip)) <;> (conv => whnf))
    refine draw_opaque fun KD hD => ?_
    refine draw_all tok (by kernel_rfl) [.any 0, .any 1, .any 3, .any 4, .load 2, .one 5, .any 6, .any 7] [] (by kernel_rfl) rfl rfl (by repeat' (first | exact trivial | refine And.intro rfl ?_)) ?_
    conv => whnf
    repeat' ((first | refine And.intro (by repeat' first | exact trivial | refine And.intro rfl ?_) (And.intro (by first | exact fun _ h => h | exact fun _ => List.mem_cons_of_mem _ | exact fun _ => List.mem_append_right _) ?_) | (refine And.intro (fun h => ?_) (fun h => ?_) <;> (try simp only [n1, n2, n3, n4, n5, n6] at h) <;> first | (exfalso; omega) | (cases h; done) | skip) | refine And.intro (by omega) ?_ | refine Exists.intro _ (And.intro (by first | exact And.intro rfl rfl | exact Pl.den (by repeat constructor) | with_reducible rfl | exact cast_succ _ | assumption | exact (Int.toNat_of_nonneg (by omega)).symm | rfl) ?_) | refine hD _ _ ?_ | refine hL _ _ ?_ | (intro h; (try simp only [n1, n2, n3, n4, n5, n6] at h); first | (exfalso; omega) | (cases h; done) | skip)) <;> (conv => whnf))
    refine draw_opaque fun KD hD => ?_
    refine draw_all tok (by kernel_rfl) [.any 0, .any 1, .any 3, .any 4, .load 2, .one 5, .any 6, .any 7] [] (by kernel_rfl) rfl rfl (by repeat' (first | exact trivial | refine And.intro rfl ?_)) ?_
    conv => whnf
    repeat' ((first | refine And.intro (by repeat' first | exact trivial | refine And.intro rfl ?_) (And.intro (by first | exact fun _ h => h | exact fun _ => List.mem_cons_of_mem _ | exact fun _ => List.mem_append_right _) ?_) | (refine And.intro (fun h => ?_) (fun h => ?_) <;> (try simp only [n1, n2, n3, n4, n5, n6] at h) <;> first | (exfalso; omega) | (cases h; done) | skip) | refine And.intro (by omega) ?_ | refine Exists.intro _ (And.intro (by first | exact And.intro rfl rfl | exact Pl.den (by repeat constructor) | with_reducible rfl | exact cast_succ _ | assumption | exact (Int.toNat_of_nonneg (by omega)).symm | rfl) ?_) | refine hD _ _ ?_ | refine hL _ _ ?_ | (intro h; (try simp only [n1, n2, n3, n4, n5, n6] at h); first | (exfalso; omega) | (cases h; done) | skip)) <;> (conv => whnf))
    · rename_i hct; subst hct
      refine ⟨⟨3, ⟨z.a, z.b, difL x.c y.c true, z.d⟩, difC x.c y.c true⟩, [0, 1, 2, 3], ⟨nx, by simp only; omega⟩, ⟨rfl, ⟨SEq.nrm rfl rfl, SEq.nrm rfl rfl, SEq.nrm rfl rfl, SEq.nrm rfl rfl, (fun _ _ _ => ?_), (fun _ _ _ => rfl), trivial⟩, ⟨OSub.dens (fun _ _ => ?_), OSub.ren rfl rfl, OSub.ren rfl rfl, OSub.ren rfl rfl, trivial⟩, fun f hf => hf⟩⟩
      · simp only [den, difC, Value.bool.injEq]; exact (decide_eq_true (by simp only [cN, if_true]; omega))
      · simp only [denL_cons, denL_nil, den, difL_t (hx.c) (hy.c)]
    · rename_i hct; subst hct
      refine ⟨⟨3, ⟨z.a, z.b, difL x.c y.c true, z.d⟩, difC x.c y.c true⟩, [0, 1, 2, 3], ⟨nx, by simp only; omega⟩, ⟨rfl, ⟨SEq.nrm rfl rfl, SEq.nrm rfl rfl, SEq.nrm rfl rfl, SEq.nrm rfl rfl, (fun _ _ _ => ?_), (fun _ _ _ => rfl), trivial⟩, ⟨OSub.dens (fun _ _ => ?_), OSub.ren rfl rfl, OSub.ren rfl rfl, OSub.ren rfl rfl, trivial⟩, fun f hf => hf⟩⟩
      · have := hx.c; have := hy.c; simp only [den, difL_f hx.c hy.c, difC, Value.bool.injEq, decide_eq_decide]; unfold difL; simp only [cN, if_true, Bool.false_eq_true, if_false]; split <;> omega
      · simp only [denL_cons, denL_nil, den, difL_t (hx.c) (hy.c)]
    · subst h
      refine ⟨⟨3, ⟨z.a, z.b, difL x.c y.c false, z.d⟩, difC x.c y.c false⟩, [0, 1, 2, 3], ⟨nx, by simp only; omega⟩, ⟨rfl, ⟨SEq.nrm rfl rfl, SEq.nrm rfl rfl, SEq.nrm rfl rfl, SEq.nrm rfl rfl, (fun _ _ _ => ?_), (fun _ _ _ => rfl), trivial⟩, ⟨OSub.dens (fun _ _ => ?_), OSub.ren rfl rfl, OSub.ren rfl rfl, OSub.ren rfl rfl, trivial⟩, fun f hf => hf⟩⟩
      · simp only [den, difC, cN, Bool.false_eq_true, if_false, Nat.add_zero, Int.ofNat_lt]
      · simp only [denL_cons, denL_nil, den, difL_f (hx.c) (hy.c)]
set_option maxHeartbeats 4000000 in
theorem sub3 (fx : List Fact) (x y : N4) (hx : x.Ok) (hy : y.Ok) (z : N4) (c : Bool) (h0 : subPr x y ⟨3, z, c⟩) (K : Exit → SS → Prop) : codeK Tryd.prog tt Tryd.f78.ntmps 0 (bodyOf Tryd.f78) (subInv x y fx ⟨3, z, c⟩)
    (fun e st => match e with | .normal => ∃ x' σ, (subPr x y x' ∧ 4 - x'.i < 4 - 3) ∧ Sub 0 σ st (subInv x y fx x') | e => K e st) := by
    obtain ⟨_, hz, hr⟩ := h0
    simp only at hz hr
    have hs := difL_spec (c := c) hx.d hy.d
    have nx : subPr x y ⟨4, ⟨z.a, z.b, z.c, difL x.d y.d c⟩, difC x.d y.d c⟩ := by
      refine ⟨Nat.le_of_ble_eq_true rfl, N4.Ok.of hz.a hz.b hz.c hs.1, ?_⟩
      simp only [lowS, powS, N4.val] at hr ⊢
      have h2 := hs.2
      generalize difL x.d y.d c = w at *
      omega
    conv => whnf
    repeat' ((first | refine And.intro (by repeat' first | exact trivial | refine And.intro rfl ?_) (And.intro (by first | exact fun _ h => h | exact fun _ => List.mem_cons_of_mem _ | exact fun _ => List.mem_append_right _) ?_) | (refine And.intro (fun h => ?_) (fun h => ?_) <;> (try simp only [n1, n2, n3, n4, n5, n6] at h) <;> first | (exfalso; omega) | (cases h; done) | skip) | refine And.intro (by omega) ?_ | refine Exists.intro _ (And.intro (by first | exact And.intro rfl rfl | exact Pl.den (by repeat constructor) | with_reducible rfl | exact cast_succ _ | assumption | exact (Int.toNat_of_nonneg (by omega)).symm | rfl) ?_) | refine hD _ _ ?_ | refine hL _ _ ?_ | (intro h; (try simp only [n1, n2, n3, n4, n5, n6] at h); first | (exfalso; omega) | (cases h; done) | skip)) <;> (conv => whnf))
    refine draw_opaque fun KD hD => ?_
    refine draw_all tok (by kernel_rfl) [.any 0, .any 1, .any 3, .any 4, .load 2, .one 5, .any 6, .any 7] [] (by kernel_rfl) rfl rfl (by repeat' (first | exact trivial | refine And.intro rfl ?_)) ?_
    conv => whnf
    repeat' ((first | refine And.intro (by repeat' first | exact trivial | refine And.intro rfl ?_) (And.intro (by first | exact fun _ h => h | exact fun _ => List.mem_cons_of_mem _ | exact fun _ => List.mem_append_right _) ?_) | (refine And.intro (fun h => ?_) (fun h => ?_) <;> (try simp only [n1, n2, n3, n4, n5, n6] at h) <;> first | (exfalso; omega) | (cases h; done) | skip) | refine And.intro (by omega) ?_ | refine Exists.intro _ (And.intro (by first | exact And.intro rfl rfl | exact Pl.den (by repeat constructor) | with_reducible rfl | exact cast_succ _ | assumption | exact (Int.toNat_of_nonneg (by omega)).symm | rfl) ?_) | refine hD _ _ ?_ | refine hL _ _ ?_ | (intro h; (try simp only [n1, n2, n3, n4, n5, n6] at h); first | (exfalso; omega) | (cases h; done) | skip)) <;> (conv => whnf))
    refine draw_opaque fun KD hD => ?_
    refine draw_all tok (by kernel_rfl) [.any 0, .any 1, .any 3, .any 4, .load 2, .one 5, .any 6, .any 7] [] (by kernel_rfl) rfl rfl (by repeat' (first | exact trivial | refine And.intro rfl ?_)) ?_
    conv => whnf
    repeat' ((first | refine And.intro (by repeat' first | exact trivial | refine And.intro rfl ?_) (And.intro (by first | exact fun _ h => h | exact fun _ => List.mem_cons_of_mem _ | exact fun _ => List.mem_append_right _) ?_) | (refine And.intro (fun h => ?_) (fun h => ?_) <;> (try simp only [n1, n2, n3, n4, n5, n6] at h) <;> first | (exfalso; omega) | (cases h; done) | skip) | refine And.intro (by omega) ?_ | refine Exists.intro _ (And.intro (by first | exact And.intro rfl rfl | exact Pl.den (by repeat constructor) | with_reducible rfl | exact cast_succ _ | assumption | exact (Int.toNat_of_nonneg (by omega)).symm | rfl) ?_) | refine hD _ _ ?_ | refine hL _ _ ?_ | (intro h; (try simp only [n1, n2, n3, n4, n5, n6] at h); first | (exfalso; omega) | (cases h; done) | skip)) <;> (conv => whnf))
    · rename_i hct; subst hct
      refine ⟨⟨4, ⟨z.a, z.b, z.c, difL x.d y.d true⟩, difC x.d y.d true⟩, [0, 1, 2, 3], ⟨nx, by simp only; omega⟩, ⟨rfl, ⟨SEq.nrm rfl rfl, SEq.nrm rfl rfl, SEq.nrm rfl rfl, SEq.nrm rfl rfl, (fun _ _ _ => ?_), (fun _ _ _ => rfl), trivial⟩, ⟨OSub.dens (fun _ _ => ?_), OSub.ren rfl rfl, OSub.ren rfl rfl, OSub.ren rfl rfl, trivial⟩, fun f hf => hf⟩⟩
      · simp only [den, difC, Value.bool.injEq]; exact (decide_eq_true (by simp only [cN, if_true]; omega))
      · simp only [denL_cons, denL_nil, den, difL_t (hx.d) (hy.d)]
    · rename_i hct; subst hct
      refine ⟨⟨4, ⟨z.a, z.b, z.c, difL x.d y.d true⟩, difC x.d y.d true⟩, [0, 1, 2, 3], ⟨nx, by simp only; omega⟩, ⟨rfl, ⟨SEq.nrm rfl rfl, SEq.nrm rfl rfl, SEq.nrm rfl rfl, SEq.nrm rfl rfl, (fun _ _ _ => ?_), (fun _ _ _ => rfl), trivial⟩, ⟨OSub.dens (fun _ _ => ?_), OSub.ren rfl rfl, OSub.ren rfl rfl, OSub.ren rfl rfl, trivial⟩, fun f hf => hf⟩⟩
      · have := hx.d; have := hy.d; simp only [den, difL_f hx.d hy.d, difC, Value.bool.injEq, decide_eq_decide]; unfold difL; simp only [cN, if_true, Bool.false_eq_true, if_false]; split <;> omega
      · simp only [denL_cons, denL_nil, den, difL_t (hx.d) (hy.d)]
    · subst h
      refine ⟨⟨4, ⟨z.a, z.b, z.c, difL x.d y.d false⟩, difC x.d y.d false⟩, [0, 1, 2, 3], ⟨nx, by simp only; omega⟩, ⟨rfl, ⟨SEq.nrm rfl rfl, SEq.nrm rfl rfl, SEq.nrm rfl rfl, SEq.nrm rfl rfl, (fun _ _ _ => ?_), (fun _ _ _ => rfl), trivial⟩, ⟨OSub.dens (fun _ _ => ?_), OSub.ren rfl rfl, OSub.ren rfl rfl, OSub.ren rfl rfl, trivial⟩, fun f hf => hf⟩⟩
      · simp only [den, difC, cN, Bool.false_eq_true, if_false, Nat.add_zero, Int.ofNat_lt]
      · simp only [denL_cons, denL_nil, den, difL_f (hx.d) (hy.d)]
theorem tRSub01 (fx : List Fact) (x y : N4) (hx : x.Ok) (hy : y.Ok) : Tri Tryd.prog 78 [x.sv, y.sv] [] 0 fx
    (RetE (α := N4 × Bool) 0 (fun r => r.1.Ok ∧ r.1.val + y.val = x.val + (if r.2 = true then 115792089237316195423570985008687907853269984665640564039457584007913129639936 else 0)) (fun r => .tup [r.1.sv, .v (.bool r.2)]) (fun _ => []) 0 (fun _ => [])) := by
  refine Tri.of_code tok Tryd.func78 rfl rfl rfl (by decide) rfl (Nat.le_of_ble_eq_true rfl) ?_
  conv => whnf
  repeat' ((first | refine And.intro (by repeat' first | exact trivial | refine And.intro rfl ?_) (And.intro (by first | exact fun _ h => h | exact fun _ => List.mem_cons_of_mem _ | exact fun _ => List.mem_append_right _) ?_) | (refine And.intro (fun h => ?_) (fun h => ?_) <;> (try simp only [n1, n2, n3, n4, n5, n6] at h) <;> first | (exfalso; omega) | (cases h; done) | skip) | refine And.intro (by omega) ?_ | refine Exists.intro _ (And.intro (by first | exact And.intro rfl rfl | exact Pl.den (by repeat constructor) | with_reducible rfl | exact cast_succ _ | assumption | exact (Int.toNat_of_nonneg (by omega)).symm | rfl) ?_) | refine hD _ _ ?_ | refine hL _ _ ?_ | (intro h; (try simp only [n1, n2, n3, n4, n5, n6] at h); first | (exfalso; omega) | (cases h; done) | skip)) <;> (conv => whnf))
  refine loop_by tok (α := RaS) (subInv x y fx) (subPr x y) (fun s => 4 - s.i) ⟨0, n40, false⟩ [0, 1, 2, 3] ⟨Nat.le_of_ble_eq_true rfl, n40_ok, rfl⟩ ?_ ?_
  · exact ⟨rfl, ⟨SEq.nrm rfl rfl, SEq.nrm rfl rfl, SEq.nrm rfl rfl, SEq.nrm rfl rfl, (fun _ _ _ => rfl), (fun _ _ _ => rfl), trivial⟩, ⟨OSub.dens (fun _ _ => rfl), OSub.ren rfl rfl, OSub.ren rfl rfl, OSub.ren rfl rfl, trivial⟩, fun f hf => hf⟩
  rintro ⟨i, z, c⟩ h0
  have hi : i ≤ 4 := h0.1
  have hc : i = 0 ∨ i = 1 ∨ i = 2 ∨ i = 3 ∨ i = 4 := by omega
  rcases hc with rfl | rfl | rfl | rfl | rfl
  · exact sub0 fx x y hx hy z c h0 _
  · exact sub1 fx x y hx hy z c h0 _
  · exact sub2 fx x y hx hy z c h0 _
  · exact sub3 fx x y hx hy z c h0 _
  · obtain ⟨_, hz, hr⟩ := h0
    simp only at hz hr
    conv => whnf
    repeat' ((first | refine And.intro (by repeat' first | exact trivial | refine And.intro rfl ?_) (And.intro (by first | exact fun _ h => h | exact fun _ => List.mem_cons_of_mem _ | exact fun _ => List.mem_append_right _) ?_) | (refine And.intro (fun h => ?_) (fun h => ?_) <;> (try simp only [n1, n2, n3, n4, n5, n6] at h) <;> first | (exfalso; omega) | (cases h; done) | skip) | refine And.intro (by omega) ?_ | refine Exists.intro _ (And.intro (by first | exact And.intro rfl rfl | exact Pl.den (by repeat constructor) | with_reducible rfl | exact cast_succ _ | assumption | exact (Int.toNat_of_nonneg (by omega)).symm | rfl) ?_) | refine hD _ _ ?_ | refine hL _ _ ?_ | (intro h; (try simp only [n1, n2, n3, n4, n5, n6] at h); first | (exfalso; omega) | (cases h; done) | skip)) <;> (conv => whnf))
    refine ⟨(z, c), ⟨hz, ?_⟩, Ret.noneS rfl (fun _ _ => rfl) (fun g hg => by cases hg)⟩
    simp only [lowS, powS] at hr
    cases c
    · simp only [cN, Bool.false_eq_true, if_false] at hr ⊢; omega
    · simp only [cN, if_true] at hr ⊢; omega
end Go.Proofs.YtekgjjanikicnaaDoor.Sx
