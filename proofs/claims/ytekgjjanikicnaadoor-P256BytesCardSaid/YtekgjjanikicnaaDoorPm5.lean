/- Points of the curve, added: by cases, and by one formula for all of them. -/
import Derived.Test.YtekgjjanikicnaaDoorPm1
namespace Go.Proofs.YtekgjjanikicnaaDoor.Pm
set_option linter.unusedVariables false
set_option maxRecDepth 100000

abbrev Pt := Option (K × K)
def OnP : Pt → Prop
  | none => True
  | some (x, y) => On x y
/-- The third point, from a slope. -/
def third (l x1 y1 x2 : K) : K × K := (l * l - x1 - x2, l * (x1 - (l * l - x1 - x2)) - y1)
def aadd (p q : Pt) : Pt := match p, q with
  | none, q => q
  | p, none => p
  | some (x1, y1), some (x2, y2) =>
    if x1 = x2 then
      if y1 = y2 then some (third ((3 * (x1 * x1) - 3) * kinv (2 * y1)) x1 y1 x1)
      else none
    else some (third ((y2 - y1) * kinv (x2 - x1)) x1 y1 x2)
/-- The formula for all cases. -/
def plus (p q : K × K × K) : K × K × K :=
  let xx := p.1 * q.1
  let yy := p.2.1 * q.2.1
  let zz := p.2.2 * q.2.2
  let xy := p.1 * q.2.1 + q.1 * p.2.1
  let yz := p.2.1 * q.2.2 + q.2.1 * p.2.2
  let xz := p.1 * q.2.2 + q.1 * p.2.2
  let a := 3 * (xz - cb * zz)
  let b := 3 * (cb * xz - 3 * zz - xx)
  let t := 3 * (xx - zz)
  (xy * (yy + a) - yz * b, (yy - a) * (yy + a) + t * b, yz * (yy - a) + xy * t)
theorem sub_ne {a b : K} (h : a ≠ b) : b - a ≠ 0 := fun e => h (by grobner)
theorem chord_on {x1 y1 x2 y2 i l : K} (h1 : On x1 y1) (h2 : On x2 y2) (hi : (x2 - x1) * i = 1) (hl : l = (y2 - y1) * i) : On (third l x1 y1 x2).1 (third l x1 y1 x2).2 := by
  unfold On at *
  simp only [third]
  have e : l * (x2 - x1) = y2 - y1 := by grobner
  have k : (x2 - x1) * (l * l * (x1 + x2) + 2 * l * (y1 - l * x1) + 3 - (x1 * x1 + x1 * x2 + x2 * x2)) = 0 := by grobner
  have k2 : l * l * (x1 + x2) + 2 * l * (y1 - l * x1) + 3 - (x1 * x1 + x1 * x2 + x2 * x2) = 0 := by grobner
  grobner
theorem chord_plus {x1 y1 x2 y2 i l : K} (h1 : On x1 y1) (h2 : On x2 y2) (hi : (x2 - x1) * i = 1) (hl : l = (y2 - y1) * i) :
    (plus (x1, y1, 1) (x2, y2, 1)).1 = (plus (x1, y1, 1) (x2, y2, 1)).2.2 * (third l x1 y1 x2).1 ∧ (plus (x1, y1, 1) (x2, y2, 1)).2.1 = (plus (x1, y1, 1) (x2, y2, 1)).2.2 * (third l x1 y1 x2).2 := by
  unfold On at *
  simp only [third, plus]
  generalize cb = b at *
  have e : l * (x2 - x1) = y2 - y1 := by grobner
  have k2 : l * l * (x1 + x2) + 2 * l * (y1 - l * x1) + 3 - (x1 * x1 + x1 * x2 + x2 * x2) = 0 := by grobner
  have ey : y2 = y1 + l * (x2 - x1) := by grobner
  subst ey
  constructor
  · grobner
  · grobner
theorem chord_ne {x1 y1 x2 y2 i : K} (h1 : On x1 y1) (h2 : On x2 y2) (hi : (x2 - x1) * i = 1) : (plus (x1, y1, 1) (x2, y2, 1)).2.2 ≠ 0 := fun hz => by
  have h3 := chord_on h1 h2.neg hi rfl
  refine h3.y_ne ?_
  unfold On at h1 h2
  simp only [third, plus] at hz ⊢
  generalize cb = b at *
  generalize hl : (-y2 - y1) * i = l at *
  have e : l * (x2 - x1) = -y2 - y1 := by clear h1 h2 hz h3; grobner
  have hd : x2 - x1 ≠ 0 := fun e0 => one_ne (by rw [e0] at hi; clear h1 h2 hz h3 e; grobner)
  have ey : y2 = -y1 - l * (x2 - x1) := by clear h1 h2 hz h3 hl; grobner
  clear h3 hi hl e
  subst ey
  have k2 : x1 * x1 + x1 * x2 + x2 * x2 - 3 = 2 * (y1 * l) + l * l * (x2 - x1) := by
    refine k_cancel hd ?_
    clear hz
    grobner
  have kb : b = y1 * y1 - x1 * x1 * x1 + 3 * x1 := by clear hz h2 k2; grobner
  clear h2 h1
  subst kb
  have k : (x2 - x1) * ((x2 - x1) * ((x2 - x1) * (l * (x1 - (l * l - x1 - x2)) - y1))) = 0 := by grobner
  rcases k_or k with k | k
  · exact absurd k hd
  rcases k_or k with k | k
  · exact absurd k hd
  rcases k_or k with k | k
  · exact absurd k hd
  exact k
theorem tang_on {x y i l : K} (h : On x y) (hi : 2 * y * i = 1) (hl : l = (3 * (x * x) - 3) * i) : On (third l x y x).1 (third l x y x).2 := by
  unfold On at *
  simp only [third]
  have e : l * (2 * y) = 3 * (x * x) - 3 := by grobner
  grobner
theorem tang_plus {x y i l : K} (h : On x y) (hi : 2 * y * i = 1) (hl : l = (3 * (x * x) - 3) * i) :
    (plus (x, y, 1) (x, y, 1)).1 = (plus (x, y, 1) (x, y, 1)).2.2 * (third l x y x).1 ∧ (plus (x, y, 1) (x, y, 1)).2.1 = (plus (x, y, 1) (x, y, 1)).2.2 * (third l x y x).2 := by
  unfold On at *
  simp only [third, plus]
  have e : l * (2 * y) = 3 * (x * x) - 3 := by grobner
  generalize cb = b at *
  constructor
  · grobner
  · grobner
theorem tang_z {x y : K} (h : On x y) : (plus (x, y, 1) (x, y, 1)).2.2 = 8 * (y * y * y) := by
  unfold On at *
  simp only [plus]
  generalize cb = b at *
  grobner
theorem mirror_plus {x y : K} (h : On x y) : (plus (x, y, 1) (x, -y, 1)).1 = 0 ∧ (plus (x, y, 1) (x, -y, 1)).2.2 = 0 ∧ (plus (x, y, 1) (x, -y, 1)).2.1 ≠ 0 := by
  refine ⟨?_, ?_, fun hz => ?_⟩
  · simp only [plus]; grobner
  · simp only [plus]; grobner
  · have hy := h.y_ne
    have h2 : (2 : K) * y ≠ 0 := k_ne two_ne hy
    have hi := mul_kinv h2
    have h3 := tang_on h hi rfl
    refine h3.y_ne ?_
    unfold On at h
    simp only [third, plus] at hz ⊢
    generalize kinv (2 * y) = i at *
    generalize hl : (3 * (x * x) - 3) * i = l at *
    have e : l * (2 * y) = 3 * (x * x) - 3 := by grobner
    generalize cb = b at *
    have k : (2 * y) * (2 * y) * (2 * y) * (l * (x - (l * l - x - x)) - y) = 0 := by grobner
    grobner
/-- A triple stands for a point. -/
def Rep (t : K × K × K) (p : Pt) : Prop := match p with
  | none => t.1 = 0 ∧ t.2.2 = 0 ∧ t.2.1 ≠ 0
  | some (x, y) => t.2.2 ≠ 0 ∧ t.1 = t.2.2 * x ∧ t.2.1 = t.2.2 * y
theorem plus_scale (k m x1 y1 z1 x2 y2 z2 : K) : plus (k * x1, k * y1, k * z1) (m * x2, m * y2, m * z2) = ((k * m) * (k * m) * (plus (x1, y1, z1) (x2, y2, z2)).1, (k * m) * (k * m) * (plus (x1, y1, z1) (x2, y2, z2)).2.1, (k * m) * (k * m) * (plus (x1, y1, z1) (x2, y2, z2)).2.2) := by
  simp only [plus]
  refine Prod.ext ?_ (Prod.ext ?_ ?_)
  · simp only; grobner
  · simp only; grobner
  · simp only; grobner
theorem eq_mirror {x y1 y2 : K} (h1 : On x y1) (h2 : On x y2) (h : y1 ≠ y2) : y2 = -y1 := by
  unfold On at *
  have : (y2 - y1) * (y2 + y1) = 0 := by grobner
  rcases k_or this with e | e
  · exact absurd (show y1 = y2 by grobner) h
  · grobner
theorem aadd_on {p q : Pt} (hp : OnP p) (hq : OnP q) : OnP (aadd p q) := by
  match p, q, hp, hq with
  | none, q, _, hq => exact hq
  | some (x1, y1), none, hp, _ => exact hp
  | some (x1, y1), some (x2, y2), hp, hq =>
    have hp : On x1 y1 := hp
    have hq : On x2 y2 := hq
    simp only [aadd]
    by_cases hx : x1 = x2
    · rw [if_pos hx]
      by_cases hy : y1 = y2
      · rw [if_pos hy]
        exact tang_on hp (mul_kinv (k_ne two_ne hp.y_ne)) rfl
      · rw [if_neg hy]; trivial
    · rw [if_neg hx]
      exact chord_on hp hq (mul_kinv (sub_ne hx)) rfl
theorem eight_ne : (8 : K) ≠ 0 := by decide
theorem plus_one {x1 y1 x2 y2 : K} (hp : On x1 y1) (hq : On x2 y2) : Rep (plus (x1, y1, 1) (x2, y2, 1)) (aadd (some (x1, y1)) (some (x2, y2))) := by
  simp only [aadd]
  by_cases hx : x1 = x2
  · rw [if_pos hx]
    subst hx
    by_cases hy : y1 = y2
    · rw [if_pos hy]
      subst hy
      obtain ⟨e1, e2⟩ := tang_plus hp (mul_kinv (k_ne two_ne hp.y_ne)) rfl
      refine ⟨?_, e1, e2⟩
      rw [tang_z hp]
      exact k_ne eight_ne (k_ne (k_ne hp.y_ne hp.y_ne) hp.y_ne)
    · rw [if_neg hy]
      obtain rfl := eq_mirror hp hq hy
      exact mirror_plus hp
  · rw [if_neg hx]
    obtain ⟨e1, e2⟩ := chord_plus hp hq (mul_kinv (sub_ne hx)) rfl
    exact ⟨chord_ne hp hq (mul_kinv (sub_ne hx)), e1, e2⟩
theorem plus_rep {t u : K × K × K} {p q : Pt} (hp : OnP p) (hq : OnP q) (ht : Rep t p) (hu : Rep u q) : Rep (plus t u) (aadd p q) := by
  obtain ⟨x1, y1, z1⟩ := t
  obtain ⟨x2, y2, z2⟩ := u
  match p, q, hp, hq, ht, hu with
  | none, none, _, _, ht, hu =>
    obtain ⟨a1, a2, a3⟩ := ht
    obtain ⟨b1, b2, b3⟩ := hu
    simp only at a1 a2 a3 b1 b2 b3
    subst a1 a2 b1 b2
    refine ⟨?_, ?_, ?_⟩
    · simp only [plus]; grobner
    · simp only [plus]; grobner
    · have : (plus (0, y1, 0) (0, y2, 0)).2.1 = (y1 * y2) * (y1 * y2) := by simp only [plus]; grobner
      rw [this]
      exact k_ne (k_ne a3 b3) (k_ne a3 b3)
  | none, some (x, y), _, hq, ht, hu =>
    obtain ⟨a1, a2, a3⟩ := ht
    obtain ⟨b1, b2, b3⟩ := hu
    have hq : On x y := hq
    simp only at a1 a2 a3 b1 b2 b3
    subst a1 a2 b2 b3
    refine ⟨?_, ?_, ?_⟩
    · have : (plus (0, y1, 0) (z2 * x, z2 * y, z2)).2.2 = (y1 * y1) * (z2 * z2) * y := by simp only [plus]; grobner
      rw [this]
      exact k_ne (k_ne (k_ne a3 a3) (k_ne b1 b1)) hq.y_ne
    · simp only [plus]; grobner
    · simp only [plus]; grobner
  | some (x, y), none, hp, _, ht, hu =>
    obtain ⟨a1, a2, a3⟩ := ht
    obtain ⟨b1, b2, b3⟩ := hu
    have hp : On x y := hp
    simp only at a1 a2 a3 b1 b2 b3
    subst a2 a3 b1 b2
    refine ⟨?_, ?_, ?_⟩
    · have : (plus (z1 * x, z1 * y, z1) (0, y2, 0)).2.2 = (y2 * y2) * (z1 * z1) * y := by simp only [plus]; grobner
      rw [this]
      exact k_ne (k_ne (k_ne b3 b3) (k_ne a1 a1)) hp.y_ne
    · simp only [plus]; grobner
    · simp only [plus]; grobner
  | some (x, y), some (x', y'), hp, hq, ht, hu =>
    obtain ⟨a1, a2, a3⟩ := ht
    obtain ⟨b1, b2, b3⟩ := hu
    simp only at a1 a2 a3 b1 b2 b3
    subst a2 a3 b2 b3
    have h1 := plus_one (x1 := x) (y1 := y) (x2 := x') (y2 := y') hp hq
    have h2 := plus_scale z1 z2 x y 1 x' y' 1
    have e1 : z1 * 1 = z1 := by grobner
    have e2 : z2 * 1 = z2 := by grobner
    rw [e1, e2] at h2
    rw [h2]
    have hk : (z1 * z2) * (z1 * z2) ≠ 0 := k_ne (k_ne a1 b1) (k_ne a1 b1)
    generalize (z1 * z2) * (z1 * z2) = k at hk
    generalize aadd (some (x, y)) (some (x', y')) = r at h1
    generalize plus (x, y, 1) (x', y', 1) = s at h1
    match r, h1 with
    | none, h1 =>
      obtain ⟨c1, c2, c3⟩ := h1
      refine ⟨?_, ?_, ?_⟩
      · simp only [c1]; grobner
      · simp only [c2]; grobner
      · exact k_ne hk c3
    | some (u, v), h1 =>
      obtain ⟨c1, c2, c3⟩ := h1
      refine ⟨k_ne hk c1, ?_, ?_⟩
      · simp only [c2]; grobner
      · simp only [c3]; grobner
end Go.Proofs.YtekgjjanikicnaaDoor.Pm
namespace Go.Proofs.YtekgjjanikicnaaDoor.Pm
set_option linter.unusedVariables false
set_option maxRecDepth 100000

def Cls3 (n : Nat) (t : K → K → K × K × K) : Prop := Cls n (fun x y => (t x y).1) ∧ Cls n (fun x y => (t x y).2.1) ∧ Cls n (fun x y => (t x y).2.2)
theorem cls3_const (t : K × K × K) : Cls3 0 fun _ _ => t := ⟨Cls.const _, Cls.const _, Cls.const _⟩
theorem cls3_pt : Cls3 3 fun x y => (x, y, 1) := ⟨Cls.x.mono (by decide), Cls.y, (Cls.const 1).mono (by decide)⟩
theorem cls3_plus {m n : Nat} {t u : K → K → K × K × K} (ht : Cls3 m t) (hu : Cls3 n u) : Cls3 (m + n + (m + n)) fun x y => plus (t x y) (u x y) := by
  obtain ⟨t1, t2, t3⟩ := ht
  obtain ⟨u1, u2, u3⟩ := hu
  have xx := t1.mul u1
  have yy := t2.mul u2
  have zz := t3.mul u3
  have e : n + m = m + n := Nat.add_comm _ _
  have xy := (t1.mul u2).add (e ▸ u1.mul t2)
  have yz := (t2.mul u3).add (e ▸ u2.mul t3)
  have xz := (t1.mul u3).add (e ▸ u1.mul t3)
  have a := (xz.sub (zz.scale cb)).scale 3
  have b := (((xz.scale cb).sub (zz.scale 3)).sub xx).scale 3
  have t := (xx.sub zz).scale 3
  exact ⟨(xy.mul (yy.add a)).sub (yz.mul b), ((yy.sub a).mul (yy.add a)).add (t.mul b), (yz.mul (yy.sub a)).add (xy.mul t)⟩
/-- Do two triples stand for one point? -/
def df (l r : K × K × K) : K × K × K := (l.1 * r.2.1 - r.1 * l.2.1, l.1 * r.2.2 - r.1 * l.2.2, l.2.1 * r.2.2 - r.2.1 * l.2.2)
theorem cls3_df {m n : Nat} {t u : K → K → K × K × K} (ht : Cls3 m t) (hu : Cls3 n u) : Cls3 (m + n) fun x y => df (t x y) (u x y) := by
  obtain ⟨t1, t2, t3⟩ := ht
  obtain ⟨u1, u2, u3⟩ := hu
  have e : n + m = m + n := Nat.add_comm _ _
  exact ⟨(t1.mul u2).sub (e ▸ u1.mul t2), (t1.mul u3).sub (e ▸ u1.mul t3), (t2.mul u3).sub (e ▸ u2.mul t3)⟩
def tri (p : K × K) : K × K × K := (p.1, p.2, 1)
def dd (p q r : K × K) : K × K × K := df (plus (plus (tri p) (tri q)) (tri r)) (plus (tri p) (plus (tri q) (tri r)))
theorem cls_first (q r : K × K) : Cls3 18 fun x y => dd (x, y) q r :=
  cls3_df (cls3_plus (cls3_plus cls3_pt (cls3_const (tri q))) (cls3_const (tri r))) (cls3_plus cls3_pt (cls3_const (plus (tri q) (tri r))))
theorem cls_mid (p r : K × K) : Cls3 24 fun x y => dd p (x, y) r :=
  cls3_df (cls3_plus (cls3_plus (cls3_const (tri p)) cls3_pt) (cls3_const (tri r))) (cls3_plus (cls3_const (tri p)) (cls3_plus cls3_pt (cls3_const (tri r))))
theorem cls_last (p q : K × K) : Cls3 18 fun x y => dd p q (x, y) :=
  cls3_df (cls3_plus (cls3_const (plus (tri p) (tri q))) cls3_pt) (cls3_plus (cls3_const (tri p)) (cls3_plus (cls3_const (tri q)) cls3_pt))
/-! ### A few points, all their sums -/
abbrev m1 : Nat := Pf - 1
abbrev m3 : Nat := Pf - 3
abbrev cbn : Nat := 41058363725152142129326129780047268409114441015993725554835256314039467401291
def np (x1 y1 z1 x2 y2 z2 : Nat) (k : Nat → Nat → Nat → Bool) : Bool :=
  fz (x1 * x2 % Pf) fun xx => fz (y1 * y2 % Pf) fun yy => fz (z1 * z2 % Pf) fun zz =>
  fz ((x1 * y2 + x2 * y1) % Pf) fun xy => fz ((y1 * z2 + y2 * z1) % Pf) fun yz => fz ((x1 * z2 + x2 * z1) % Pf) fun xz =>
  fz (3 * (xz + nb * zz) % Pf) fun a => fz (3 * (cbn * xz + m3 * zz + m1 * xx) % Pf) fun b => fz (3 * (xx + m1 * zz) % Pf) fun t =>
  fz ((xy * (yy + a) + m1 * (yz * b)) % Pf) fun x => fz (((yy + m1 * a) * (yy + a) + t * b) % Pf) fun y => fz ((yz * (yy + m1 * a) + xy * t) % Pf) fun z => k x y z
def k3 (x y z : Nat) : K × K × K := (kof x, kof y, kof z)
theorem kof_m3 : kof m3 = -3 := by decide
theorem kof_cbn : kof cbn = cb := by decide
theorem np_spec (x1 y1 z1 x2 y2 z2 : Nat) (k : Nat → Nat → Nat → Bool) : ∃ x y z, np x1 y1 z1 x2 y2 z2 k = k x y z ∧ k3 x y z = plus (k3 x1 y1 z1) (k3 x2 y2 z2) := by
  refine ⟨_, _, _, rfl, ?_⟩
  simp only [k3, plus, kof_mod, kof_add, kof_mul, kof_3, kof_nb, kof_m1, kof_m3, kof_cbn]
  refine Prod.ext ?_ (Prod.ext ?_ ?_)
  · simp only; grobner
  · simp only; grobner
  · simp only; grobner
def ndf (a b c a' b' c' : Nat) : Bool := Nat.beq (a * b' % Pf) (a' * b % Pf) && (Nat.beq (a * c' % Pf) (a' * c % Pf) && Nat.beq (b * c' % Pf) (b' * c % Pf))
theorem kof_eq {a b : Nat} (h : Nat.beq (a % Pf) (b % Pf) = true) : kof a = kof b := Fin.ext (Nat.eq_of_beq_eq_true h)
theorem ndf_spec {a b c a' b' c' : Nat} (h : ndf a b c a' b' c' = true) : df (k3 a b c) (k3 a' b' c') = (0, 0, 0) := by
  simp only [ndf, Bool.and_eq_true] at h
  obtain ⟨h1, h2, h3⟩ := h
  have e1 := kof_eq h1
  have e2 := kof_eq h2
  have e3 := kof_eq h3
  simp only [kof_mul] at e1 e2 e3
  simp only [df, k3]
  refine Prod.ext ?_ (Prod.ext ?_ ?_)
  · simp only; grobner
  · simp only; grobner
  · simp only; grobner
/-- Both of a point and its mirror. -/
def both (p : Nat × Nat) (f : Nat → Nat → Bool) : Bool := fz p.1 fun x => fz p.2 fun y => f x y && fz (m1 * y % Pf) fun y => f x y
def pt (p : Nat × Nat) (s : Bool) : K × K := match s with | true => (kof p.1, kof p.2) | false => (kof p.1, -kof p.2)
theorem both_spec {p : Nat × Nat} {f : Nat → Nat → Bool} (h : both p f = true) (s : Bool) : ∃ x y, f x y = true ∧ pt p s = (kof x, kof y) := by
  have h : (f p.1 p.2 && f p.1 (m1 * p.2 % Pf)) = true := h
  rw [Bool.and_eq_true] at h
  cases s with
  | true => exact ⟨_, _, h.1, rfl⟩
  | false =>
    refine ⟨_, _, h.2, ?_⟩
    simp only [pt, kof_mod, kof_mul, kof_m1]
    refine Prod.ext rfl ?_
    simp only; grobner
def check (l m n : List (Nat × Nat)) : Bool :=
  l.all fun p => both p fun x1 y1 => m.all fun q => both q fun x2 y2 => np x1 y1 1 x2 y2 1 fun a b c =>
    n.all fun r => both r fun x3 y3 => np a b c x3 y3 1 fun a b c => np x2 y2 1 x3 y3 1 fun d e f => np x1 y1 1 d e f fun d e f => ndf a b c d e f
theorem check_spec {l m n : List (Nat × Nat)} (h : check l m n = true) {p q r : Nat × Nat} (hp : p ∈ l) (hq : q ∈ m) (hr : r ∈ n) (s t u : Bool) : dd (pt p s) (pt q t) (pt r u) = (0, 0, 0) := by
  unfold check at h
  obtain ⟨x1, y1, h1, e1⟩ := both_spec (List.all_eq_true.1 h p hp) s
  obtain ⟨x2, y2, h2, e2⟩ := both_spec (List.all_eq_true.1 h1 q hq) t
  obtain ⟨a, b, c, k1, g1⟩ := np_spec x1 y1 1 x2 y2 1 fun a b c =>
    n.all fun r => both r fun x3 y3 => np a b c x3 y3 1 fun a b c => np x2 y2 1 x3 y3 1 fun d e f => np x1 y1 1 d e f fun d e f => ndf a b c d e f
  rw [k1] at h2
  obtain ⟨x3, y3, h3, e3⟩ := both_spec (List.all_eq_true.1 h2 r hr) u
  obtain ⟨a', b', c', k2, g2⟩ := np_spec a b c x3 y3 1 fun a b c => np x2 y2 1 x3 y3 1 fun d e f => np x1 y1 1 d e f fun d e f => ndf a b c d e f
  rw [k2] at h3
  obtain ⟨d, e, f, k3', g3⟩ := np_spec x2 y2 1 x3 y3 1 fun d e f => np x1 y1 1 d e f fun d e f => ndf a' b' c' d e f
  rw [k3'] at h3
  obtain ⟨d', e', f', k4, g4⟩ := np_spec x1 y1 1 d e f fun d e f => ndf a' b' c' d e f
  rw [k4] at h3
  have := ndf_spec h3
  rw [g2, g4, g1, g3] at this
  have t1 : tri (pt p s) = k3 x1 y1 1 := by rw [e1]; simp only [tri, k3, kof_1]
  have t2 : tri (pt q t) = k3 x2 y2 1 := by rw [e2]; simp only [tri, k3, kof_1]
  have t3 : tri (pt r u) = k3 x3 y3 1 := by rw [e3]; simp only [tri, k3, kof_1]
  unfold dd
  rw [t1, t2, t3]
  exact this
def few : List (Nat × Nat) := [
  (48439561293906451759052585252797914202762949526041747995844080717082404635286, 36134250956749795798585127919587881956611106672985015071877198253568414405109),
  (56515219790691171413109057904011688695424810155802929973526481321309856242040, 3377031843712258259223711451491452598088675519751548567112458094635497583569),
  (42877656971275811310262564894490210024759287182177196162425349131675946712428, 61154801112014214504178281461992570017247172004704277041681093927569603776562),
  (102369864249653057322725350723741461599905180004905897298779971437827381725266, 101744491111635190512325668403432589740384530506764148840112137220732283181254),
  (36794669340896883012101473439538929759152396476648692591795318194054580155373, 101659946828913883886577915207667153874746613498030835602133042203824767462820),
  (79653159259317329199152975905021693207262715618295428672027927511489832980905, 105099244361861367422779349381909628134794498213392835359532911141293690159074),
  (64375483017717711348634889601793836329966447963510648681625681211348943876771, 52431391916983504423217627849020916729601969409053901192561322805962577543348),
  (44710890534849379681007195543719586089737754824560621976448707498688874787731, 78410552107786285403689301656392479612049391334024095564584156230482213311870),
  (106026447472237217594103756757091873528548576106367144586170196380839010672352, 19066521425813101412078385704618669688199787690556935461623958781864528857338),
  (93611846365601674425599200647886473617443872040541410036779615417472400060991, 61299672808462629900136024686264045542397545919962042795596947287593974695795),
  (28412803729898893058558238221310261427084375743576167377786533380249859400145, 65403602826180996396520286939226973026599920614829401631985882360676038096704),
  (52521004185641536627266600536804816931535329133355539962020980193802383057860, 3365321999886721389269937144276711091585627196865605815969312301872807444947),
  (10623191994993397449217730442198332685419647040822028787120372345201232391169, 45109985299617300571846506882481132822837374452436097494820998411881657384920)]
def fewer : List (Nat × Nat) := few.take 10
theorem check_few : check fewer few fewer = true := by decide +kernel
/-! ### All points -/
def kp (p : Nat × Nat) : K × K := (kof p.1, kof p.2)
def onB (p : Nat × Nat) : Bool := Nat.beq (p.2 * p.2 % Pf) ((p.1 * p.1 * p.1 + m3 * p.1 + cbn) % Pf)
theorem onB_spec {p : Nat × Nat} (h : onB p = true) : On (kp p).1 (kp p).2 := by
  have := kof_eq h
  simp only [kof_add, kof_mul, kof_m3, kof_cbn] at this
  simp only [On, kp]
  grobner
theorem few_on : few.all onB = true := by decide +kernel
theorem few_nodup : (few.map fun p => (kp p).1).Nodup := by decide +kernel
theorem fewer_nodup : (fewer.map fun p => (kp p).1).Nodup := by decide +kernel
theorem fewer_few {p : Nat × Nat} (h : p ∈ fewer) : p ∈ few := List.mem_of_mem_take h
theorem pt_kp (p : Nat × Nat) (s : Bool) : pt p s = if s = true then kp p else ((kp p).1, -(kp p).2) := by cases s <;> rfl
theorem Cls3.vanish {n : Nat} {t : K → K → K × K × K} (h : Cls3 n t) (ps : List (Nat × Nat)) (hn : (ps.map fun p => (kp p).1).Nodup) (hl : n / 2 + 1 ≤ ps.length) (ho : ∀ p ∈ ps, p ∈ few) (hz : ∀ p ∈ ps, ∀ s, t (pt p s).1 (pt p s).2 = (0, 0, 0)) {x y : K} (hxy : On x y) : t x y = (0, 0, 0) := by
  have hn' : ((ps.map kp).map (·.1)).Nodup := by rw [List.map_map]; exact hn
  have hl' : n / 2 + 1 ≤ (ps.map kp).length := by rw [List.length_map]; exact hl
  have key : ∀ p ∈ ps.map kp, On p.1 p.2 ∧ p.2 ≠ 0 ∧ t p.1 p.2 = (0, 0, 0) ∧ t p.1 (-p.2) = (0, 0, 0) := fun p hp => by
    obtain ⟨q, hq, rfl⟩ := List.mem_map.1 hp
    have on := onB_spec (List.all_eq_true.1 few_on q (ho q hq))
    exact ⟨on, on.y_ne, hz q hq true, hz q hq false⟩
  have a := h.1.vanish (ps.map kp) hn' hl' (fun p hp => by obtain ⟨k1, k2, k3, k4⟩ := key p hp; exact ⟨k1, k2, by simp only [k3], by simp only [k4]⟩) hxy
  have b := h.2.1.vanish (ps.map kp) hn' hl' (fun p hp => by obtain ⟨k1, k2, k3, k4⟩ := key p hp; exact ⟨k1, k2, by simp only [k3], by simp only [k4]⟩) hxy
  have c := h.2.2.vanish (ps.map kp) hn' hl' (fun p hp => by obtain ⟨k1, k2, k3, k4⟩ := key p hp; exact ⟨k1, k2, by simp only [k3], by simp only [k4]⟩) hxy
  exact Prod.ext a (Prod.ext b c)
theorem dd_zero {p q r : K × K} (hp : On p.1 p.2) (hq : On q.1 q.2) (hr : On r.1 r.2) : dd p q r = (0, 0, 0) := by
  have s1 : ∀ {p : K × K}, On p.1 p.2 → ∀ q ∈ few, ∀ r ∈ fewer, ∀ t u, dd p (pt q t) (pt r u) = (0, 0, 0) := fun {p} hp q hq r hr t u =>
    (cls_first (pt q t) (pt r u)).vanish fewer fewer_nodup (by decide) (fun _ h => fewer_few h) (fun a ha s => check_spec check_few ha hq hr s t u) hp
  have s2 : ∀ {p q : K × K}, On p.1 p.2 → On q.1 q.2 → ∀ r ∈ fewer, ∀ u, dd p q (pt r u) = (0, 0, 0) := fun {p q} hp hq r hr u =>
    (cls_mid p (pt r u)).vanish few few_nodup (by decide) (fun _ h => h) (fun a ha s => s1 hp a ha r hr s u) hq
  exact (cls_last p q).vanish fewer fewer_nodup (by decide) (fun _ h => fewer_few h) (fun a ha s => s2 hp hq a ha s) hr
theorem rep_eq {l r : K × K × K} {p q : Pt} (hl : Rep l p) (hr : Rep r q) (h : df l r = (0, 0, 0)) : p = q := by
  obtain ⟨x1, y1, z1⟩ := l
  obtain ⟨x2, y2, z2⟩ := r
  simp only [df, Prod.mk.injEq] at h
  obtain ⟨h1, h2, h3⟩ := h
  match p, q, hl, hr with
  | none, none, _, _ => rfl
  | none, some (x, y), hl, hr =>
    obtain ⟨a1, a2, a3⟩ := hl
    obtain ⟨b1, b2, b3⟩ := hr
    simp only at a1 a2 a3 b1 b2 b3
    exact absurd (show y1 * z2 = 0 by grobner) (k_ne a3 b1)
  | some (x, y), none, hl, hr =>
    obtain ⟨a1, a2, a3⟩ := hl
    obtain ⟨b1, b2, b3⟩ := hr
    simp only at a1 a2 a3 b1 b2 b3
    exact absurd (show y2 * z1 = 0 by grobner) (k_ne b3 a1)
  | some (x, y), some (x', y'), hl, hr =>
    obtain ⟨a1, a2, a3⟩ := hl
    obtain ⟨b1, b2, b3⟩ := hr
    simp only at a1 a2 a3 b1 b2 b3
    have hz := k_ne a1 b1
    have e1 : x = x' := k_cancel hz (by grobner)
    have e2 : y = y' := k_cancel hz (by grobner)
    rw [e1, e2]
theorem rep_tri {p : K × K} : Rep (tri p) (some p) := ⟨one_ne, by simp only [tri]; grobner, by simp only [tri]; grobner⟩
theorem aadd_none (p : Pt) : aadd p none = p := by cases p <;> rfl
theorem none_aadd (p : Pt) : aadd none p = p := rfl
theorem aadd_assoc {p q r : Pt} (hp : OnP p) (hq : OnP q) (hr : OnP r) : aadd (aadd p q) r = aadd p (aadd q r) := by
  match p, q, r, hp, hq, hr with
  | none, q, r, _, _, _ => rw [none_aadd, none_aadd]
  | p, none, r, _, _, _ => rw [aadd_none, none_aadd]
  | p, q, none, _, _, _ => rw [aadd_none, aadd_none]
  | some p, some q, some r, hp, hq, hr =>
    exact rep_eq (plus_rep (aadd_on hp hq) hr (plus_rep hp hq rep_tri rep_tri) rep_tri) (plus_rep hp (aadd_on hq hr) rep_tri (plus_rep hq hr rep_tri rep_tri)) (dd_zero (p := p) (q := q) (r := r) hp hq hr)
theorem aadd_comm {p q : Pt} (hp : OnP p) (hq : OnP q) : aadd p q = aadd q p := by
  match p, q, hp, hq with
  | none, q, _, _ => rw [aadd_none, none_aadd]
  | p, none, _, _ => rw [aadd_none, none_aadd]
  | some p, some q, hp, hq =>
    refine rep_eq (plus_rep hp hq rep_tri rep_tri) (plus_rep hq hp rep_tri rep_tri) ?_
    simp only [df, plus]
    refine Prod.ext ?_ (Prod.ext ?_ ?_)
    · simp only; grobner
    · simp only; grobner
    · simp only; grobner
def aneg : Pt → Pt
  | none => none
  | some (x, y) => some (x, -y)
theorem aneg_on {p : Pt} (h : OnP p) : OnP (aneg p) := by
  match p, h with
  | none, _ => trivial
  | some (x, y), h => exact On.neg h
theorem aadd_neg {p : Pt} (h : OnP p) : aadd p (aneg p) = none := by
  match p, h with
  | none, _ => rfl
  | some (x, y), h =>
    have h : On x y := h
    have hy := h.y_ne
    have : ¬ y = -y := fun e => hy (k_cancel two_ne (by grobner))
    simp only [aadd, aneg, if_true, if_neg this]
/-! ### Multiples -/
def smul : Nat → Pt → Pt
  | 0, _ => none
  | n + 1, p => aadd (smul n p) p
theorem smul_on {p : Pt} (h : OnP p) : ∀ n, OnP (smul n p)
  | 0 => trivial
  | n + 1 => aadd_on (smul_on h n) h
theorem smul_add {p : Pt} (h : OnP p) (m : Nat) : ∀ n, smul (m + n) p = aadd (smul m p) (smul n p)
  | 0 => (aadd_none _).symm
  | n + 1 => by
    rw [← Nat.add_assoc, smul, smul, smul_add h m n, aadd_assoc (smul_on h m) (smul_on h n) h]
theorem smul_none : ∀ n, smul n none = none
  | 0 => rfl
  | n + 1 => by rw [smul, smul_none n]; rfl
theorem smul_smul {p : Pt} (h : OnP p) (m : Nat) : ∀ n, smul n (smul m p) = smul (m * n) p
  | 0 => rfl
  | n + 1 => by rw [smul, smul_smul h m n, Nat.mul_add, Nat.mul_one, smul_add h]
theorem smul_aadd {p q : Pt} (hp : OnP p) (hq : OnP q) : ∀ n, smul n (aadd p q) = aadd (smul n p) (smul n q)
  | 0 => rfl
  | n + 1 => by
    have a := smul_on hp n
    have b := smul_on hq n
    rw [smul, smul, smul, smul_aadd hp hq n, aadd_assoc a b (aadd_on hp hq), ← aadd_assoc b hp hq, aadd_comm b hp, aadd_assoc hp b hq, ← aadd_assoc a hp (aadd_on b hq)]
end Go.Proofs.YtekgjjanikicnaaDoor.Pm
namespace Go.Proofs.YtekgjjanikicnaaDoor.Pm
set_option linter.unusedVariables false
set_option maxRecDepth 100000

/-- A triple of the reference stands for a point. -/
def RepJ (t : K × K × K) (p : Pt) : Prop := match p with
  | none => t.2.2 = 0
  | some (x, y) => t.2.2 ≠ 0 ∧ t.1 = t.2.2 * t.2.2 * x ∧ t.2.1 = t.2.2 * t.2.2 * t.2.2 * y
def jdouble (p : K × K × K) : K × K × K :=
  if p.2.2 = 0 ∨ p.2.1 = 0 then (0, 0, 0) else
  let zz := p.2.2 * p.2.2
  let yy := p.2.1 * p.2.1
  let s := 4 * (p.1 * yy)
  let m := 3 * ((p.1 - zz) * (p.1 + zz))
  let x := m * m - 2 * s
  (x, m * (s - x) - 8 * (yy * yy), 2 * (p.2.1 * p.2.2))
def jplus (p q : K × K × K) : K × K × K :=
  if p.2.2 = 0 then q else
  if q.2.2 = 0 then p else
  let pz := p.2.2 * p.2.2
  let qz := q.2.2 * q.2.2
  let u := p.1 * qz
  let v := q.1 * pz
  let s := p.2.1 * (q.2.2 * qz)
  let t := q.2.1 * (p.2.2 * pz)
  if u = v then if s = t then jdouble p else (0, 0, 0) else
  let h := v - u
  let r := t - s
  let hh := h * h
  let hhh := h * hh
  let w := u * hh
  let x := r * r - hhh - 2 * w
  (x, r * (w - x) - s * hhh, h * (p.2.2 * q.2.2))
theorem jdouble_rep {t : K × K × K} {p : Pt} (hp : OnP p) (ht : RepJ t p) : RepJ (jdouble t) (aadd p p) := by
  obtain ⟨x, y, z⟩ := t
  match p, hp, ht with
  | none, _, ht =>
    have ht : z = 0 := ht
    simp only [jdouble, ht, true_or, if_true]
    rfl
  | some (a, b), hp, ht =>
    obtain ⟨h1, h2, h3⟩ := ht
    have hp : On a b := hp
    have hb := hp.y_ne
    simp only at h1 h2 h3
    have hy : y ≠ 0 := by rw [h3]; exact k_ne (k_ne (k_ne h1 h1) h1) hb
    have hi := mul_kinv (k_ne two_ne hb)
    simp only [aadd, if_true, jdouble]
    rw [if_neg (by rintro (e | e); exact h1 e; exact hy e)]
    subst h2 h3
    generalize kinv (2 * b) = i at hi
    generalize hl : (3 * (a * a) - 3) * i = l
    have e : l * (2 * b) = 3 * (a * a) - 3 := by grobner
    refine ⟨k_ne two_ne (k_ne hy h1), ?_, ?_⟩
    · simp only [third]; grobner
    · simp only [third]; grobner
theorem jplus_rep {t u : K × K × K} {p q : Pt} (hp : OnP p) (hq : OnP q) (ht : RepJ t p) (hu : RepJ u q) : RepJ (jplus t u) (aadd p q) := by
  obtain ⟨x1, y1, z1⟩ := t
  obtain ⟨x2, y2, z2⟩ := u
  match p, q, hp, hq, ht, hu with
  | none, q, _, _, ht, hu =>
    have ht : z1 = 0 := ht
    simp only [jplus, ht, if_true]
    exact hu
  | some (a, b), none, hp, _, ht, hu =>
    have hu : z2 = 0 := hu
    have h1 : z1 ≠ 0 := ht.1
    simp only [jplus, hu, if_true, if_neg h1]
    exact ht
  | some (a, b), some (c, d), hp, hq, ht, hu =>
    have ht' := ht
    obtain ⟨h1, h2, h3⟩ := ht
    obtain ⟨g1, g2, g3⟩ := hu
    have hp : On a b := hp
    have hq : On c d := hq
    simp only at h1 h2 h3 g1 g2 g3
    have hz : z1 * z1 * (z2 * z2) ≠ 0 := k_ne (k_ne h1 h1) (k_ne g1 g1)
    have hz3 : z1 * z1 * z1 * (z2 * z2 * z2) ≠ 0 := k_ne (k_ne (k_ne h1 h1) h1) (k_ne (k_ne g1 g1) g1)
    simp only [aadd, jplus, if_neg h1, if_neg g1]
    by_cases hac : a = c
    · subst hac
      rw [if_pos rfl, if_pos (by rw [h2, g2]; grobner)]
      by_cases hbd : b = d
      · subst hbd
        rw [if_pos rfl, if_pos (by rw [h3, g3]; grobner)]
        have := jdouble_rep (p := some (a, b)) hp ht'
        simpa only [aadd, if_true] using this
      · rw [if_neg hbd, if_neg (fun e => hbd (k_cancel hz3 (by rw [h3, g3] at e; grobner)))]
        rfl
    · have hne : ¬ x1 * (z2 * z2) = x2 * (z1 * z1) := fun e => hac (k_cancel hz (by rw [h2, g2] at e; grobner))
      rw [if_neg hac, if_neg hne]
      have hi := mul_kinv (sub_ne hac)
      generalize kinv (c - a) = i at hi
      generalize hl : (d - b) * i = l
      have e : l * (c - a) = d - b := by grobner
      refine ⟨k_ne (sub_ne hne) (k_ne h1 g1), ?_, ?_⟩
      · subst h2 h3 g2 g3
        have ed : d = b + l * (c - a) := by grobner
        subst ed
        simp only [third]; grobner
      · subst h2 h3 g2 g3
        have ed : d = b + l * (c - a) := by grobner
        subst ed
        simp only [third]; grobner
end Go.Proofs.YtekgjjanikicnaaDoor.Pm
namespace Go.Proofs.YtekgjjanikicnaaDoor.Pm
set_option linter.unusedVariables false
set_option maxRecDepth 100000

theorem smul_one (p : Pt) : smul 1 p = p := rfl
theorem smul_two (p : Pt) : smul 2 p = aadd p p := rfl
theorem add4 {a b c d : Pt} (ha : OnP a) (hb : OnP b) (hc : OnP c) (hd : OnP d) : aadd (aadd a b) (aadd c d) = aadd (aadd a c) (aadd b d) := by
  rw [aadd_assoc ha hb (aadd_on hc hd), ← aadd_assoc hb hc hd, aadd_comm hb hc, aadd_assoc hc hb hd, ← aadd_assoc ha hc (aadd_on hb hd)]
/-- What stands when u's and v's bits from i on are done. -/
def acc (u v i : Nat) (p q : Pt) : Pt := aadd (smul (u / 2 ^ i) p) (smul (v / 2 ^ i) q)
theorem acc_on {u v i : Nat} {p q : Pt} (hp : OnP p) (hq : OnP q) : OnP (acc u v i p q) := aadd_on (smul_on hp _) (smul_on hq _)
theorem acc_top {u v : Nat} {p q : Pt} (hu : u < 2 ^ 256) (hv : v < 2 ^ 256) : acc u v 256 p q = none := by
  unfold acc
  rw [Nat.div_eq_of_lt hu, Nat.div_eq_of_lt hv]; rfl
theorem acc_zero {u v : Nat} {p q : Pt} : acc u v 0 p q = aadd (smul u p) (smul v q) := by
  unfold acc
  rw [Nat.pow_zero, Nat.div_one, Nat.div_one]
theorem div_bit (u i : Nat) : u / 2 ^ i = 2 * (u / 2 ^ (i + 1)) + (u.testBit i).toNat := by
  rw [Nat.testBit_eq_decide_div_mod_eq, Nat.pow_succ, ← Nat.div_div_eq_div_mul]
  by_cases h : u / 2 ^ i % 2 = 1
  · simp [h]; omega
  · simp [h]; omega
theorem acc_double {u v i : Nat} {p q : Pt} (hp : OnP p) (hq : OnP q) : aadd (acc u v i p q) (acc u v i p q) = aadd (smul (2 * (u / 2 ^ i)) p) (smul (2 * (v / 2 ^ i)) q) := by
  unfold acc
  rw [add4 (smul_on hp _) (smul_on hq _) (smul_on hp _) (smul_on hq _), ← smul_add hp, ← smul_add hq, ← Nat.two_mul, ← Nat.two_mul]
/-- What the bits of a place add. -/
def bitp (a b : Bool) (p q : Pt) : Pt := aadd (smul a.toNat p) (smul b.toNat q)
theorem acc_step {u v i : Nat} {p q : Pt} (hp : OnP p) (hq : OnP q) : aadd (aadd (acc u v (i + 1) p q) (acc u v (i + 1) p q)) (bitp (u.testBit i) (v.testBit i) p q) = acc u v i p q := by
  rw [acc_double hp hq]
  unfold bitp
  rw [add4 (smul_on hp _) (smul_on hq _) (smul_on hp _) (smul_on hq _), ← smul_add hp, ← smul_add hq, ← div_bit, ← div_bit]
  rfl
theorem bitp_ff (p q : Pt) : bitp false false p q = none := rfl
theorem bitp_tf (p q : Pt) : bitp true false p q = p := by unfold bitp; show aadd (smul 1 p) none = p; rw [aadd_none]; rfl
theorem bitp_ft (p q : Pt) : bitp false true p q = q := by unfold bitp; show aadd none (smul 1 q) = q; rw [none_aadd]; rfl
theorem bitp_tt (p q : Pt) : bitp true true p q = aadd p q := rfl
theorem bitp_on (a b : Bool) {p q : Pt} (hp : OnP p) (hq : OnP q) : OnP (bitp a b p q) := aadd_on (smul_on hp _) (smul_on hq _)
/-! ### The base point -/
def gxn : Nat := 48439561293906451759052585252797914202762949526041747995844080717082404635286
def gyn : Nat := 36134250956749795798585127919587881956611106672985015071877198253568414405109
def G : Pt := some (kof gxn, kof gyn)
theorem G_on : OnP G := onB_spec (p := (gxn, gyn)) (by decide +kernel)
abbrev nG : Nat := 115792089210356248762697446949407573529996955224135760342422259061068512044369
/-- The point of Jacobi's kind: by numbers, with the divisions put off: twice, and once more for each bit. -/
def npow (f e : Nat) (k : Nat → Nat → Nat → Bool) : Bool :=
  match f with
  | 0 => k 0 1 0
  | f + 1 => npow f (e / 2) fun a b c => np a b c a b c fun a b c => if e % 2 = 1 then np a b c gxn gyn 1 k else k a b c
theorem npow_spec : ∀ (f e : Nat) (k : Nat → Nat → Nat → Bool), e < 2 ^ f → ∃ a b c, npow f e k = k a b c ∧ Rep (kof a, kof b, kof c) (smul e G)
  | 0, e, k, h => by
    obtain rfl : e = 0 := by simpa using h
    exact ⟨0, 1, 0, rfl, kof_0, kof_0, by rw [kof_1]; exact one_ne⟩
  | f + 1, e, k, h => by
    obtain ⟨a, b, c, h1, h2⟩ := npow_spec f (e / 2) (fun a b c => np a b c a b c fun a b c => if e % 2 = 1 then np a b c gxn gyn 1 k else k a b c) (by rw [Nat.pow_succ] at h; omega)
    obtain ⟨a', b', c', k1, g1⟩ := np_spec a b c a b c fun a b c => if e % 2 = 1 then np a b c gxn gyn 1 k else k a b c
    have hd : Rep (kof a', kof b', kof c') (smul (2 * (e / 2)) G) := by
      have := plus_rep (smul_on G_on _) (smul_on G_on _) h2 h2
      rw [← smul_add G_on, ← Nat.two_mul] at this
      have e0 : (kof a', kof b', kof c') = plus (kof a, kof b, kof c) (kof a, kof b, kof c) := g1
      rw [e0]; exact this
    by_cases he : e % 2 = 1
    · obtain ⟨a2, b2, c2, k2, g2⟩ := np_spec a' b' c' gxn gyn 1 k
      refine ⟨a2, b2, c2, by show npow f (e / 2) _ = _; rw [h1, k1, if_pos he, k2], ?_⟩
      have hG : Rep (kof gxn, kof gyn, kof 1) G := by rw [kof_1]; exact rep_tri (p := (kof gxn, kof gyn))
      have := plus_rep (smul_on G_on _) G_on hd hG
      have e1 : e = 2 * (e / 2) + 1 := by omega
      have e0 : (kof a2, kof b2, kof c2) = plus (kof a', kof b', kof c') (kof gxn, kof gyn, kof 1) := g2
      rw [e0]
      have e3 : smul e G = aadd (smul (2 * (e / 2)) G) G := by
        conv => lhs; rw [e1]
        rfl
      rw [e3]; exact this
    · refine ⟨a', b', c', by show npow f (e / 2) _ = _; rw [h1, k1, if_neg he], ?_⟩
      have e1 : 2 * (e / 2) = e := by omega
      rw [e1] at hd; exact hd
theorem rep_zero {a b c : K} {p : Pt} (h : Rep (a, b, c) p) (hc : c = 0) : p = none := by
  match p, h with
  | none, _ => rfl
  | some (x, y), h => exact absurd hc h.1
theorem npow_none (f e : Nat) (he : e < 2 ^ f) (hk : npow f e (fun a b c => Nat.beq (c % Pf) 0) = true) : smul e G = none := by
  obtain ⟨a, b, c, h1, h2⟩ := npow_spec f e (fun a b c => Nat.beq (c % Pf) 0) he
  rw [hk] at h1
  have h3 : c % Pf = 0 := Nat.eq_of_beq_eq_true h1.symm
  exact rep_zero h2 (Fin.ext h3)
theorem npow_n : npow 256 nG (fun a b c => Nat.beq (c % Pf) 0) = true := by decide +kernel
theorem smul_n : smul nG G = none := npow_none 256 nG (by decide) npow_n
theorem smul_mod (a : Nat) : smul (a % nG) G = smul a G := by
  conv => rhs; rw [← Nat.div_add_mod a nG]
  rw [smul_add G_on, ← smul_smul G_on, smul_n, smul_none]
  rfl
end Go.Proofs.YtekgjjanikicnaaDoor.Pm
