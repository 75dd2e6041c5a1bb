/- A symbolic executor for the model's code, part 16: what a call hands back, named anew; a contract used. -/
import Derived.Test.YtekgjjanikicnaaSxF
import Derived.Test.YtekgjjanikicnaaSxT
namespace Go.Proofs.Ytekgjjanikicnaa.Sx
open Go
set_option linter.unusedVariables false

/-- What is handed back, up to names and folding. -/
def Ret (m0 : Nat) (v : SV) (h' : List (Nat × SObj)) (m1 : Nat) (f' : List Fact) (y : SV) (h : List (Nat × SObj)) (m : Nat) (f : List Fact) : Prop :=
  Done (∃ σ h2, Fold h h2 ∧ namesOk m0 m m1 σ (h'.map (·.1)) = true ∧ SEq m1 σ v y ∧ heapSub m1 σ h2 h' ∧ ∀ g, g ∈ f' → g ∈ f)
/-- The same, of something that there is. -/
def RetE {α : Type} (m0 : Nat) (pr : α → Prop) (v : α → SV) (h' : α → List (Nat × SObj)) (m1 : Nat) (f' : α → List Fact) (y : SV) (h : List (Nat × SObj)) (m : Nat) (f : List Fact) : Prop :=
  ∃ a, pr a ∧ Ret m0 (v a) (h' a) m1 (f' a) y h m f
theorem Tri.conv {P : Program} {n : Nat} {args : List SV} {hp : List (Nat × SObj)} {m : Nat} {fx : List Fact} {α : Type} {pr : α → Prop} {v : α → SV} {h1 : α → List (Nat × SObj)} {m1 : Nat} {f1 : α → List Fact}
    (T : Tri P n args hp m fx (RetE m pr v h1 m1 f1)) : Tri P n args hp m fx (fun y h m' f => ∃ a, pr a ∧ y = v a ∧ h = h1 a ∧ m' = m1 ∧ f = f1 a) := by
  refine ⟨T.enter, fun ρ F w hh hrob => (T.run ρ F w hh hrob).mono fun e w' ⟨y, h', m', fx', ρ', F', ⟨a, hpr, hR⟩, he, hy, hh1, hag, hm, hk, ho, hf⟩ => ?_⟩
  obtain ⟨σ, h2, hF, hn, hv, hs, hg⟩ := hR.out
  obtain ⟨F2, h3, h4⟩ := hF _ _ _ _ _ hh1
  obtain ⟨k1, k2, k3, k4⟩ := namesOk_spec hn
  have mk : ∀ r o, (r, o) ∈ h1 a → r ∈ (h1 a).map (·.1) := fun r o hm => List.mem_map.2 ⟨_, hm, rfl⟩
  have ownS : ∀ k, Own (h1 a) (fun r => F2 (sg σ r)) k → Own h2 F2 k := by
    rintro k ⟨r, o', hm, hF⟩
    obtain ⟨o, h5, _⟩ := heapSub_mem hs r o' hm
    exact ⟨_, o, h5, hF⟩
  refine ⟨v a, h1 a, m1, f1 a, fun r => ρ' (sg σ r), fun r => F2 (sg σ r), ⟨a, hpr, rfl, rfl, rfl, rfl⟩, ?_, fun ρ'' hr => ?_, ⟨?_, ?_, ?_, ?_, ?_⟩, ?_, k1, hk, fun k hk' => ho k (h4 k (ownS k hk')), fun f hf' => hf f (hg f hf')⟩
  · rw [he, hv ρ' (fun r => ρ' (sg σ r)) (fun _ _ => rfl)]
  · rw [hv ρ' ρ'' (fun i hi => hr i hi), hv ρ' (fun r => ρ' (sg σ r)) (fun _ _ => rfl)]
  · intro ρ'' hr r o' hm
    obtain ⟨o, h5, h6⟩ := heapSub_mem hs r o' hm
    have := h6 ρ' ρ'' (fun i hi => hr i hi) w' (ρ' (sg σ r)) (F2 (sg σ r)) (h3.obj ρ' (Ag.refl _ _) _ _ h5)
    rw [hr r (k3 r (mk r o' hm)).1]
    exact this
  · exact fun r o' hm => (k3 r (mk r o' hm)).1
  · intro r o1 r' o2 hm hm' hne
    obtain ⟨o, h5, _⟩ := heapSub_mem hs r o1 hm
    obtain ⟨o', h5', _⟩ := heapSub_mem hs r' o2 hm'
    exact h3.shape.dis _ o _ o' h5 h5' (k4 r (mk r o1 hm) r' (mk r' o2 hm') hne)
  · intro r o' hm
    obtain ⟨o, h5, _⟩ := heapSub_mem hs r o' hm
    exact h3.shape.bnd _ o h5
  · intro f hf
    have := h3.shape.fact f (hg f hf)
    exact ⟨this.1, fun k hk => ⟨fun hu => (this.2 k hk).1 (ownS k hu), (this.2 k hk).2⟩⟩
  · intro r hr
    show ρ' (sg σ r) = _
    rw [k2 r hr]; exact hag r hr
/-- A contract, used where there is more around. -/
theorem Tri.use {P : Program} {n : Nat} {args : List SV} {hp : List (Nat × SObj)} {m : Nat} {fx : List Fact} {α : Type} {pr : α → Prop} {v : α → SV} {h1 : α → List (Nat × SObj)} {m1 : Nat} {f1 : α → List Fact}
    (T : Tri P n args hp m fx (RetE m pr v h1 m1 f1)) (σ : List Nat)
    {args' : List SV} {H : List (Nat × SObj)} {nx : Nat} {FX : List Fact} {post' : SV → List (Nat × SObj) → Nat → List Fact → Prop} (hok : callOk m nx σ (hp.map (·.1)) = true)
    (hargs : ∀ ρ ρ'', AgS m σ ρ ρ'' → denL ρ'' args = denL ρ args') (hobj : heapSub m σ H hp) (hfx : ∀ f, f ∈ fx → f ∈ FX)
    (hpost : ∀ a, pr a → afterK m nx σ (hp.map (·.1)) H FX (v a) (h1 a) m1 (f1 a) post') : Tri P n args' H nx FX post' :=
  T.conv.at σ hok hargs hobj hfx fun y h m1' f1' ⟨a, hpr, e1, e2, e3, e4⟩ => by subst e1 e2 e3 e4; exact hpost a hpr
theorem Ret.mk {m0 : Nat} {v : SV} {h' : List (Nat × SObj)} {m1 : Nat} {f' : List Fact} {y : SV} {h : List (Nat × SObj)} {m : Nat} {f : List Fact}
    (σ : List Nat) (h2 : List (Nat × SObj)) (hF : Fold h h2) (hn : namesOk m0 m m1 σ (h'.map (·.1)) = true) (hv : SEq m1 σ v y) (hs : heapSub m1 σ h2 h') (hg : ∀ g, g ∈ f' → g ∈ f) : Ret m0 v h' m1 f' y h m f :=
  Done.mk ⟨σ, h2, hF, hn, hv, hs, hg⟩
/-- No region is left, or is spoken of. -/
theorem Ret.none {m0 : Nat} {v : Value} {f' : List Fact} {y : SV} {h : List (Nat × SObj)} {m : Nat} {f : List Fact} (hm : Nat.ble m0 m = true) (hv : ∀ ρ, den ρ y = v) (hg : ∀ g, g ∈ f' → g ∈ f) : Ret m0 (.v v) [] m0 f' y h m f := by
  refine Done.mk ⟨List.range m0, [], Fold.drop (by simp), ?_, fun ρ ρ'' _ => (hv ρ).symm, trivial, hg⟩
  simp [namesOk, Nat.ble_eq, sg, List.getD_eq_getElem?_getD]
  intro x hx; simp [hx]
theorem Ret.noneS {m0 : Nat} {v : SV} {f' : List Fact} {y : SV} {h : List (Nat × SObj)} {m : Nat} {f : List Fact} (hm : Nat.ble m0 m = true) (hv : ∀ ρ ρ'', den ρ'' v = den ρ y) (hg : ∀ g, g ∈ f' → g ∈ f) : Ret m0 v [] m0 f' y h m f := by
  refine Done.mk ⟨List.range m0, [], Fold.drop (by simp), ?_, fun ρ ρ'' _ => hv ρ ρ'', trivial, hg⟩
  simp [namesOk, Nat.ble_eq, sg, List.getD_eq_getElem?_getD]
  intro x hx; simp [hx]
/-- Nothing is chosen. -/
theorem Tri.one {P : Program} {n : Nat} {args : List SV} {hp : List (Nat × SObj)} {m : Nat} {fx : List Fact} {v : SV} {h' : List (Nat × SObj)} {m1 m0 : Nat} {f' : List Fact}
    (T : Tri P n args hp m fx (Ret m0 v h' m1 f')) : Tri P n args hp m fx (RetE (α := Unit) m0 (fun _ => True) (fun _ => v) (fun _ => h') m1 (fun _ => f')) :=
  T.mono fun y h m f hR => ⟨(), trivial, hR⟩
theorem Tri.reval {P : Program} {n : Nat} {args : List SV} {hp : List (Nat × SObj)} {m : Nat} {fx : List Fact} {pr : Unit → Prop} {v v' : SV} {h1 : Unit → List (Nat × SObj)} {m0 m1 : Nat} {f1 : Unit → List Fact}
    (T : Tri P n args hp m fx (RetE (α := Unit) m0 pr (fun _ => v) h1 m1 f1)) (e : ∀ ρ, den ρ v' = den ρ v) : Tri P n args hp m fx (RetE (α := Unit) m0 pr (fun _ => v') h1 m1 f1) :=
  T.mono fun y h m f ⟨a, hp, hR⟩ => ⟨a, hp, by
    obtain ⟨σ, h2, k1, k2, k3, k4, k5⟩ := hR.out
    exact Done.mk ⟨σ, h2, k1, k2, fun ρ ρ'' ha => (e ρ'').trans (k3 ρ ρ'' ha), k4, k5⟩⟩
theorem SEq.ren {n : Nat} {σ : List Nat} {x y : SV} (h : idsB n x = true) (e : Sx.ren (sg σ) x = y) : SEq n σ x y := fun ρ ρ'' ha => by
  rw [← e, den_ren]
  exact den_ids (fun i hi => ha i hi) x h
def idsA (n : Nat) : SObj → Bool
  | .cells cs _ => idsL n cs
  | .row _ _ => true
  | .map _ _ => true
  | .iter mr _ _ _ => Nat.blt mr n
  | .abs _ => true
theorem OSub.ren {n : Nat} {σ : List Nat} {x y : SObj} (h : idsA n x = true) (e : renO (sg σ) x = y) : OSub n σ x y := fun ρ ρ'' ha w b F ho => by
  subst e
  rw [objOk_ren] at ho
  cases x with
  | cells cs T => simp only [idsA] at h; simp only [ObjOk, denL_ids (ρ := fun i => ρ (sg σ i)) (ρ' := ρ'') (fun i hi => ha i hi) cs h]; exact ho
  | row xs T => exact ho
  | map es clk => exact ho
  | iter mr since seen stepped => simp only [idsA, Nat.blt_eq] at h; simp only [ObjOk, ha mr h]; exact ho
  | abs A => exact ho
theorem OSub.cells {n : Nat} {σ : List Nat} {cs : List SV} {vs : List Value} {T : TypeId} (h : ∀ ρ, denL ρ cs = vs) : OSub n σ (.row vs T) (.cells cs T) := fun ρ ρ'' ha w b F ho => by
  simp only [ObjOk, h ρ] at ho
  exact ho
/-- Numbers and Bools, known or not, alike. -/
def nrm : SV → SV
  | .b t => .v (.bool t)
  | .k kd n => .v (.int kd n)
  | x => x
theorem den_nrm (ρ : Nat → Nat) (x : SV) : den ρ (nrm x) = den ρ x := by cases x <;> rfl
theorem denL_nrm (ρ : Nat → Nat) : ∀ l : List SV, denL ρ (l.map nrm) = denL ρ l
  | [] => rfl
  | x :: r => by simp only [List.map_cons, denL_cons, den_nrm, denL_nrm ρ r]
theorem args_ren {n : Nat} {σ : List Nat} {xs ys : List SV} (h : idsL n xs = true) (e : (renL (sg σ) xs).map nrm = ys.map nrm) : ∀ ρ ρ'', AgS n σ ρ ρ'' → denL ρ'' xs = denL ρ ys := fun ρ ρ'' ha => by
  rw [← denL_nrm ρ ys, ← e, denL_nrm, denL_ren]
  exact denL_ids (fun i hi => ha i hi) xs h
theorem SEq.nrm {n : Nat} {σ : List Nat} {x y : SV} (h : idsB n x = true) (e : Sx.nrm (Sx.ren (sg σ) x) = Sx.nrm y) : SEq n σ x y := fun ρ ρ'' ha => by
  rw [← den_nrm ρ y, ← e, den_nrm, den_ren]
  exact den_ids (fun i hi => ha i hi) x h
/-- Cells that hang on no names. -/
inductive Pl : List SV → List Value → Prop where
  | nil : Pl [] []
  | v {x : Value} {r : List SV} {l : List Value} : Pl r l → Pl (.v x :: r) (x :: l)
  | b {x : Bool} {r : List SV} {l : List Value} : Pl r l → Pl (.b x :: r) (.bool x :: l)
  | k {kd : IntKind} {n : Int} {r : List SV} {l : List Value} : Pl r l → Pl (.k kd n :: r) (.int kd n :: l)
theorem Pl.den : ∀ {l : List SV} {vs : List Value}, Pl l vs → ∀ ρ, denL ρ l = vs
  | _, _, .nil, ρ => rfl
  | _, _, .v h, ρ => by simp only [denL_cons, Sx.den, h.den ρ]
  | _, _, .b h, ρ => by simp only [denL_cons, Sx.den, h.den ρ]
  | _, _, .k h, ρ => by simp only [denL_cons, Sx.den, h.den ρ]
/-- A step of a walk that takes what there is. -/
theorem w4 {α : Type} {p q : α → Prop} {a : α} (h : q a) (x : p a := by first | exact And.intro rfl rfl | exact Pl.den (by repeat constructor) | with_reducible rfl | exact cast_succ _ | assumption | exact (Int.toNat_of_nonneg (by omega)).symm | rfl) : ∃ a, p a ∧ q a := ⟨a, x, h⟩
end Go.Proofs.Ytekgjjanikicnaa.Sx
