/- A symbolic executor for the model's code, part 13: a contract used among more regions, with all names written out; a region that draws its order. -/
import Derived.Test.YtekgjjanikicnaaSxC
import Derived.Test.YtekgjjanikicnaaWLast
namespace Go.Proofs.Ytekgjjanikicnaa.Sx
open Go Go.Proofs.YtekgjjanikicnaaW.PrintLast
set_option linter.unusedVariables false
set_option linter.unusedSimpArgs false

/-! ### Names written out -/
mutual
def renK (s : Nat → Nat) : SV → (SV → Prop) → Prop
  | .v x, k => k (.v x)
  | .b t, k => k (.b t)
  | .k kd n, k => k (.k kd n)
  | .p r o, k => forceN (s r) fun r => k (.p r o)
  | .q r o, k => forceN (s r) fun r => k (.q r o)
  | .s r o len cap, k => forceN (s r) fun r => k (.s r o len cap)
  | .m r, k => forceN (s r) fun r => k (.m r)
  | .agg cs, k => renLK s cs fun cs => k (.agg cs)
  | .tup cs, k => renLK s cs fun cs => k (.tup cs)
  | .fn f a c, k => renLK s a fun a => renLK s c fun c => k (.fn f a c)
def renLK (s : Nat → Nat) : List SV → (List SV → Prop) → Prop
  | [], k => k []
  | x :: r, k => renK s x fun x => renLK s r fun r => k (x :: r)
end
mutual
theorem renK_elim {s : Nat → Nat} : ∀ {x : SV} {k : SV → Prop}, renK s x k → k (ren s x)
  | .v x, k, h => h
  | .b t, k, h => h
  | .k kd n, k, h => h
  | .p r o, k, h => forceN_elim (k := fun r => k (.p r o)) h
  | .q r o, k, h => forceN_elim (k := fun r => k (.q r o)) h
  | .s r o len cap, k, h => forceN_elim (k := fun r => k (.s r o len cap)) h
  | .m r, k, h => forceN_elim (k := fun r => k (.m r)) h
  | .agg cs, k, h => renLK_elim (k := fun cs => k (.agg cs)) h
  | .tup cs, k, h => renLK_elim (k := fun cs => k (.tup cs)) h
  | .fn f a c, k, h => renLK_elim (x := c) (k := fun c => k (.fn f (renL s a) c)) (renLK_elim (x := a) (k := fun a => renLK s c fun c => k (.fn f a c)) h)
theorem renLK_elim {s : Nat → Nat} : ∀ {x : List SV} {k : List SV → Prop}, renLK s x k → k (renL s x)
  | [], k, h => h
  | x :: r, k, h => renLK_elim (x := r) (k := fun r => k (ren s x :: r)) (renK_elim (x := x) (k := fun x => renLK s r fun r => k (x :: r)) h)
end
def renOK (s : Nat → Nat) : SObj → (SObj → Prop) → Prop
  | .cells cs T, k => renLK s cs fun cs => k (.cells cs T)
  | .row xs T, k => k (.row xs T)
  | .map es clk, k => k (.map es clk)
  | .iter mr since seen stepped, k => forceN (s mr) fun mr => k (.iter mr since seen stepped)
  | .abs A, k => k (.abs A)
theorem renOK_elim {s : Nat → Nat} {o : SObj} {k : SObj → Prop} (h : renOK s o k) : k (renO s o) := by
  cases o with
  | cells cs T => exact renLK_elim (k := fun cs => k (.cells cs T)) h
  | row xs T => exact h
  | map es clk => exact h
  | iter mr since seen stepped => exact forceN_elim (k := fun mr => k (.iter mr since seen stepped)) h
  | abs A => exact h
def renHK (s : Nat → Nat) : List (Nat × SObj) → List (Nat × SObj) → (List (Nat × SObj) → Prop) → Prop
  | [], rest, k => k rest
  | (r, o) :: l, rest, k => forceN (s r) fun r => renOK s o fun o => renHK s l rest fun l => k ((r, o) :: l)
theorem renHK_elim {s : Nat → Nat} : ∀ {h rest : List (Nat × SObj)} {k : List (Nat × SObj) → Prop}, renHK s h rest k → k (renH s h ++ rest)
  | [], rest, k, h => h
  | (r, o) :: l, rest, k, h => by
    have h1 := renOK_elim (k := fun o => renHK s l rest fun l => k ((s r, o) :: l)) (forceN_elim (k := fun r => renOK s o fun o => renHK s l rest fun l => k ((r, o) :: l)) h)
    exact renHK_elim (h := l) (k := fun l => k ((s r, renO s o) :: l)) h1
def restHK (keys : List Nat) : List (Nat × SObj) → (List (Nat × SObj) → Prop) → Prop
  | [], k => k []
  | (r, o) :: l, k => match keys.any (Nat.beq r) with
    | true => restHK keys l k
    | false => restHK keys l fun l => k ((r, o) :: l)
theorem restHK_elim {keys : List Nat} : ∀ {h : List (Nat × SObj)} {k : List (Nat × SObj) → Prop}, restHK keys h k → k (restH keys h)
  | [], k, h => h
  | (r, o) :: l, k, h => by
    unfold restHK at h
    unfold restH
    split at h
    · rename_i he; rw [he]; exact restHK_elim h
    · rename_i he; rw [he]; exact restHK_elim (k := fun l => k ((r, o) :: l)) h
def appFK : List Fact → List Fact → (List Fact → Prop) → Prop
  | [], l, k => k l
  | x :: r, l, k => appFK r l fun m => k (x :: m)
theorem appFK_elim : ∀ {a b : List Fact} {k : List Fact → Prop}, appFK a b k → k (a ++ b)
  | [], b, k, h => h
  | x :: r, b, k, h => appFK_elim (a := r) (k := fun m => k (x :: m)) h
/-- What follows a call by contract, all names written out. -/
def afterK (m nx : Nat) (σ keys : List Nat) (H : List (Nat × SObj)) (FX : List Fact) (y : SV) (h : List (Nat × SObj)) (m1 : Nat) (f1 : List Fact) (post' : SV → List (Nat × SObj) → Nat → List Fact → Prop) : Prop :=
  renK (sh m nx σ) y fun y => restHK (keys.map (sg σ)) H fun R => renHK (sh m nx σ) h R fun h => forceN (nx + (m1 - m)) fun n1 => appFK f1 FX fun fx => post' y h n1 fx
/-- A contract, where there are more regions around. -/
theorem Tri.at {P : Program} {n : Nat} {args : List SV} {hp : List (Nat × SObj)} {m : Nat} {fx : List Fact} {post : SV → List (Nat × SObj) → Nat → List Fact → Prop} (T : Tri P n args hp m fx post) (σ : List Nat)
    {args' : List SV} {H : List (Nat × SObj)} {nx : Nat} {FX : List Fact} {post' : SV → List (Nat × SObj) → Nat → List Fact → Prop} (hok : callOk m nx σ (hp.map (·.1)) = true)
    (hargs : ∀ ρ ρ'', AgS m σ ρ ρ'' → denL ρ'' args = denL ρ args') (hobj : heapSub m σ H hp) (hfx : ∀ f, f ∈ fx → f ∈ FX)
    (hpost : ∀ y h m1 f1, post y h m1 f1 → afterK m nx σ (hp.map (·.1)) H FX y h m1 f1 post') : Tri P n args' H nx FX post' := by
  refine T.frame σ hok hargs hobj hfx fun y h m1 f1 _ hp1 => ?_
  have h1 := hpost y h m1 f1 hp1
  unfold afterK at h1
  have h2 := restHK_elim (renK_elim h1)
  have h3 := appFK_elim (forceN_elim (renHK_elim h2))
  rw [List.map_map] at h3
  exact h3

/-! ### A region that draws its order -/
mutual
def idsB (n : Nat) : SV → Bool
  | .v _ => true
  | .b _ => true
  | .k _ _ => true
  | .p r _ => Nat.blt r n
  | .q r _ => Nat.blt r n
  | .s r _ _ _ => Nat.blt r n
  | .m r => Nat.blt r n
  | .agg cs => idsL n cs
  | .tup cs => idsL n cs
  | .fn _ a c => idsL n a && idsL n c
def idsL (n : Nat) : List SV → Bool
  | [] => true
  | x :: r => idsB n x && idsL n r
end
mutual
theorem den_ids {n : Nat} {ρ ρ' : Nat → Nat} (h : Ag n ρ ρ') : ∀ x, idsB n x = true → den ρ' x = den ρ x
  | .v _, _ => rfl
  | .b _, _ => rfl
  | .k _ _, _ => rfl
  | .p r o, hs => by simp only [idsB, Nat.blt_eq] at hs; simp only [den, h r hs]
  | .q r o, hs => by simp only [idsB, Nat.blt_eq] at hs; simp only [den, h r hs]
  | .s r o l c, hs => by simp only [idsB, Nat.blt_eq] at hs; simp only [den, h r hs]
  | .m r, hs => by simp only [idsB, Nat.blt_eq] at hs; simp only [den, h r hs]
  | .agg cs, hs => by simp only [idsB] at hs; simp only [den, denL_ids h cs hs]
  | .tup cs, hs => by simp only [idsB] at hs; simp only [den, denL_ids h cs hs]
  | .fn f a c, hs => by simp only [idsB, Bool.and_eq_true] at hs; simp only [den, denL_ids h a hs.1, denL_ids h c hs.2]
theorem denL_ids {n : Nat} {ρ ρ' : Nat → Nat} (h : Ag n ρ ρ') : ∀ l, idsL n l = true → denL ρ' l = denL ρ l
  | [], _ => rfl
  | x :: r, hs => by simp only [idsL, Bool.and_eq_true] at hs; simp only [denL_cons, den_ids h x hs.1, denL_ids h r hs.2]
end
def idsO (n : Nat) : SObj → Bool
  | .cells cs _ => idsL n cs
  | .row _ _ => true
  | .map _ _ => true
  | .iter mr _ _ _ => Nat.blt mr n
  | .abs _ => false
theorem objOk_ids {n : Nat} {ρ ρ' : Nat → Nat} (h : Ag n ρ ρ') {o : SObj} (hs : idsO n o = true) {w : World} {b : Nat} {G : Nat → Prop} : ObjOk ρ' o w b G ↔ ObjOk ρ o w b G := by
  cases o with
  | cells cs T => simp only [ObjOk, denL_ids h cs hs]
  | row xs T => exact Iff.rfl
  | map es clk => exact Iff.rfl
  | iter mr since seen stepped => simp only [idsO, Nat.blt_eq] at hs; simp only [ObjOk, h mr hs]
  | abs A => exact Iff.rfl
/-- Regions that nobody in the drawn region turns, and standing facts: what a load may lean on. -/
def SH (ρ : Nat → Nat) (hpS : List (Nat × SObj)) (fx : List Fact) (w : World) : Prop :=
  (∀ r o, (r, o) ∈ hpS → ObjOk ρ o w (ρ r) (fun k => k = ρ r)) ∧ FOk fx w
theorem objOk_own {n : Nat} {ρ : Nat → Nat} {o : SObj} (hs : idsO n o = true) {w : World} {b : Nat} {G : Nat → Prop} (h : ObjOk ρ o w b G) : ObjOk ρ o w b (fun k => k = b) := by
  cases o with
  | cells cs T => exact ⟨fun _ => Iff.rfl, h.2⟩
  | row xs T => exact ⟨fun _ => Iff.rfl, h.2⟩
  | map es clk => exact ⟨fun _ => Iff.rfl, h.2⟩
  | iter mr since seen stepped => exact ⟨fun _ => Iff.rfl, h.2⟩
  | abs A => cases hs
def idsH (n : Nat) (hpS : List (Nat × SObj)) : Bool := hpS.all fun e => Nat.blt e.1 n && idsO n e.2
theorem idsH_mem {n : Nat} {hpS : List (Nat × SObj)} (h : idsH n hpS = true) {r : Nat} {o : SObj} (hm : (r, o) ∈ hpS) : r < n ∧ idsO n o = true := by
  have := List.all_eq_true.1 h _ hm
  simpa [Nat.blt_eq] using this
def keepsH (hp : List (Nat × SObj)) : List (Nat × SObj) → Prop
  | [] => True
  | (r, o) :: l => objK r hp (fun o' => o' = o) ∧ keepsH hp l
theorem keepsH_mem {hp : List (Nat × SObj)} : ∀ {l : List (Nat × SObj)}, keepsH hp l → ∀ r o, (r, o) ∈ l → (r, o) ∈ hp
  | [], _, r, o, hm => by cases hm
  | (r', o') :: l, h, r, o, hm => by
    rcases List.mem_cons.1 hm with e | hm
    · cases e
      obtain ⟨x, h1, h2⟩ := objK_elim h.1
      rw [← h2]; exact h1
    · exact keepsH_mem h.2 r o hm
inductive Step where
  | any (i : Nat)
  | load (i : Nat)
  | one (i : Nat)
  | last (i : Nat)
/-- Is the plan one of the region's orders, and may each load be taken where it is? -/
def planOk (ops : Array Oper) (ds : List Nat) : List Step → Array Bool → Bool
  | [], l => Region.ready .any ops l == []
  | .any i :: r, l => anyB .any ops l (l.setIfInBounds i true) i && planOk ops ds r (l.setIfInBounds i true)
  | .load i :: r, l => takeB .any ops ds l (l.setIfInBounds i true) i && ds.all (fun d => !l.getD d false) && planOk ops ds r (l.setIfInBounds i true)
  | .one i :: r, l => readyB .any ops l (l.setIfInBounds i true) i && !ds.contains i && ds.all (fun d => !l.getD d false) && planOk ops ds r (l.setIfInBounds i true)
  | .last i :: r, l => readyB .any ops l (l.setIfInBounds i true) i && ds.contains i && planOk ops ds r (l.setIfInBounds i true)
def planK (P : Program) (tt : List (Option TI)) (sz : Nat) (ops : List Oper) (hpS : List (Nat × SObj)) (fxS : List Fact) : List Step → SS → (SS → Prop) → Prop
  | [], st, k => k st
  | .any i :: r, st, k => nthK ops i fun o => guardK sz ops o st (fun st => match st with
      | ⟨sl, hp, nx, fx⟩ => pureK tt ⟨sl, [], nx, []⟩ o.op fun y => putK sz o.dst y ⟨sl, hp, nx, fx⟩ fun st => planK P tt sz ops hpS fxS r st k)
      (fun st => putK sz o.dst (.tup []) st fun st => planK P tt sz ops hpS fxS r st k)
  | .load i :: r, st, k => nthK ops i fun o => guardK sz ops o st (fun st => match st with
      | ⟨sl, hp, nx, fx⟩ => pureK tt ⟨sl, hpS, nx, fxS⟩ o.op fun y => putK sz o.dst y ⟨sl, hp, nx, fx⟩ fun st => planK P tt sz ops hpS fxS r st k)
      (fun st => putK sz o.dst (.tup []) st fun st => planK P tt sz ops hpS fxS r st k)
  | .one i :: r, st, k => nthK ops i fun o => guardK sz ops o st (fun st => opK P tt sz st o fun st => keepsH st.hp hpS ∧ (∀ f, f ∈ fxS → f ∈ st.fx) ∧ planK P tt sz ops hpS fxS r st k)
      (fun st => putK sz o.dst (.tup []) st fun st => planK P tt sz ops hpS fxS r st k)
  | .last i :: r, st, k => nthK ops i fun o => guardK sz ops o st (fun st => opK P tt sz st o fun st => planK P tt sz ops hpS fxS r st k)
      (fun st => putK sz o.dst (.tup []) st fun st => planK P tt sz ops hpS fxS r st k)
theorem SH.of_ok {B : Bs} {ρ ρ0 : Nat → Nat} {F : Nat → Nat → Prop} {st : SS} {sz : Nat} {a : Act} {w : World} (h : OkAt B ρ F st sz a w) {hpS : List (Nat × SObj)} {n : Nat} {fxS : List Fact} (hag : Ag n ρ0 ρ) (hsc : idsH n hpS = true)
    (hm : ∀ r o, (r, o) ∈ hpS → (r, o) ∈ st.hp) (hf : ∀ f, f ∈ fxS → f ∈ st.fx) : SH ρ0 hpS fxS w := by
  refine ⟨fun r o ho => ?_, fun f hf' => h.heap.shape.fok f (hf f hf')⟩
  obtain ⟨h1, h2⟩ := idsH_mem hsc ho
  have h3 := h.heap.obj ρ (Ag.refl _ _) r o (hm r o ho)
  rw [← hag r h1]
  exact objOk_own h2 ((objOk_ids hag h2).1 h3)
theorem SH.base {ρ ρ0 : Nat → Nat} {hpS : List (Nat × SObj)} {n : Nat} {fxS : List Fact} {w' : World} (h : SH ρ0 hpS fxS w') (hag : Ag n ρ0 ρ) (hsc : idsH n hpS = true) {sl : List (Nat × SV)} {nx : Nat} {a : Act} (hsl : ∀ t x, (t, x) ∈ sl → a.tmps[t]? = some (den ρ x)) :
    Base ρ (fun r k => k = ρ r) ⟨sl, hpS, nx, fxS⟩ a w' := by
  refine ⟨hsl, fun r o ho => ?_⟩
  obtain ⟨h1, h2⟩ := idsH_mem hsc ho
  have h3 := h.1 r o ho
  rw [← hag r h1] at h3
  exact (objOk_ids hag h2).2 h3
/-- The state as it is here, taken for the beginning. -/
theorem OkAt.rebase {B : Bs} {ρ : Nat → Nat} {F : Nat → Nat → Prop} {st : SS} {sz : Nat} {a : Act} {w : World} (h : OkAt B ρ F st sz a w) : OkAt ⟨st.nx, ρ, w, Own st.hp F, st.fx⟩ ρ F st sz a w :=
  ⟨h.slot, h.heap, h.size, Ag.refl _ _, Nat.le_refl _, Keeps.refl _ _, fun _ hk => .inl hk, fun _ hf => .inl hf, h.defers⟩
theorem OkAt.compose {B : Bs} {ρ ρ' : Nat → Nat} {F F' : Nat → Nat → Prop} {st st' : SS} {sz : Nat} {a a' : Act} {w w' : World} (h : OkAt B ρ F st sz a w) (h' : OkAt ⟨st.nx, ρ, w, Own st.hp F, st.fx⟩ ρ' F' st' sz a' w') : OkAt B ρ' F' st' sz a' w' :=
  ⟨h'.slot, h'.heap, h'.size, fun r hr => (h'.base r (Nat.lt_of_lt_of_le hr h.n0)).trans (h.base r hr), Nat.le_trans h.n0 h'.n0, h.keeps.trans h'.keeps h.own,
   fun k hk => (h'.own k hk).elim (h.own k) (fun h1 => .inr (Nat.le_trans h.keeps.size h1)),
   fun f hf => (h'.facts f hf).elim (h.facts f) (fun h1 => .inr fun k hk => (h1 k hk).elim (h.own k) (fun h2 => .inr (Nat.le_trans h.keeps.size h2))), h'.defers⟩
theorem plan_sound {P : Program} {tt : List (Option TI)} (ht : TOk P tt) {sz : Nat} {ops : List Oper} {hpS : List (Nat × SObj)} {fxS : List Fact} {ds : List Nat} {n : Nat} {ρ0 : Nat → Nat} (hsc : idsH n hpS = true) {B : Bs} {K : Exit → SS → Prop} :
    ∀ (pl : List Step) (l : Array Bool), planOk ops.toArray ds pl l = true → ∀ {st : SS} {ρ F a w}, planK P tt sz ops hpS fxS pl st (K .normal) → OkAt B ρ F st sz a w → Ag n ρ0 ρ → n ≤ st.nx →
    ((∀ d ∈ ds, l.getD d false = false) → SH ρ0 hpS fxS w) → wpAnyLast P .any ops.toArray (NoPanic (Lift B sz K)) (SH ρ0 hpS fxS) ds pl.length l a w
  | [], l, hp, st, ρ, F, a, w, h, ho, hag, hn, hS => done_ hp ⟨st, ρ, F, h, ho⟩
  | s :: r, l, hp, st, ρ, F, a, w, h, ho, hag, hn, hS => by
    have setD : ∀ (i d : Nat), (l.setIfInBounds i true).getD d false = false → l.getD d false = false := fun i d hd => by
      by_cases e : d = i
      · subst e
        by_cases hb : d < l.size
        · rw [Array.getD_eq_getD_getElem?, Array.getElem?_setIfInBounds_self_of_lt hb] at hd; simp at hd
        · rw [Array.getD_eq_getD_getElem?, Array.getElem?_eq_none (Nat.le_of_not_lt hb)]; rfl
      · rw [← getD_set_ne false (Ne.symm e)]; exact hd
    have hr0 := ho.rebase
    cases s with
    | any i =>
      simp only [planOk, Bool.and_eq_true] at hp
      obtain ⟨oi, h1, h2⟩ := nthK_elim h
      have hi : ops.toArray[i]? = some oi := by simpa using h1
      have go : ∀ (v : Value) (st' : SS), Yields P ops.toArray oi v a → planK P tt sz ops hpS fxS r st' (K .normal) → OkAt ⟨st.nx, ρ, w, Own st.hp F, st.fx⟩ ρ F st' sz (a.put oi.dst v) w → wpAnyLast P .any ops.toArray (NoPanic (Lift B sz K)) (SH ρ0 hpS fxS) ds (r.length + 1) l a w :=
        fun v st' hy h3 h4 => pure_ (l.setIfInBounds i true) hi rfl hp.1 (fun _ _ _ hq => hq) hy rfl (plan_sound ht hsc r _ hp.2 h3 (ho.compose h4) hag (Nat.le_trans hn h4.n0) (fun hd => hS fun d hm => setD i d (hd d hm)))
      rcases guardK_sound (P := P) h2 hr0 with ⟨hw, st', h3, h4⟩ | ⟨hw, st', h3, h4⟩
      · obtain ⟨sl, hp', nx, fx⟩ := st'
        obtain ⟨y, h5, h6⟩ := pureK_elim (P := P) ht h3 rfl
        have hrun : ∀ w, (execOp a.eval oi).run P w = .ok (.value (den ρ y)) w := fun w =>
          h6 ρ (fun _ _ => False) a w ⟨h4.slot ρ (Ag.refl _ _), fun r o hm => by cases hm⟩ (fun f hf => by cases hf)
        have hrob : ∀ ρ', Ag nx ρ ρ' → den ρ' y = den ρ y := by
          intro ρ' hr
          have e1 := h6 ρ' (fun _ _ => False) a w ⟨h4.slot ρ' hr, fun r o hm => by cases hm⟩ (fun f hf => by cases hf)
          rw [hrun w] at e1
          simpa using e1.symm
        obtain ⟨st'', h7, h8⟩ := putK_elim h5 h4 hrob
        exact go _ st'' (.inl ⟨hw, hrun⟩) h7 h8
      · obtain ⟨st'', h7, h8⟩ := putK_elim h3 h4 (fun _ _ => rfl)
        exact go _ st'' (.inr ⟨hw, rfl⟩) h7 h8
    | load i =>
      simp only [planOk, Bool.and_eq_true, List.all_eq_true, Bool.not_eq_true'] at hp
      obtain ⟨⟨hp1, hp2⟩, hp3⟩ := hp
      have hS0 := hS hp2
      obtain ⟨oi, h1, h2⟩ := nthK_elim h
      have hi : ops.toArray[i]? = some oi := by simpa using h1
      have go : ∀ (v : Value) (st' : SS), YieldsIf P ops.toArray (SH ρ0 hpS fxS) oi v a → planK P tt sz ops hpS fxS r st' (K .normal) → OkAt ⟨st.nx, ρ, w, Own st.hp F, st.fx⟩ ρ F st' sz (a.put oi.dst v) w → wpAnyLast P .any ops.toArray (NoPanic (Lift B sz K)) (SH ρ0 hpS fxS) ds (r.length + 1) l a w :=
        fun v st' hy h3 h4 => take_ (l.setIfInBounds i true) hi rfl hp1 (fun _ _ _ hq => hq) hy hS0 rfl (plan_sound ht hsc r _ hp3 h3 (ho.compose h4) hag (Nat.le_trans hn h4.n0) (fun _ => hS0))
      rcases guardK_sound (P := P) h2 hr0 with ⟨hw, st', h3, h4⟩ | ⟨hw, st', h3, h4⟩
      · obtain ⟨sl, hp', nx, fx⟩ := st'
        obtain ⟨y, h5, h6⟩ := pureK_elim (P := P) ht h3 rfl
        have hle : n ≤ nx := Nat.le_trans hn h4.n0
        have hrun : ∀ ρ', Ag nx ρ ρ' → ∀ w', SH ρ0 hpS fxS w' → (execOp a.eval oi).run P w' = .ok (.value (den ρ' y)) w' := fun ρ' hr w' hs =>
          h6 ρ' _ a w' (hs.base (hag.trans hr hle) hsc (h4.slot ρ' hr)) hs.2
        have hrob : ∀ ρ', Ag nx ρ ρ' → den ρ' y = den ρ y := by
          intro ρ' hr
          have e1 := hrun ρ' hr w hS0
          rw [hrun ρ (Ag.refl _ _) w hS0] at e1
          simpa using e1.symm
        obtain ⟨st'', h7, h8⟩ := putK_elim h5 h4 hrob
        exact go _ st'' (.inl ⟨hw, fun w' hs => hrun ρ (Ag.refl _ _) w' hs⟩) h7 h8
      · obtain ⟨st'', h7, h8⟩ := putK_elim h3 h4 (fun _ _ => rfl)
        exact go _ st'' (.inr ⟨hw, rfl⟩) h7 h8
    | one i =>
      simp only [planOk, Bool.and_eq_true, List.all_eq_true, Bool.not_eq_true'] at hp
      obtain ⟨⟨⟨hp1, hp2⟩, hp4⟩, hp3⟩ := hp
      have hds : i ∉ ds := by simpa using hp2
      obtain ⟨oi, h1, h2⟩ := nthK_elim h
      have hi : ops.toArray[i]? = some oi := by simpa using h1
      refine one_ (l.setIfInBounds i true) hi rfl hp1 hds fun K' hK' => ?_
      have hK : ∀ a' w', SH ρ0 hpS fxS w' → (SH ρ0 hpS fxS w' → wpAnyLast P .any ops.toArray (NoPanic (Lift B sz K)) (SH ρ0 hpS fxS) ds r.length (l.setIfInBounds i true) a' w') → K' a' w' := hK'
      rcases guardK_sound (P := P) h2 hr0 with ⟨hw, st', h3, h4⟩ | ⟨hw, st', h3, h4⟩
      · rw [if_pos hw]
        refine Oper.wp_mono (fun a' w' hx => ?_) (opK_sound ht h3 h4)
        obtain ⟨st2, ρ', F', ⟨k1, k2, k3⟩, h5⟩ := hx
        have hag' : Ag n ρ0 ρ' := hag.trans h5.base hn
        have hs : SH ρ0 hpS fxS w' := SH.of_ok h5 hag' hsc (keepsH_mem k1) k2
        exact hK _ _ hs fun _ => plan_sound ht hsc r _ hp3 k3 (ho.compose h5) hag' (Nat.le_trans hn h5.n0) (fun _ => hs)
      · rw [if_neg (by rw [hw]; simp)]
        obtain ⟨st'', h7, h8⟩ := putK_elim h3 h4 (fun _ _ => rfl)
        have hs : SH ρ0 hpS fxS w := hS hp4
        exact hK _ _ hs fun _ => plan_sound ht hsc r _ hp3 h7 (ho.compose h8) hag (Nat.le_trans hn h8.n0) (fun _ => hs)
    | last i =>
      simp only [planOk, Bool.and_eq_true] at hp
      obtain ⟨⟨hp1, hp2⟩, hp3⟩ := hp
      have hds : i ∈ ds := by simpa using hp2
      obtain ⟨oi, h1, h2⟩ := nthK_elim h
      have hi : ops.toArray[i]? = some oi := by simpa using h1
      refine last_ (l.setIfInBounds i true) hi rfl hp1 hds fun K' hK' => ?_
      have hK : ∀ a' w', wpAnyLast P .any ops.toArray (NoPanic (Lift B sz K)) (SH ρ0 hpS fxS) ds r.length (l.setIfInBounds i true) a' w' → K' a' w' := hK'
      have hlt : i < l.size := by
        simp only [readyB, Bool.and_eq_true, beq_iff_eq] at hp1
        have hm : i ∈ Region.ready .any ops.toArray l := by rw [hp1.1]; simp
        have h5 := (mem_ready.1 hm).1
        refine Nat.lt_of_not_le fun hle => ?_
        rw [Array.getD_eq_getD_getElem?, Array.getElem?_eq_none hle] at h5
        simp at h5
      have hno : ∀ w', (∀ d ∈ ds, (l.setIfInBounds i true).getD d false = false) → SH ρ0 hpS fxS w' := fun w' hd => by
        have := hd i hds
        rw [Array.getD_eq_getD_getElem?, Array.getElem?_setIfInBounds_self_of_lt hlt] at this
        simp at this
      rcases guardK_sound (P := P) h2 hr0 with ⟨hw, st', h3, h4⟩ | ⟨hw, st', h3, h4⟩
      · rw [if_pos hw]
        refine Oper.wp_mono (fun a' w' hx => ?_) (opK_sound ht h3 h4)
        obtain ⟨st2, ρ', F', k3, h5⟩ := hx
        exact hK _ _ (plan_sound ht hsc r _ hp3 k3 (ho.compose h5) (hag.trans h5.base hn) (Nat.le_trans hn h5.n0) (hno w'))
      · rw [if_neg (by rw [hw]; simp)]
        obtain ⟨st'', h7, h8⟩ := putK_elim h3 h4 (fun _ _ => rfl)
        exact hK _ _ (plan_sound ht hsc r _ hp3 h7 (ho.compose h8) hag (Nat.le_trans hn h8.n0) (hno w))
theorem OkAt.drew {B : Bs} {ρ : Nat → Nat} {F : Nat → Nat → Prop} {st : SS} {sz : Nat} {a : Act} {w : World} (h : OkAt B ρ F st sz a w) : OkAt B ρ F st sz a w.drew :=
  ⟨h.slot, h.heap.drew, h.size, h.base, h.n0, h.keeps.trans (keeps_drew _ w) h.own, h.own, h.facts, h.defers⟩
/-- A region that draws its order, by a plan: hpS are regions that nothing in it turns (but what comes last). -/
theorem draw_rule {P : Program} {tt : List (Option TI)} (ht : TOk P tt) (hm : P.follows .mixedOrders = true) {sz n0 id : Nat} {ops : List Oper} {st : SS} {K : Exit → SS → Prop} (pl : List Step) (ds : List Nat) (hpS : List (Nat × SObj))
    (hok : planOk ops.toArray ds pl (Array.replicate ops.length false) = true) (hlen : pl.length = ops.length) (hsc : idsH st.nx hpS = true) (hk : keepsH st.hp hpS) (h : planK P tt sz ops hpS st.fx pl st (K .normal)) : DrawVC P sz n0 id ops st K := by
  refine ⟨fun B ρ F a w hn ho => wp_region_noPanic ?_⟩
  have hd := ho.drew
  have hS : SH ρ hpS st.fx w.drew := SH.of_ok hd (Ag.refl _ _) hsc (keepsH_mem hk) (fun f hf => hf)
  refine start_ (ds := ds) (Array.replicate ops.length false) hm (by simp) rfl hS fun _ => ?_
  rw [← hlen]
  exact plan_sound ht hsc pl _ (by rw [hlen]; exact hok) h hd (Ag.refl _ _) (Nat.le_refl _) (fun _ => hS)
/-! ### Plans that part: two operations that call or make may come up, in either order. -/
inductive Plan where
  | done
  | step (s : Step) (r : Plan)
  | two (i : Nat) (p : Plan) (j : Nat) (q : Plan)
def Plan.len : Plan → Nat
  | .done => 0
  | .step _ r => r.len + 1
  | .two _ p _ _ => p.len + 1
def Step.num : Step → Nat
  | .any i => i
  | .load i => i
  | .one i => i
  | .last i => i
def stepOk (ops : Array Oper) (ds : List Nat) (l : Array Bool) : Step → Bool
  | .any i => anyB .any ops l (l.setIfInBounds i true) i
  | .load i => takeB .any ops ds l (l.setIfInBounds i true) i && ds.all (fun d => !l.getD d false)
  | .one i => readyB .any ops l (l.setIfInBounds i true) i && !ds.contains i && ds.all (fun d => !l.getD d false)
  | .last i => readyB .any ops l (l.setIfInBounds i true) i && ds.contains i
def planOkT (ops : Array Oper) (ds : List Nat) : Plan → Array Bool → Bool
  | .done, l => Region.ready .any ops l == []
  | .step s r, l => stepOk ops ds l s && planOkT ops ds r (l.setIfInBounds s.num true)
  | .two i p j q, l => (Region.ready .any ops l == [i, j]) && !ds.contains i && !ds.contains j && ds.all (fun d => !l.getD d false) && (p.len == q.len) && planOkT ops ds p (l.setIfInBounds i true) && planOkT ops ds q (l.setIfInBounds j true)
def planKT (P : Program) (tt : List (Option TI)) (sz : Nat) (ops : List Oper) (hpS : List (Nat × SObj)) (fxS : List Fact) : Plan → SS → (SS → Prop) → Prop
  | .done, st, k => k st
  | .step (.any i) r, st, k => nthK ops i fun o => guardK sz ops o st (fun st => match st with
      | ⟨sl, hp, nx, fx⟩ => pureK tt ⟨sl, [], nx, []⟩ o.op fun y => putK sz o.dst y ⟨sl, hp, nx, fx⟩ fun st => planKT P tt sz ops hpS fxS r st k)
      (fun st => putK sz o.dst (.tup []) st fun st => planKT P tt sz ops hpS fxS r st k)
  | .step (.load i) r, st, k => nthK ops i fun o => guardK sz ops o st (fun st => match st with
      | ⟨sl, hp, nx, fx⟩ => pureK tt ⟨sl, hpS, nx, fxS⟩ o.op fun y => putK sz o.dst y ⟨sl, hp, nx, fx⟩ fun st => planKT P tt sz ops hpS fxS r st k)
      (fun st => putK sz o.dst (.tup []) st fun st => planKT P tt sz ops hpS fxS r st k)
  | .step (.one i) r, st, k => nthK ops i fun o => guardK sz ops o st (fun st => opK P tt sz st o fun st => keepsH st.hp hpS ∧ (∀ f, f ∈ fxS → f ∈ st.fx) ∧ planKT P tt sz ops hpS fxS r st k)
      (fun st => putK sz o.dst (.tup []) st fun st => planKT P tt sz ops hpS fxS r st k)
  | .step (.last i) r, st, k => nthK ops i fun o => guardK sz ops o st (fun st => opK P tt sz st o fun st => planKT P tt sz ops hpS fxS r st k)
      (fun st => putK sz o.dst (.tup []) st fun st => planKT P tt sz ops hpS fxS r st k)
  | .two i p j q, st, k => (nthK ops i fun o => guardK sz ops o st (fun st => opK P tt sz st o fun st => keepsH st.hp hpS ∧ (∀ f, f ∈ fxS → f ∈ st.fx) ∧ planKT P tt sz ops hpS fxS p st k)
      (fun st => putK sz o.dst (.tup []) st fun st => planKT P tt sz ops hpS fxS p st k)) ∧
      (nthK ops j fun o => guardK sz ops o st (fun st => opK P tt sz st o fun st => keepsH st.hp hpS ∧ (∀ f, f ∈ fxS → f ∈ st.fx) ∧ planKT P tt sz ops hpS fxS q st k)
      (fun st => putK sz o.dst (.tup []) st fun st => planKT P tt sz ops hpS fxS q st k))
theorem plan_soundT {P : Program} {tt : List (Option TI)} (ht : TOk P tt) {sz : Nat} {ops : List Oper} {hpS : List (Nat × SObj)} {fxS : List Fact} {ds : List Nat} {n : Nat} {ρ0 : Nat → Nat} (hsc : idsH n hpS = true) {B : Bs} {K : Exit → SS → Prop} :
    ∀ (pl : Plan) (l : Array Bool), planOkT ops.toArray ds pl l = true → ∀ {st : SS} {ρ F a w}, planKT P tt sz ops hpS fxS pl st (K .normal) → OkAt B ρ F st sz a w → Ag n ρ0 ρ → n ≤ st.nx →
    ((∀ d ∈ ds, l.getD d false = false) → SH ρ0 hpS fxS w) → wpAnyLast P .any ops.toArray (NoPanic (Lift B sz K)) (SH ρ0 hpS fxS) ds pl.len l a w
  | .done, l, hp, st, ρ, F, a, w, h, ho, hag, hn, hS => done_ hp ⟨st, ρ, F, h, ho⟩
  | .step s r, l, hp, st, ρ, F, a, w, h, ho, hag, hn, hS => by
    have setD : ∀ (i d : Nat), (l.setIfInBounds i true).getD d false = false → l.getD d false = false := fun i d hd => by
      by_cases e : d = i
      · subst e
        by_cases hb : d < l.size
        · rw [Array.getD_eq_getD_getElem?, Array.getElem?_setIfInBounds_self_of_lt hb] at hd; simp at hd
        · rw [Array.getD_eq_getD_getElem?, Array.getElem?_eq_none (Nat.le_of_not_lt hb)]; rfl
      · rw [← getD_set_ne false (Ne.symm e)]; exact hd
    have hr0 := ho.rebase
    cases s with
    | any i =>
      simp only [planOkT, stepOk, Step.num, Bool.and_eq_true] at hp
      obtain ⟨oi, h1, h2⟩ := nthK_elim h
      have hi : ops.toArray[i]? = some oi := by simpa using h1
      have go : ∀ (v : Value) (st' : SS), Yields P ops.toArray oi v a → planKT P tt sz ops hpS fxS r st' (K .normal) → OkAt ⟨st.nx, ρ, w, Own st.hp F, st.fx⟩ ρ F st' sz (a.put oi.dst v) w → wpAnyLast P .any ops.toArray (NoPanic (Lift B sz K)) (SH ρ0 hpS fxS) ds (r.len + 1) l a w :=
        fun v st' hy h3 h4 => pure_ (l.setIfInBounds i true) hi rfl hp.1 (fun _ _ _ hq => hq) hy rfl (plan_soundT ht hsc r _ hp.2 h3 (ho.compose h4) hag (Nat.le_trans hn h4.n0) (fun hd => hS fun d hm => setD i d (hd d hm)))
      rcases guardK_sound (P := P) h2 hr0 with ⟨hw, st', h3, h4⟩ | ⟨hw, st', h3, h4⟩
      · obtain ⟨sl, hp', nx, fx⟩ := st'
        obtain ⟨y, h5, h6⟩ := pureK_elim (P := P) ht h3 rfl
        have hrun : ∀ w, (execOp a.eval oi).run P w = .ok (.value (den ρ y)) w := fun w =>
          h6 ρ (fun _ _ => False) a w ⟨h4.slot ρ (Ag.refl _ _), fun r o hm => by cases hm⟩ (fun f hf => by cases hf)
        have hrob : ∀ ρ', Ag nx ρ ρ' → den ρ' y = den ρ y := by
          intro ρ' hr
          have e1 := h6 ρ' (fun _ _ => False) a w ⟨h4.slot ρ' hr, fun r o hm => by cases hm⟩ (fun f hf => by cases hf)
          rw [hrun w] at e1
          simpa using e1.symm
        obtain ⟨st'', h7, h8⟩ := putK_elim h5 h4 hrob
        exact go _ st'' (.inl ⟨hw, hrun⟩) h7 h8
      · obtain ⟨st'', h7, h8⟩ := putK_elim h3 h4 (fun _ _ => rfl)
        exact go _ st'' (.inr ⟨hw, rfl⟩) h7 h8
    | load i =>
      simp only [planOkT, stepOk, Step.num, Bool.and_eq_true, List.all_eq_true, Bool.not_eq_true'] at hp
      obtain ⟨⟨hp1, hp2⟩, hp3⟩ := hp
      have hS0 := hS hp2
      obtain ⟨oi, h1, h2⟩ := nthK_elim h
      have hi : ops.toArray[i]? = some oi := by simpa using h1
      have go : ∀ (v : Value) (st' : SS), YieldsIf P ops.toArray (SH ρ0 hpS fxS) oi v a → planKT P tt sz ops hpS fxS r st' (K .normal) → OkAt ⟨st.nx, ρ, w, Own st.hp F, st.fx⟩ ρ F st' sz (a.put oi.dst v) w → wpAnyLast P .any ops.toArray (NoPanic (Lift B sz K)) (SH ρ0 hpS fxS) ds (r.len + 1) l a w :=
        fun v st' hy h3 h4 => take_ (l.setIfInBounds i true) hi rfl hp1 (fun _ _ _ hq => hq) hy hS0 rfl (plan_soundT ht hsc r _ hp3 h3 (ho.compose h4) hag (Nat.le_trans hn h4.n0) (fun _ => hS0))
      rcases guardK_sound (P := P) h2 hr0 with ⟨hw, st', h3, h4⟩ | ⟨hw, st', h3, h4⟩
      · obtain ⟨sl, hp', nx, fx⟩ := st'
        obtain ⟨y, h5, h6⟩ := pureK_elim (P := P) ht h3 rfl
        have hle : n ≤ nx := Nat.le_trans hn h4.n0
        have hrun : ∀ ρ', Ag nx ρ ρ' → ∀ w', SH ρ0 hpS fxS w' → (execOp a.eval oi).run P w' = .ok (.value (den ρ' y)) w' := fun ρ' hr w' hs =>
          h6 ρ' _ a w' (hs.base (hag.trans hr hle) hsc (h4.slot ρ' hr)) hs.2
        have hrob : ∀ ρ', Ag nx ρ ρ' → den ρ' y = den ρ y := by
          intro ρ' hr
          have e1 := hrun ρ' hr w hS0
          rw [hrun ρ (Ag.refl _ _) w hS0] at e1
          simpa using e1.symm
        obtain ⟨st'', h7, h8⟩ := putK_elim h5 h4 hrob
        exact go _ st'' (.inl ⟨hw, fun w' hs => hrun ρ (Ag.refl _ _) w' hs⟩) h7 h8
      · obtain ⟨st'', h7, h8⟩ := putK_elim h3 h4 (fun _ _ => rfl)
        exact go _ st'' (.inr ⟨hw, rfl⟩) h7 h8
    | one i =>
      simp only [planOkT, stepOk, Step.num, Bool.and_eq_true, List.all_eq_true, Bool.not_eq_true'] at hp
      obtain ⟨⟨⟨hp1, hp2⟩, hp4⟩, hp3⟩ := hp
      have hds : i ∉ ds := by simpa using hp2
      obtain ⟨oi, h1, h2⟩ := nthK_elim h
      have hi : ops.toArray[i]? = some oi := by simpa using h1
      refine one_ (l.setIfInBounds i true) hi rfl hp1 hds fun K' hK' => ?_
      have hK : ∀ a' w', SH ρ0 hpS fxS w' → (SH ρ0 hpS fxS w' → wpAnyLast P .any ops.toArray (NoPanic (Lift B sz K)) (SH ρ0 hpS fxS) ds r.len (l.setIfInBounds i true) a' w') → K' a' w' := hK'
      rcases guardK_sound (P := P) h2 hr0 with ⟨hw, st', h3, h4⟩ | ⟨hw, st', h3, h4⟩
      · rw [if_pos hw]
        refine Oper.wp_mono (fun a' w' hx => ?_) (opK_sound ht h3 h4)
        obtain ⟨st2, ρ', F', ⟨k1, k2, k3⟩, h5⟩ := hx
        have hag' : Ag n ρ0 ρ' := hag.trans h5.base hn
        have hs : SH ρ0 hpS fxS w' := SH.of_ok h5 hag' hsc (keepsH_mem k1) k2
        exact hK _ _ hs fun _ => plan_soundT ht hsc r _ hp3 k3 (ho.compose h5) hag' (Nat.le_trans hn h5.n0) (fun _ => hs)
      · rw [if_neg (by rw [hw]; simp)]
        obtain ⟨st'', h7, h8⟩ := putK_elim h3 h4 (fun _ _ => rfl)
        have hs : SH ρ0 hpS fxS w := hS hp4
        exact hK _ _ hs fun _ => plan_soundT ht hsc r _ hp3 h7 (ho.compose h8) hag (Nat.le_trans hn h8.n0) (fun _ => hs)
    | last i =>
      simp only [planOkT, stepOk, Step.num, Bool.and_eq_true] at hp
      obtain ⟨⟨hp1, hp2⟩, hp3⟩ := hp
      have hds : i ∈ ds := by simpa using hp2
      obtain ⟨oi, h1, h2⟩ := nthK_elim h
      have hi : ops.toArray[i]? = some oi := by simpa using h1
      refine last_ (l.setIfInBounds i true) hi rfl hp1 hds fun K' hK' => ?_
      have hK : ∀ a' w', wpAnyLast P .any ops.toArray (NoPanic (Lift B sz K)) (SH ρ0 hpS fxS) ds r.len (l.setIfInBounds i true) a' w' → K' a' w' := hK'
      have hlt : i < l.size := by
        simp only [readyB, Bool.and_eq_true, beq_iff_eq] at hp1
        have hm : i ∈ Region.ready .any ops.toArray l := by rw [hp1.1]; simp
        have h5 := (mem_ready.1 hm).1
        refine Nat.lt_of_not_le fun hle => ?_
        rw [Array.getD_eq_getD_getElem?, Array.getElem?_eq_none hle] at h5
        simp at h5
      have hno : ∀ w', (∀ d ∈ ds, (l.setIfInBounds i true).getD d false = false) → SH ρ0 hpS fxS w' := fun w' hd => by
        have := hd i hds
        rw [Array.getD_eq_getD_getElem?, Array.getElem?_setIfInBounds_self_of_lt hlt] at this
        simp at this
      rcases guardK_sound (P := P) h2 hr0 with ⟨hw, st', h3, h4⟩ | ⟨hw, st', h3, h4⟩
      · rw [if_pos hw]
        refine Oper.wp_mono (fun a' w' hx => ?_) (opK_sound ht h3 h4)
        obtain ⟨st2, ρ', F', k3, h5⟩ := hx
        exact hK _ _ (plan_soundT ht hsc r _ hp3 k3 (ho.compose h5) (hag.trans h5.base hn) (Nat.le_trans hn h5.n0) (hno w'))
      · rw [if_neg (by rw [hw]; simp)]
        obtain ⟨st'', h7, h8⟩ := putK_elim h3 h4 (fun _ _ => rfl)
        exact hK _ _ (plan_soundT ht hsc r _ hp3 h7 (ho.compose h8) hag (Nat.le_trans hn h8.n0) (hno w))
  | .two i p j q, l, hp, st, ρ, F, a, w, h, ho, hag, hn, hS => by
    have hr0 := ho.rebase
    simp only [planOkT, Bool.and_eq_true, List.all_eq_true, Bool.not_eq_true', beq_iff_eq] at hp
    obtain ⟨⟨⟨⟨⟨⟨hp1, hdi⟩, hdj⟩, hp2⟩, hlen⟩, hpi⟩, hpj⟩ := hp
    have hdi : i ∉ ds := by simpa using hdi
    have hdj : j ∉ ds := by simpa using hdj
    obtain ⟨hki, hkj⟩ := h
    obtain ⟨oi, h1, h2⟩ := nthK_elim hki
    obtain ⟨oj, h1j, h2j⟩ := nthK_elim hkj
    have hi : ops.toArray[i]? = some oi := by simpa using h1
    have hj : ops.toArray[j]? = some oj := by simpa using h1j
    have side : ∀ (i : Nat) (oi : Oper) (p : Plan) (n1 : Nat), n1 = p.len → planOkT ops.toArray ds p (l.setIfInBounds i true) = true →
        guardK sz ops oi st (fun st => opK P tt sz st oi fun st => keepsH st.hp hpS ∧ (∀ f, f ∈ fxS → f ∈ st.fx) ∧ planKT P tt sz ops hpS fxS p st (K .normal)) (fun st => putK sz oi.dst (.tup []) st fun st => planKT P tt sz ops hpS fxS p st (K .normal)) →
        (∀ (l : Array Bool), planOkT ops.toArray ds p l = true → ∀ {st : SS} {ρ F a w}, planKT P tt sz ops hpS fxS p st (K .normal) → OkAt B ρ F st sz a w → Ag n ρ0 ρ → n ≤ st.nx →
          ((∀ d ∈ ds, l.getD d false = false) → SH ρ0 hpS fxS w) → wpAnyLast P .any ops.toArray (NoPanic (Lift B sz K)) (SH ρ0 hpS fxS) ds p.len l a w) →
        ∀ K' : Act → World → Prop, Shut (∀ a' w', SH ρ0 hpS fxS w' → (SH ρ0 hpS fxS w' → wpAnyLast P .any ops.toArray (NoPanic (Lift B sz K)) (SH ρ0 hpS fxS) ds n1 (l.setIfInBounds i true) a' w') → K' a' w') →
          if Region.wanted oi (yielded ops.toArray a.tmps) = true then Oper.wp P oi a w K' (NoPanic (Lift B sz K)) else K' (a.put oi.dst undef) w := by
      intro i oi p n1 e1 hp3 h2 ih K' hK'
      subst e1
      have hK : ∀ a' w', SH ρ0 hpS fxS w' → (SH ρ0 hpS fxS w' → wpAnyLast P .any ops.toArray (NoPanic (Lift B sz K)) (SH ρ0 hpS fxS) ds p.len (l.setIfInBounds i true) a' w') → K' a' w' := hK'
      rcases guardK_sound (P := P) h2 hr0 with ⟨hw, st', h3, h4⟩ | ⟨hw, st', h3, h4⟩
      · rw [if_pos hw]
        refine Oper.wp_mono (fun a' w' hx => ?_) (opK_sound ht h3 h4)
        obtain ⟨st2, ρ', F', ⟨k1, k2, k3⟩, h5⟩ := hx
        have hag' : Ag n ρ0 ρ' := hag.trans h5.base hn
        have hs : SH ρ0 hpS fxS w' := SH.of_ok h5 hag' hsc (keepsH_mem k1) k2
        exact hK _ _ hs fun _ => ih _ hp3 k3 (ho.compose h5) hag' (Nat.le_trans hn h5.n0) (fun _ => hs)
      · rw [if_neg (by rw [hw]; simp)]
        obtain ⟨st'', h7, h8⟩ := putK_elim h3 h4 (fun _ _ => rfl)
        have hs : SH ρ0 hpS fxS w := hS hp2
        exact hK _ _ hs fun _ => ih _ hp3 h7 (ho.compose h8) hag (Nat.le_trans hn h8.n0) (fun _ => hs)
    refine two_ (l.setIfInBounds i true) (l.setIfInBounds j true) hi hj rfl rfl (by simp [hp1]) hdi hdj ?_ ?_
    · exact side i oi p p.len rfl hpi h2 (plan_soundT ht hsc p)
    · exact side j oj q p.len hlen hpj h2j (plan_soundT ht hsc q)
theorem draw_tree {P : Program} {tt : List (Option TI)} (ht : TOk P tt) (hm : P.follows .mixedOrders = true) {sz n0 id : Nat} {ops : List Oper} {st : SS} {K : Exit → SS → Prop} (pl : Plan) (ds : List Nat) (hpS : List (Nat × SObj))
    (hok : planOkT ops.toArray ds pl (Array.replicate ops.length false) = true) (hlen : pl.len = ops.length) (hsc : idsH st.nx hpS = true) (hk : keepsH st.hp hpS) (h : planKT P tt sz ops hpS st.fx pl st (K .normal)) : DrawVC P sz n0 id ops st K := by
  refine ⟨fun B ρ F a w hn ho => wp_region_noPanic ?_⟩
  have hd := ho.drew
  have hS : SH ρ hpS st.fx w.drew := SH.of_ok hd (Ag.refl _ _) hsc (keepsH_mem hk) (fun f hf => hf)
  refine start_ (ds := ds) (Array.replicate ops.length false) hm (by simp) rfl hS fun _ => ?_
  rw [← hlen]
  exact plan_soundT ht hsc pl _ (by rw [hlen]; exact hok) h hd (Ag.refl _ _) (Nat.le_refl _) (fun _ => hS)
/-- What is to be shown at an end: nothing looks into it. -/
inductive Done (p : Prop) : Prop where
  | mk : p → Done p
theorem Done.out {p : Prop} : Done p → p
  | .mk h => h
end Go.Proofs.Ytekgjjanikicnaa.Sx
