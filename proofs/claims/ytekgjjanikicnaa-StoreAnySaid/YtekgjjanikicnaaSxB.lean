/- A symbolic executor for the model's code, part 11: code, loops, regions that draw their order, functions, calls with more around. -/
import Derived.Test.YtekgjjanikicnaaSxA
namespace Go.Proofs.Ytekgjjanikicnaa.Sx
open Go
set_option linter.unusedVariables false
set_option linter.unusedSimpArgs false

/-! ### Code -/
structure LoopVC (P : Program) (sz n0 : Nat) (body : Code) (st : SS) (K : Exit → SS → Prop) : Prop where
  out : ∀ (B : Bs) ρ F a w, B.n0 = n0 → OkAt B ρ F st sz a w → (Code.loop body).wp P (Lift B sz K) a w
structure DrawVC (P : Program) (sz n0 : Nat) (id : Nat) (ops : List Oper) (st : SS) (K : Exit → SS → Prop) : Prop where
  out : ∀ (B : Bs) ρ F a w, B.n0 = n0 → OkAt B ρ F st sz a w → (Code.region id ops.toArray true).wp P (Lift B sz K) a w
def knownK (sz : Nat) (c : Operand) (t : Bool) (st : SS) (k : SS → Prop) : Prop :=
  match c with
  | .tmp d => putK sz (some d) (.b t) st k
  | _ => k st
def codeK (P : Program) (tt : List (Option TI)) (sz n0 : Nat) (c : Code) : SS → (Exit → SS → Prop) → Prop :=
  Code.rec (motive := fun _ => SS → (Exit → SS → Prop) → Prop)
    (fun st K => K .normal st)
    (fun id ops draw st K => match ops with
      | ⟨ops⟩ => (match draw with
        | false => opsK P tt sz ops ops st (K .normal)
        | true => DrawVC P sz n0 id ops st K))
    (fun _ _ ia ib st K => ia st fun e st => match e with
      | .normal => ib st K
      | e => K e st)
    (fun c _ _ ia ib st K => evK st c fun v => match v with
      | .b true => ia st K
      | .b false => ib st K
      | .v (.bool t) => (t = true → knownK sz c true st fun st => ia st K) ∧ (t = false → knownK sz c false st fun st => ib st K)
      | _ => False)
    (fun id _ ia st K => ia st fun e st => match e with
      | .exit j => (match Nat.beq j id with | true => K .normal st | false => K (.exit j) st)
      | e => K e st)
    (fun body _ st K => LoopVC P sz n0 body st K)
    (fun _ _ _ _ _ _ _ _ => False)
    (fun id st K => K (.exit id) st)
    (fun _ _ _ _ => False)
    (fun _ _ _ => False)
    (fun _ _ _ => False)
    (fun st K => K .ret st)
    (fun _ _ _ => False) c
theorem Lift.imp {B : Bs} {sz : Nat} {K K' : Exit → SS → Prop} {e e' : Exit} {a : Act} {w : World} (h : Lift B sz K e a w) (hk : ∀ st, K e st → K' e' st) : Lift B sz K' e' a w := by
  obtain ⟨st, ρ, F, h1, h2⟩ := h; exact ⟨st, ρ, F, hk _ h1, h2⟩
theorem codeK_sound {P : Program} {tt : List (Option TI)} (ht : TOk P tt) {sz n0 : Nat} : ∀ {c : Code} {st : SS} {K : Exit → SS → Prop}, codeK P tt sz n0 c st K → ∀ {B : Bs} {ρ F a w}, B.n0 = n0 → OkAt B ρ F st sz a w → c.wp P (Lift B sz K) a w
  | .skip, st, K, h, B, ρ, F, a, w, hn, ho => wp_skip ⟨st, ρ, F, h, ho⟩
  | .region id ⟨ops⟩ draw, st, K, h, B, ρ, F, a, w, hn, ho => by
    cases draw with
    | false => exact wp_region_lit (l := ops) (opsK_sound ht (K := K) (show opsK P tt sz ops ops st (K .normal) from h) ho)
    | true => exact (show DrawVC P sz n0 id ops st K from h).out B ρ F a w hn ho
  | .seq x y, st, K, h, B, ρ, F, a, w, hn, ho => by
    refine wp_seq (wp_mono (codeK_sound ht (c := x) h hn ho) fun e a' w' hq => ?_)
    obtain ⟨st', ρ', F', h1, h2⟩ := hq
    cases e with
    | normal => exact codeK_sound ht (c := y) h1 hn h2
    | exit id => exact ⟨st', ρ', F', h1, h2⟩
    | goto l => exact ⟨st', ρ', F', h1, h2⟩
    | ret => exact ⟨st', ρ', F', h1, h2⟩
    | panic c => exact ⟨st', ρ', F', h1, h2⟩
    | outgrown => exact ⟨st', ρ', F', h1, h2⟩
  | .cond c x y, st, K, h, B, ρ, F, a, w, hn, ho => by
    obtain ⟨v, h1, h2⟩ := evK_elim h
    have hv := h2 ρ F a w (ho.toBase (Ag.refl _ _))
    have key : ∀ (t : Bool) (k : SS → Prop), den ρ v = .bool t → knownK sz c t st k → ∃ st', k st' ∧ OkAt B ρ F st' sz a w := by
      intro t k hd hk
      unfold knownK at hk
      split at hk
      · rename_i d
        obtain ⟨st', h5, h6⟩ := putK_elim hk ho (fun _ _ => rfl)
        rw [hd] at hv
        have hd' : a.tmps[d]? = some (.bool t) := by
          simp only [Act.eval, Array.getD_eq_getD_getElem?] at hv
          cases hg : a.tmps[d]? with
          | none => rw [hg] at hv; simp [undef] at hv
          | some z => rw [hg] at hv; simp at hv; rw [hv]
        rw [Act.put_same (by rw [hd']; rfl)] at h6
        exact ⟨st', h5, h6⟩
      · exact ⟨st, hk, ho⟩
    split at h1
    · exact wp_cond_true (by rw [hv]; rfl) (codeK_sound ht (c := x) h1 hn ho)
    · exact wp_cond_false (by rw [hv]; rfl) (codeK_sound ht (c := y) h1 hn ho)
    · rename_i t
      cases t with
      | true =>
        obtain ⟨st', h5, h6⟩ := key true _ rfl (h1.1 rfl)
        exact wp_cond_true (by rw [hv]; rfl) (codeK_sound ht (c := x) h5 hn h6)
      | false =>
        obtain ⟨st', h5, h6⟩ := key false _ rfl (h1.2 rfl)
        exact wp_cond_false (by rw [hv]; rfl) (codeK_sound ht (c := y) h5 hn h6)
    · exact h1.elim
  | .block id x, st, K, h, B, ρ, F, a, w, hn, ho => by
    refine wp_block (wp_mono (codeK_sound ht (c := x) h hn ho) fun e a' w' hq => ?_)
    obtain ⟨st', ρ', F', h1, h2⟩ := hq
    cases e with
    | exit j =>
      simp only at h1
      show if j = id then Lift B sz K Exit.normal a' w' else Lift B sz K (Exit.exit j) a' w'
      split at h1
      · rename_i hb
        rw [if_pos (Nat.eq_of_beq_eq_true hb)]
        exact ⟨st', ρ', F', h1, h2⟩
      · rename_i hb
        rw [if_neg (fun e : j = id => by rw [e] at hb; simp at hb)]
        exact ⟨st', ρ', F', h1, h2⟩
    | normal => exact ⟨st', ρ', F', h1, h2⟩
    | goto l => exact ⟨st', ρ', F', h1, h2⟩
    | ret => exact ⟨st', ρ', F', h1, h2⟩
    | panic c => exact ⟨st', ρ', F', h1, h2⟩
    | outgrown => exact ⟨st', ρ', F', h1, h2⟩
  | .loop body, st, K, h, B, ρ, F, a, w, hn, ho => (show LoopVC P sz n0 body st K from h).out B ρ F a w hn ho
  | .exit id, st, K, h, B, ρ, F, a, w, hn, ho => wp_exit ⟨st, ρ, F, h, ho⟩
  | .ret, st, K, h, B, ρ, F, a, w, hn, ho => wp_ret ⟨st, ρ, F, h, ho⟩
  | .rangeFunc .., st, K, h, B, ρ, F, a, w, hn, ho => (show False from h).elim
  | .scope _, st, K, h, B, ρ, F, a, w, hn, ho => (show False from h).elim
  | .label _, st, K, h, B, ρ, F, a, w, hn, ho => (show False from h).elim
  | .goto _, st, K, h, B, ρ, F, a, w, hn, ho => (show False from h).elim
  | .refuse _, st, K, h, B, ρ, F, a, w, hn, ho => (show False from h).elim

/-! ### One state within another -/
/-- Regions of the second state are those of the first, renamed. -/
def sg (σ : List Nat) (i : Nat) : Nat := σ.getD i 0
def AgS (n : Nat) (σ : List Nat) (ρ ρ'' : Nat → Nat) : Prop := ∀ i, i < n → ρ'' i = ρ (sg σ i)
def SEq (n : Nat) (σ : List Nat) (x y : SV) : Prop := ∀ ρ ρ'', AgS n σ ρ ρ'' → den ρ'' x = den ρ y
def OSub (n : Nat) (σ : List Nat) (o' o : SObj) : Prop := ∀ ρ ρ'', AgS n σ ρ ρ'' → ∀ w b F, ObjOk ρ o w b F → ObjOk ρ'' o' w b F
theorem SEq.v (n : Nat) (σ : List Nat) (x : Value) : SEq n σ (.v x) (.v x) := fun _ _ _ => rfl
theorem SEq.eq {n : Nat} {σ : List Nat} {x y : Value} (h : x = y) : SEq n σ (.v x) (.v y) := fun _ _ _ => h
theorem OSub.row {n : Nat} {σ : List Nat} {xs ys : List Value} {T : TypeId} (h : xs = ys) : OSub n σ (.row xs T) (.row ys T) := fun _ _ _ _ _ _ ho => by subst h; exact ho
theorem OSub.abs {n : Nat} {σ : List Nat} {A : AR} : OSub n σ (.abs A) (.abs A) := fun _ _ _ _ _ _ ho => ho
def slotsSub (n : Nat) (σ : List Nat) (sl : List (Nat × SV)) : List (Nat × SV) → Prop
  | [] => True
  | (t, x) :: r => getK t sl (fun y => SEq n σ x y) ∧ slotsSub n σ sl r
def heapSub (n : Nat) (σ : List Nat) (hp : List (Nat × SObj)) : List (Nat × SObj) → Prop
  | [] => True
  | (r, o') :: l => objK (sg σ r) hp (fun o => OSub n σ o' o) ∧ heapSub n σ hp l
/-- The names' list: within bounds, one to one, the first n0 as they are. -/
def namesOk (n0 nx nx' : Nat) (σ : List Nat) (keys : List Nat) : Bool :=
  Nat.ble n0 nx' && (List.range n0).all (fun i => Nat.beq (sg σ i) i) && keys.all (fun r => Nat.blt r nx' && Nat.blt (sg σ r) nx) && keys.all (fun r => keys.all fun r' => Nat.beq r r' || !Nat.beq (sg σ r) (sg σ r'))
def Sub (n0 : Nat) (σ : List Nat) (st st' : SS) : Prop :=
  namesOk n0 st.nx st'.nx σ (st'.hp.map (·.1)) = true ∧ slotsSub st'.nx σ st.sl st'.sl ∧ heapSub st'.nx σ st.hp st'.hp ∧ (∀ f, f ∈ st'.fx → f ∈ st.fx)
theorem slotsSub_mem {n : Nat} {σ : List Nat} {sl : List (Nat × SV)} : ∀ {l : List (Nat × SV)}, slotsSub n σ sl l → ∀ t x, (t, x) ∈ l → ∃ y, (t, y) ∈ sl ∧ SEq n σ x y
  | [], _, t, x, hm => by cases hm
  | (t', x') :: r, h, t, x, hm => by
    rcases List.mem_cons.1 hm with e | hm
    · cases e; exact getK_elim h.1
    · exact slotsSub_mem h.2 t x hm
theorem heapSub_mem {n : Nat} {σ : List Nat} {hp : List (Nat × SObj)} : ∀ {l : List (Nat × SObj)}, heapSub n σ hp l → ∀ r o', (r, o') ∈ l → ∃ o, (sg σ r, o) ∈ hp ∧ OSub n σ o' o
  | [], _, r, o', hm => by cases hm
  | (r', o'') :: l, h, r, o', hm => by
    rcases List.mem_cons.1 hm with e | hm
    · cases e; exact objK_elim h.1
    · exact heapSub_mem h.2 r o' hm
theorem namesOk_spec {n0 nx nx' : Nat} {σ keys : List Nat} (h : namesOk n0 nx nx' σ keys = true) : n0 ≤ nx' ∧ (∀ i, i < n0 → sg σ i = i) ∧ (∀ r ∈ keys, r < nx' ∧ sg σ r < nx) ∧ (∀ r ∈ keys, ∀ r' ∈ keys, r ≠ r' → sg σ r ≠ sg σ r') := by
  simp only [namesOk, Bool.and_eq_true, List.all_eq_true, List.mem_range, Bool.or_eq_true, Bool.not_eq_true', Nat.beq_eq, Nat.blt_eq] at h
  obtain ⟨⟨⟨h1, h2⟩, h3⟩, h4⟩ := h
  refine ⟨Nat.le_of_ble_eq_true h1, h2, h3, fun r hr r' hr' hne he => ?_⟩
  rcases h4 r hr r' hr' with h5 | h5
  · exact hne h5
  · rw [he] at h5; simp at h5
theorem Sub.ok {n0 : Nat} {σ : List Nat} {st st' : SS} (h : Sub n0 σ st st') {B : Bs} {ρ F sz a w} (hn : B.n0 = n0) (ho : OkAt B ρ F st sz a w) : ∃ ρ' F', OkAt B ρ' F' st' sz a w := by
  obtain ⟨h1, h2, h3, h4⟩ := h
  obtain ⟨k1, k2, k3, k4⟩ := namesOk_spec h1
  have mk : ∀ r o, (r, o) ∈ st'.hp → r ∈ st'.hp.map (·.1) := fun r o hm => List.mem_map.2 ⟨_, hm, rfl⟩
  have ownS : ∀ k, Own st'.hp (fun r => F (sg σ r)) k → Own st.hp F k := by
    rintro k ⟨r, o', hm, hF⟩
    obtain ⟨o, h5, _⟩ := heapSub_mem h3 r o' hm
    exact ⟨_, o, h5, hF⟩
  refine ⟨fun r => ρ (sg σ r), fun r => F (sg σ r), ?_, ⟨?_, ?_, ?_, ?_, ?_⟩, ho.size, ?_, by omega, ho.keeps, fun k hk => ho.own k (ownS k hk), fun f hf => ho.facts f (h4 f hf), ho.defers⟩
  · intro ρ'' hr t x hm
    obtain ⟨y, h5, h6⟩ := slotsSub_mem h2 t x hm
    rw [ho.slot ρ (Ag.refl _ _) t y h5, h6 ρ ρ'' (fun i hi => hr i hi)]
  · intro ρ'' hr r o' hm
    obtain ⟨o, h5, h6⟩ := heapSub_mem h3 r o' hm
    have := h6 ρ ρ'' (fun i hi => hr i hi) w (ρ (sg σ r)) (F (sg σ r)) (ho.heap.obj ρ (Ag.refl _ _) _ _ h5)
    rw [hr r (k3 r (mk r o' hm)).1]
    exact this
  · exact fun r o' hm => (k3 r (mk r o' hm)).1
  · intro r o1 r' o2 hm hm' hne
    obtain ⟨o, h5, _⟩ := heapSub_mem h3 r o1 hm
    obtain ⟨o', h5', _⟩ := heapSub_mem h3 r' o2 hm'
    exact ho.heap.shape.dis _ o _ o' h5 h5' (k4 r (mk r o1 hm) r' (mk r' o2 hm') hne)
  · intro r o' hm
    obtain ⟨o, h5, _⟩ := heapSub_mem h3 r o' hm
    exact ho.heap.shape.bnd _ o h5
  · intro f hf
    have := ho.heap.shape.fact f (h4 f hf)
    exact ⟨this.1, fun k hk => ⟨fun hu => (this.2 k hk).1 (ownS k hu), (this.2 k hk).2⟩⟩
  · intro r hr
    show ρ (sg σ r) = _
    rw [k2 r (by omega)]; exact ho.base r hr
/-- A loop by an invariant over whatever goes with it, and a number that falls. -/
theorem loop_rule {P : Program} {tt : List (Option TI)} (ht : TOk P tt) {sz n0 : Nat} {body : Code} {st : SS} {K : Exit → SS → Prop} {α : Type} (Inv : α → SS) (μ : α → Nat) (x0 : α) (σ : List Nat) (h0 : Sub n0 σ st (Inv x0))
    (hb : ∀ x, codeK P tt sz n0 body (Inv x) fun e st => match e with | .normal => ∃ x' σ, μ x' < μ x ∧ Sub n0 σ st (Inv x') | e => K e st) : LoopVC P sz n0 body st K := by
  refine ⟨fun B ρ F a w hn ho => ?_⟩
  obtain ⟨ρ1, F1, ho1⟩ := h0.ok hn ho
  refine wp_loop_ghost (fun n a w => ∃ x ρ F, μ x = n ∧ OkAt B ρ F (Inv x) sz a w) (μ x0) ⟨x0, ρ1, F1, rfl, ho1⟩ ?_
  rintro n a w ⟨x, ρ, F, rfl, ho⟩
  refine wp_mono (codeK_sound ht (hb x) hn ho) fun e a' w' hq => ?_
  obtain ⟨st', ρ', F', h1, h2⟩ := hq
  cases e with
  | normal =>
    obtain ⟨x', σ', h3, h4⟩ := h1
    obtain ⟨ρ2, F2, h5⟩ := h4.ok hn h2
    exact ⟨μ x', h3, x', ρ2, F2, rfl, h5⟩
  | exit id => exact ⟨st', ρ', F', h1, h2⟩
  | goto l => exact ⟨st', ρ', F', h1, h2⟩
  | ret => exact ⟨st', ρ', F', h1, h2⟩
  | panic c => exact ⟨st', ρ', F', h1, h2⟩
  | outgrown => exact ⟨st', ρ', F', h1, h2⟩

/-! ### A function -/
def resOneK (tt : List (Option TI)) (st : SS) (r : ResultVar) (k : SV → Prop) : Prop :=
  match r with
  | .tmp t => getK t st.sl k
  | .cell a T => getK a st.sl fun p => loadK tt st T p k
def resLK (tt : List (Option TI)) (st : SS) : List ResultVar → (List SV → Prop) → Prop
  | [], k => k []
  | r :: l, k => resOneK tt st r fun y => resLK tt st l fun ys => k (y :: ys)
def resK (tt : List (Option TI)) (st : SS) (rs : List ResultVar) (k : SV → Prop) : Prop :=
  resLK tt st rs fun ys => match ys with
    | [y] => k y
    | ys => k (.tup ys)
def resSem (tmps : Array Value) : ResultVar → Sem Value
  | .tmp t => pure (tmps.getD t undef)
  | .cell c t => do loadVar t (← asAddr (tmps.getD c undef))
theorem resOneK_elim {P : Program} {tt : List (Option TI)} (ht : TOk P tt) {st : SS} {r : ResultVar} {k : SV → Prop} (h : resOneK tt st r k) :
    ∃ y, k y ∧ ∀ ρ F a w, Base ρ F st a w → FOk st.fx w → (resSem a.tmps r).run P w = .ok (den ρ y) w := by
  unfold resOneK at h
  split at h
  · obtain ⟨y, h1, h2⟩ := getK_elim h
    exact ⟨y, h2, fun ρ F a w hb hs => by simp [resSem, hb.slot _ _ h1]⟩
  · obtain ⟨p, h1, h2⟩ := getK_elim h
    obtain ⟨y, h3, h4⟩ := loadK_elim (P := P) ht h2
    refine ⟨y, h3, fun ρ F a w hb hs => ?_⟩
    have h5 := h4 ρ F a w hb hs
    simp only [resSem, Sem.run_bind, Array.getD_eq_getD_getElem?, hb.slot _ _ h1, Option.getD_some]
    simp only [Instr.loadAt, Sem.run_bind] at h5
    have e : (Instr.sureAddr (den ρ p)).run P w = (asAddr (den ρ p)).run P w ∨ ∃ s, (Instr.sureAddr (den ρ p)).run P w = .halt s w := by
      cases den ρ p with
      | pointer ad => cases ad with
        | none => exact .inr ⟨_, rfl⟩
        | some ad => exact .inl rfl
      | _ => exact .inr ⟨_, rfl⟩
    rcases e with e | ⟨s, e⟩
    · rw [← e]; exact h5
    · rw [e] at h5; simp at h5
theorem resLK_elim {P : Program} {tt : List (Option TI)} (ht : TOk P tt) {st : SS} : ∀ {rs : List ResultVar} {k : List SV → Prop}, resLK tt st rs k →
    ∃ ys, k ys ∧ ∀ ρ F a w, Base ρ F st a w → FOk st.fx w → (rs.mapM (resSem a.tmps)).run P w = .ok (denL ρ ys) w
  | [], k, h => ⟨[], h, fun ρ F a w hb hs => rfl⟩
  | r :: l, k, h => by
    obtain ⟨y, h1, h2⟩ := resOneK_elim (P := P) ht h
    obtain ⟨ys, h3, h4⟩ := resLK_elim ht h1
    refine ⟨y :: ys, h3, fun ρ F a w hb hs => ?_⟩
    simp only [List.mapM_cons, Sem.run_bind, h2 ρ F a w hb hs, Result.andThen_ok, h4 ρ F a w hb hs, Sem.run_pure, denL_cons]
theorem resK_elim {P : Program} {tt : List (Option TI)} (ht : TOk P tt) {st : SS} {fn : Func} {k : SV → Prop} (h : resK tt st fn.results.toList k) :
    ∃ y, k y ∧ ∀ ρ F a w, Base ρ F st a w → FOk st.fx w → (results fn a.tmps).run P w = .ok (den ρ y) w := by
  obtain ⟨ys, h1, h2⟩ := resLK_elim (P := P) ht h
  have hm : ∀ ρ F a w, Base ρ F st a w → FOk st.fx w → (fn.results.mapM (resSem a.tmps)).run P w = .ok (denL ρ ys).toArray w := by
    intro ρ F a w hb hs
    rw [← Array.toArray_toList (xs := fn.results), List.mapM_toArray]
    simp only [Sem.run_map, h2 ρ F a w hb hs, Result.andThen_ok]
  split at h1
  · rename_i y
    refine ⟨y, h1, fun ρ F a w hb hs => ?_⟩
    unfold results
    simp only [Sem.run_bind]
    erw [hm ρ F a w hb hs]
    simp
  · rename_i hne
    refine ⟨_, h1, fun ρ F a w hb hs => ?_⟩
    unfold results
    simp only [Sem.run_bind]
    erw [hm ρ F a w hb hs]
    have hl : ys.length ≠ 1 := fun hl => by
      obtain ⟨y, hy⟩ := List.length_eq_one_iff.1 hl
      exact hne y hy
    simp [hl, den]
def numb : Nat → List SV → List (Nat × SV)
  | _, [] => []
  | n, x :: r => (n, x) :: numb (n + 1) r
theorem numb_mem : ∀ {l : List SV} {n t : Nat} {x : SV}, (t, x) ∈ numb n l → n ≤ t ∧ l[t - n]? = some x
  | [], n, t, x, h => by cases h
  | y :: r, n, t, x, h => by
    rcases List.mem_cons.1 h with e | h
    · cases e; exact ⟨Nat.le_refl _, by simp⟩
    · obtain ⟨h1, h2⟩ := numb_mem h
      refine ⟨by omega, ?_⟩
      have e : t - n = (t - (n + 1)) + 1 := by omega
      rw [e]; simpa using h2
def finK (tt : List (Option TI)) (st : SS) (rs : List ResultVar) (post : SV → List (Nat × SObj) → Nat → List Fact → Prop) : Prop :=
  match st with
  | ⟨sl, hp, nx, fx⟩ => resK tt ⟨sl, hp, nx, fx⟩ rs fun y => post y hp nx fx
theorem Tri.of_code {P : Program} {tt : List (Option TI)} (ht : TOk P tt) {n : Nat} {fn : Func} {c : Code} {sz : Nat} {sl : List (Nat × SV)} {rs : List ResultVar} (hf : P.funcs[n]? = some fn) (hb : fn.body = some c) (hsz : fn.ntmps = sz) (hrs : fn.results.toList = rs)
    (hname : (fn.name == "runtime.NumGoroutine") = false) {args : List SV} (hsl : numb 0 args = sl) (hle : args.length ≤ sz) {hp : List (Nat × SObj)} {m : Nat} {fx : List Fact} {post : SV → List (Nat × SObj) → Nat → List Fact → Prop}
    (h : codeK P tt sz m c ⟨sl, hp, m, fx⟩ fun e st => match e with
      | .normal => finK tt st rs post
      | .ret => finK tt st rs post
      | _ => False) : Tri P n args hp m fx post := by
  subst hsl hsz hrs
  refine ⟨trivial, fun ρ F w hh hr => .inl ⟨?_, ?_⟩⟩
  · have hn : fn.name ≠ "runtime.NumGoroutine" := fun e => by rw [e] at hname; simp at hname
    simp [callFunc, hf, hn, hb]
  · refine calls_of_wp hf hb ?_
    have ho : OkAt ⟨m, ρ, w, Own hp F, fx⟩ ρ F ⟨numb 0 args, hp, m, fx⟩ fn.ntmps { tmps := (denL ρ args).toArray ++ Array.replicate (fn.ntmps - (denL ρ args).toArray.size) undef, defers := [] } w := by
      refine ⟨fun ρ' hr' t x hm => ?_, hh, ?_, Ag.refl _ _, Nat.le_refl _, Keeps.refl _ _, fun k hk => .inl hk, fun f hf => .inl hf, rfl⟩
      · obtain ⟨_, h1⟩ := numb_mem hm
        simp only [Nat.sub_zero] at h1
        have h2 := hr ρ' hr'
        have h3 : (denL ρ args)[t]? = some (den ρ' x) := by rw [← h2, denL_get, h1]; rfl
        have h4 := List.getElem?_eq_some_iff.1 h3
        obtain ⟨h5, _⟩ := h4
        rw [Array.getElem?_append_left (by simpa using h5)]
        simpa using h3
      · simp; omega
    refine wp_mono (codeK_sound ht h rfl ho) fun e a' w' hq => ?_
    obtain ⟨st, ρ', F', h1, h2⟩ := hq
    have fin : finK tt st fn.results.toList post → a'.defers = [] ∧ ∃ v, (results fn a'.tmps).run P w' = .ok v w' ∧ ∃ y hp' m' fx' ρ' F', post y hp' m' fx' ∧ Ending.returned v = .returned (den ρ' y) ∧
      (∀ ρ'', Ag m' ρ' ρ'' → den ρ'' y = den ρ' y) ∧ HpOk ρ' F' hp' m' fx' w' ∧ Ag m ρ ρ' ∧ m ≤ m' ∧ Keeps (Own hp F) w w' ∧ (∀ k, Own hp' F' k → Own hp F k ∨ w.heap.size ≤ k) ∧ (∀ f, f ∈ fx' → f ∈ fx ∨ ∀ k, f.G k → Own hp F k ∨ w.heap.size ≤ k) := by
      intro hres
      obtain ⟨y, h3, h4⟩ := resK_elim (P := P) ht hres
      have h5 := h4 ρ' F' a' w' (h2.toBase (Ag.refl _ _)) h2.heap.shape.fok
      refine ⟨h2.defers, _, h5, y, _, _, _, ρ', F', h3, rfl, fun ρ'' hr'' => ?_, h2.heap, h2.base, h2.n0, h2.keeps, h2.own, h2.facts⟩
      have h6 := h4 ρ'' F' a' w' (h2.toBase hr'') h2.heap.shape.fok
      rw [h5] at h6
      simpa using h6.symm
    cases e with
    | normal => exact fin h1
    | ret => exact fin h1
    | exit id => exact (show False from h1).elim
    | goto l => exact (show False from h1).elim
    | panic c => exact (show False from h1).elim
    | outgrown => exact (show False from h1).elim
end Go.Proofs.Ytekgjjanikicnaa.Sx
