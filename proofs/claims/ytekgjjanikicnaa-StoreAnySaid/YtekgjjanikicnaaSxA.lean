/- A symbolic executor for the model's code, part 10: calls by contract, one operation, a list of operations, a function's code. -/
import Derived.Test.YtekgjjanikicnaaSxQ
namespace Go.Proofs.Ytekgjjanikicnaa.Sx
open Go
set_option linter.unusedVariables false
set_option linter.unusedSimpArgs false

/-- A call of function n, however the model runs it: in a frame of its own, or at once. -/
def CallsX (P : Program) (n : Nat) (args : Array Value) (w : World) (R : Ending → World → Prop) : Prop :=
  ((callFunc n args).run P w = .ok (.enter n args) w ∧ Calls P n args w R) ∨ ∃ v w', (callFunc n args).run P w = .ok (.value v) w' ∧ R (.returned v) w'
theorem CallsX.mono {P : Program} {n : Nat} {args : Array Value} {w : World} {R R' : Ending → World → Prop} (h : CallsX P n args w R) (hR : ∀ e w', R e w' → R' e w') : CallsX P n args w R' :=
  h.elim (fun h => .inl ⟨h.1, h.2.mono hR⟩) (fun ⟨v, w', h, hr⟩ => .inr ⟨v, w', h, hR _ _ hr⟩)
theorem CallsX.enters {P : Program} {n : Nat} {args : Array Value} {w : World} {R : Ending → World → Prop} (h : CallsX P n args w R) (hen : (callFunc n args).run P w = .ok (.enter n args) w) : Calls P n args w R :=
  h.elim (fun h => h.2) (fun ⟨v, w', h, _⟩ => by rw [hen] at h; cases h)
/-- What a call of function n is shown to do with the regions hp: whatever else there is stays. -/
structure Tri (P : Program) (n : Nat) (args : List SV) (hp : List (Nat × SObj)) (m : Nat) (fx : List Fact) (post : SV → List (Nat × SObj) → Nat → List Fact → Prop) : Prop where
  enter : True
  run : ∀ ρ F w, HpOk ρ F hp m fx w → (∀ ρ', Ag m ρ ρ' → denL ρ' args = denL ρ args) → CallsX P n (denL ρ args).toArray w (fun e w' => ∃ y hp' m' fx' ρ' F', post y hp' m' fx' ∧ e = .returned (den ρ' y) ∧
    (∀ ρ'', Ag m' ρ' ρ'' → den ρ'' y = den ρ' y) ∧ HpOk ρ' F' hp' m' fx' w' ∧ Ag m ρ ρ' ∧ m ≤ m' ∧ Keeps (Own hp F) w w' ∧ (∀ k, Own hp' F' k → Own hp F k ∨ w.heap.size ≤ k) ∧ (∀ f, f ∈ fx' → f ∈ fx ∨ ∀ k, f.G k → Own hp F k ∨ w.heap.size ≤ k))
theorem Tri.mono {P : Program} {n : Nat} {args : List SV} {hp : List (Nat × SObj)} {m : Nat} {fx : List Fact} {post post' : SV → List (Nat × SObj) → Nat → List Fact → Prop} (h : Tri P n args hp m fx post)
    (hp' : ∀ y h m f, post y h m f → post' y h m f) : Tri P n args hp m fx post' :=
  ⟨h.enter, fun ρ F w h1 h2 => (h.run ρ F w h1 h2).mono fun _ _ ⟨y, a, b, c, d, e, f, g⟩ => ⟨y, a, b, c, d, e, hp' _ _ _ _ f, g⟩⟩
def appL : List SV → List SV → (List SV → Prop) → Prop
  | [], l, k => k l
  | x :: r, l, k => appL r l fun m => k (x :: m)
theorem appL_elim : ∀ {a b : List SV} {k : List SV → Prop}, appL a b k → k (a ++ b)
  | [], b, k, h => h
  | x :: r, b, k, h => by have := appL_elim (a := r) h; simpa using this
def callK (P : Program) (sz : Nat) (st : SS) (dst : Option Tmp) (f : Operand) (args : List Operand) (k : SS → Prop) : Prop :=
  evK st f fun f => match f with
    | .fn (.func n) first cap => evLK st args fun l => appL l cap fun l => appL first l fun l => match st with
      | ⟨sl, hp, nx, fx⟩ => Tri P n l hp nx fx (fun y hp' m' fx' => putK sz dst y ⟨sl, hp', m', fx'⟩ k)
    | _ => False
def stepK (tt : List (Option TI)) (sz : Nat) (st : SS) (o : Oper) (k : SS → Prop) : Prop :=
  match o.op with
  | .alloc T => tyK tt T fun ti => newK (.cells ti.zero T) st fun r st => putK sz o.dst (.p r 0) st k
  | .box T x => evK st x fun x => (match x with
    | .v (.agg a) => (∀ u ∈ a.toList, u.oneCell' = true) ∧ newK (.row a.toList T) st fun r st => putK sz o.dst (.p r 0) st k
    | x => cellsK x fun l => newK (.cells l T) st fun r st => putK sz o.dst (.p r 0) st k)
  | .store T p x => (match o.dst with | none => evK st p fun p => evK st x fun x => storeK tt st T p x k | some _ => False)
  | .buildSlice T len ps => buildSliceK tt st T len ps.toList fun y st => putK sz o.dst y st k
  | .makeSlice T l c => makeSliceK tt st T l c fun y st => putK sz o.dst y st k
  | .convert s d x => evK st x fun x => tyK tt d fun di => (match di.und with
    | .slice _ => (match x with
      | .s r off len cap => rebytesK tt st s d (.s r off len cap) fun y st => putK sz o.dst y st k
      | x => bytesK tt st s d x fun y st => putK sz o.dst y st k)
    | _ => convK tt st s d x fun y => putK sz o.dst y st k)
  | .call { callee := .builtin .append, args := ⟨[s, x]⟩, argTypes := ⟨[T, X]⟩ } => evK st s fun s => evK st x fun x => appendXK tt st T X s x fun y st => putK sz o.dst y st k
  | .call { callee := .builtin .copy, args := ⟨[d, x]⟩, argTypes := ⟨[T, _]⟩ } => evK st d fun d => evK st x fun x => copyK tt st T d x fun y st => putK sz o.dst y st k
  | .makeMap _ none => newK (.map #[] 0) st fun r st => putK sz o.dst (.m r) st k
  | .mapUpdate T m x v => (match o.dst with | none => evK st m fun m => evK st x fun x => evK st v fun v => mapUpdateK tt st T m x v k | some _ => False)
  | .range T m => evK st m fun m => rangeK tt st T m fun y st => putK sz o.dst y st k
  | .next it false => evK st it fun it => nextK st it fun y st => putK sz o.dst y st k
  | .call { callee := .builtin .clear, args := ⟨[m]⟩, argTypes := ⟨[T]⟩ } => evK st m fun m => clearK tt st T m fun st => putK sz o.dst (.tup []) st k
  | op => pureK tt st op fun y => putK sz o.dst y st k
/-- Two values made of parts, compared. -/
def AggEq (P : Program) (T : TypeId) (xs ys : List Value) (r : Bool) : Prop :=
  ∀ w, (Op.equal T (.agg ⟨xs⟩) (.agg ⟨ys⟩)).run P w = .ok r w ∧ ∀ o a b, (eqGuard o T a b (.agg ⟨xs⟩) (.agg ⟨ys⟩)).run P w = .ok () w
def isAggS : SV → Bool
  | .agg _ => true
  | .v (.agg _) => true
  | _ => false
def aggK (x : SV) (k : List Value → Prop) : Prop :=
  match x with
  | .agg cs => plainsK cs k
  | .v (.agg ⟨l⟩) => k l
  | _ => False
theorem aggK_elim {x : SV} {k : List Value → Prop} (h : aggK x k) : ∃ l, k l ∧ ∀ ρ, den ρ x = .agg ⟨l⟩ := by
  unfold aggK at h
  split at h
  · obtain ⟨vs, h1, h2⟩ := plainsK_elim h
    exact ⟨vs, h1, fun ρ => by simp only [den, h2 ρ]⟩
  · exact ⟨_, h, fun _ => rfl⟩
  · exact h.elim
def eqAggK (P : Program) (sz : Nat) (st : SS) (dst : Option Tmp) (op : BinOp) (T : TypeId) (x y : SV) (k : SS → Prop) : Prop :=
  aggK x fun xs => aggK y fun ys => match op with
    | .eql => ∃ r, AggEq P T xs ys r ∧ putK sz dst (.v (.bool r)) st k
    | .neq => ∃ r, AggEq P T xs ys r ∧ putK sz dst (.v (.bool (!r))) st k
    | _ => False
def opK (P : Program) (tt : List (Option TI)) (sz : Nat) (st : SS) (o : Oper) (k : SS → Prop) : Prop :=
  match o.op with
  | .call { callee := .value f, args := ⟨args⟩, argTypes := _ } => callK P sz st o.dst f args k
  | .binOp op T x y R => evK st x fun vx => (match isAggS vx with
    | true => evK st y fun vy => eqAggK P sz st o.dst op T vx vy k
    | false => preK (.binOp op T x y R) st fun st => stepK tt sz st o k)
  | op => preK op st fun st => stepK tt sz st o k
theorem Stp.use {P : Program} {st : SS} {o : Oper} {Kf : SV → SS → Prop} (h : Stp P st o Kf) {B : Bs} {ρ : Nat → Nat} {F : Nat → Nat → Prop} {sz : Nat} {a : Act} {w : World} (ho : OkAt B ρ F st sz a w) {Q : Exit → Act → World → Prop} {k : SS → Prop}
    (hk : ∀ y st', Kf y st' → (o.dst = none ∧ k st') ∨ putK sz o.dst y st' k) : o.wp P a w (fun a' w' => ∃ st' ρ' F', k st' ∧ OkAt B ρ' F' st' sz a' w') Q := by
  obtain ⟨y, hp', nx', ρ', F', w', h1, h2, h3, h4, h5, h6, h7, h8⟩ := h ρ F a w (fun ρ' hr => ho.toBase hr) ho.heap
  have ho' := ho.step h4 h5 h6 h7 h8 (fun f hf => .inl hf)
  rcases h2 with h2 | ⟨hd, h2⟩
  · simp only [Oper.wp, h2, Oper.upon]
    rcases hk _ _ h1 with ⟨hd, hk⟩ | hk
    · rw [hd]; exact ⟨_, ρ', F', hk, ho'⟩
    · obtain ⟨st', h9, h10⟩ := putK_elim hk ho' h3
      exact ⟨st', ρ', F', h9, h10⟩
  · simp only [Oper.wp, h2, Oper.upon]
    rcases hk _ _ h1 with ⟨_, hk⟩ | hk
    · rw [hd]; exact ⟨_, ρ', F', hk, ho'⟩
    · rw [hd] at hk ⊢
      exact ⟨_, ρ', F', hk, ho'⟩
theorem Yl.use {P : Program} {st : SS} {o : Oper} {y : SV} (h : Yl P st o y) {B : Bs} {ρ : Nat → Nat} {F : Nat → Nat → Prop} {sz : Nat} {a : Act} {w : World} (ho : OkAt B ρ F st sz a w) {Q : Exit → Act → World → Prop} {k : SS → Prop}
    (hk : putK sz o.dst y st k) : o.wp P a w (fun a' w' => ∃ st' ρ' F', k st' ∧ OkAt B ρ' F' st' sz a' w') Q := by
  have h1 := h ρ F a w (ho.toBase (Ag.refl _ _)) ho.heap.shape.fok
  simp only [Oper.wp, h1, Oper.upon]
  obtain ⟨st', h9, h10⟩ := putK_elim hk ho (fun ρ' hr => h.robust ho hr)
  exact ⟨st', ρ, F, h9, h10⟩
theorem allocStp {P : Program} {tt : List (Option TI)} (ht : TOk P tt) {st : SS} {T : TypeId} {ti : TI} (hti : tt[T]? = some (some ti)) {o : Oper} (ho : o.op = .alloc T) {Kf : SV → SS → Prop} (h : newK (.cells ti.zero T) st fun r st => Kf (.p r 0) st) : Stp P st o Kf := by
  have hT := tyFacts (ht T ti hti)
  refine Stp.alloc (newK_elim h) fun ρ F a w hb hh => ?_
  obtain ⟨z, h1, h2⟩ := zero_den hT w
  refine ⟨z.cells, T, fun ρ' hr => ⟨fun k => Iff.rfl, ?_⟩, .pointer (some ⟨w.heap.size, 0, none⟩), fun ρ' hr => by simp [den, hr], ?_⟩
  · have := cellsAt_alloc w (denL ρ' ti.zero) T
    rw [← h2 ρ', Array.toArray_toList] at this
    rw [← h2 ρ']
    exact this
  · simp only [execOp, ho, Instr.alloc, Sem.run_bind, h1, Result.andThen_ok, newVar, newRow, run_newObj, Sem.run_pure, World.alloc_eq]
theorem boxStp {P : Program} {st : SS} {T : TypeId} {X : Operand} {x : SV} (hx : ∀ ρ F a w, Base ρ F st a w → a.eval X = den ρ x) {l : List SV} (hl : ∀ ρ, (den ρ x).cells.toList = denL ρ l) {o : Oper} (ho : o.op = .box T X) {Kf : SV → SS → Prop} (h : newK (.cells l T) st fun r st => Kf (.p r 0) st) : Stp P st o Kf := by
  refine Stp.alloc (newK_elim h) fun ρ F a w hb hh => ?_
  refine ⟨(a.eval X).cells, T, fun ρ' hr => ⟨fun k => Iff.rfl, ?_⟩, .pointer (some ⟨w.heap.size, 0, none⟩), fun ρ' hr => by simp [den, hr], ?_⟩
  · have := cellsAt_alloc w (denL ρ' l) T
    rw [← hl ρ', Array.toArray_toList] at this
    rw [← hl ρ', hx ρ' F a w (hb ρ' hr)]
    exact this
  · simp only [execOp, ho, Instr.box, Sem.run_bind, newVar, newRow, run_newObj, Sem.run_pure, Result.andThen_ok, World.alloc_eq]
theorem stepK_sound {P : Program} {tt : List (Option TI)} (ht : TOk P tt) {sz : Nat} {st : SS} {o : Oper} {k : SS → Prop} (h : stepK tt sz st o k) {B : Bs} {ρ : Nat → Nat} {F : Nat → Nat → Prop} {a : Act} {w : World} (ho : OkAt B ρ F st sz a w) {Q : Exit → Act → World → Prop} :
    o.wp P a w (fun a' w' => ∃ st' ρ' F', k st' ∧ OkAt B ρ' F' st' sz a' w') Q := by
  unfold stepK at h
  split at h
  · rename_i T hop
    obtain ⟨ti, hti, h1⟩ := tyK_elim h
    exact (allocStp ht hti hop (Kf := fun y st => putK sz o.dst y st k) h1).use ho fun _ _ h => .inr h
  · rename_i T X hop
    obtain ⟨x, h1, h2⟩ := evK_elim h
    split at h1
    · rename_i ag
      obtain ⟨hone, h3⟩ := h1
      refine (Stp.alloc (Kf := fun y st => putK sz o.dst y st k) (y := .p _ 0) (newK_elim h3) fun ρ F a w hb hh => ?_).use ho fun _ _ h => .inr h
      refine ⟨ag, T, fun ρ' hr => ⟨fun k => Iff.rfl, ?_⟩, .pointer (some ⟨w.heap.size, 0, none⟩), fun ρ' hr => by simp [den, hr], ?_⟩
      · have := cellsAt_alloc w ag.toList T
        rwa [Array.toArray_toList] at this
      · simp only [execOp, hop, Instr.box, h2 ρ F a w (hb ρ (Ag.refl _ _)), den, Value.cells, Sem.run_bind, newVar, newRow, run_newObj, Sem.run_pure, Result.andThen_ok, World.alloc_eq]
    obtain ⟨l, h3, h4, _⟩ := cellsK_elim h1
    exact (boxStp h2 h4 hop (Kf := fun y st => putK sz o.dst y st k) h3).use ho fun _ _ h => .inr h
  · rename_i T p x hop
    split at h
    · rename_i hd
      obtain ⟨p', h1, h2⟩ := evK_elim h
      obtain ⟨x', h3, h4⟩ := evK_elim h1
      exact (storeK_elim ht h3 hop hd h2 h4).use ho fun _ _ h => .inl ⟨hd, h⟩
    · exact h.elim
  · rename_i T len ps hop
    exact (buildSliceK_elim (P := P) ht h hop).use ho fun _ _ h => .inr h
  · rename_i T l c hop
    exact (makeSliceK_elim (P := P) ht h hop).use ho fun _ _ h => .inr h
  · rename_i s d X hop
    obtain ⟨x, h1, h2⟩ := evK_elim h
    obtain ⟨di, hdi, h3⟩ := tyK_elim h1
    split at h3
    · split at h3
      · exact (rebytesK_elim (P := P) ht h3 hop h2).use ho fun _ _ h => .inr h
      · exact (bytesK_elim (P := P) ht h3 hop h2).use ho fun _ _ h => .inr h
    · obtain ⟨y, h5, h6⟩ := convK_elim (P := P) ht h3
      refine Yl.use (y := y) (fun ρ F a w hb hs => ?_) ho h5
      simp only [execOp, hop, Sem.run_bind, h2 ρ F a w hb, h6 ρ F a w hb hs]; rfl
  · rename_i s x T X hop
    obtain ⟨s', h1, h2⟩ := evK_elim h
    obtain ⟨x', h3, h4⟩ := evK_elim h1
    exact (appendXK_elim (P := P) ht h3 hop h2 h4).use ho fun _ _ h => .inr h
  · rename_i d x T X hop
    obtain ⟨s', h1, h2⟩ := evK_elim h
    obtain ⟨x', h3, h4⟩ := evK_elim h1
    exact (copyK_elim (P := P) ht h3 (ats := #[T, X]) rfl hop h2 h4).use ho fun _ _ h => .inr h
  · rename_i T hop
    refine Stp.use (Kf := fun y st => putK sz o.dst y st k) ?_ ho fun _ _ h => .inr h
    intro ρ F a w hb hh
    obtain ⟨h6, h7⟩ := hh.alloc (o := .map #[] 0) (ob := .map #[] 0) (fun ρ' hr => ⟨fun k => Iff.rfl, heap_alloc_new w _⟩)
    refine ⟨_, _, _, updR ρ st.nx w.heap.size, _, w.alloc (.map #[] 0), newK_elim h, .inl ?_, ?_, h6, Ag.updR ρ _, by omega, keeps_alloc _ w _, h7⟩
    · simp only [execOp, hop, Option.map_none, Instr.makeMap, Sem.run_bind, run_newObj, Sem.run_pure, Result.andThen_ok, World.alloc_eq, den, updR_same]
    · intro ρ'' hr
      simp only [den]
      rw [hr st.nx (by omega)]
  · rename_i T m x v hop
    split at h
    · rename_i hd
      obtain ⟨m', h1, h2⟩ := evK_elim h
      obtain ⟨x', h3, h4⟩ := evK_elim h1
      obtain ⟨v', h5, h6⟩ := evK_elim h3
      exact (mapUpdateK_elim ht h5 hop hd h2 h4 h6).use ho fun _ _ h => .inl ⟨hd, h⟩
    · exact h.elim
  · rename_i T m hop
    obtain ⟨m', h1, h2⟩ := evK_elim h
    exact (rangeK_elim (P := P) ht h1 hop h2).use ho fun _ _ h => .inr h
  · rename_i it hop
    obtain ⟨m', h1, h2⟩ := evK_elim h
    exact (nextK_elim (P := P) h1 hop h2).use ho fun _ _ h => .inr h
  · rename_i m T hop
    obtain ⟨m', h1, h2⟩ := evK_elim h
    exact (clearK_elim (P := P) (k := fun y st => putK sz o.dst y st k) ht h1 hop h2).use ho fun _ _ h => .inr h
  · obtain ⟨y, h1, h2⟩ := pureK_elim (P := P) ht h rfl
    exact h2.use ho h1
theorem opK_sound {P : Program} {tt : List (Option TI)} (ht : TOk P tt) {sz : Nat} {st : SS} {o : Oper} {k : SS → Prop} (h : opK P tt sz st o k) {B : Bs} {ρ : Nat → Nat} {F : Nat → Nat → Prop} {a : Act} {w : World} (ho : OkAt B ρ F st sz a w) {Q : Exit → Act → World → Prop} :
    o.wp P a w (fun a' w' => ∃ st' ρ' F', k st' ∧ OkAt B ρ' F' st' sz a' w') Q := by
  unfold opK at h
  split at h
  · rename_i f args ats hop
    unfold callK at h
    obtain ⟨fv, h1, h2⟩ := evK_elim h
    split at h1
    · rename_i n first cap
      obtain ⟨l, h3, h4⟩ := evLK_elim h1
      have h5 := appL_elim (appL_elim h3)
      obtain ⟨sl, hp, nx, fx⟩ := st
      have hb := ho.toBase (Ag.refl _ _)
      have hrun : (execOp a.eval o).run P w = (callFunc n (denL ρ (first ++ (l ++ cap))).toArray).run P w := by
        have e1 : (args.map a.eval) = denL ρ l := h4 ρ F a w hb
        have e2 : (a.eval f) = .func (.func n) (denL ρ first).toArray (denL ρ cap).toArray := h2 ρ F a w hb
        simp only [execOp, hop, resolve, List.map_toArray, e1, e2, Deferred.ofValue, Sem.run_bind, Sem.run_pure, Result.andThen_ok, invoke]
        have e3 : (denL ρ first).toArray ++ (denL ρ l).toArray ++ (denL ρ cap).toArray = (denL ρ (first ++ (l ++ cap))).toArray := by
          simp [denL_append]
        rw [e3]
      have hrob : ∀ ρ', Ag nx ρ ρ' → denL ρ' (first ++ (l ++ cap)) = denL ρ (first ++ (l ++ cap)) := by
        intro ρ' hr
        have hb' := ho.toBase (ρ' := ρ') hr
        have e1 : denL ρ' l = denL ρ l := by rw [← h4 ρ' F a w hb', ← h4 ρ F a w hb]
        have e2 : den ρ' (SV.fn (.func n) first cap) = den ρ (SV.fn (.func n) first cap) := by rw [← h2 ρ' F a w hb', ← h2 ρ F a w hb]
        simp only [den, Value.func.injEq, true_and] at e2
        have e3 := congrArg Array.toList e2.1
        have e4 := congrArg Array.toList e2.2
        simp only [List.toList_toArray] at e3 e4
        rw [denL_append, denL_append, denL_append, denL_append, e1, e3, e4]
      have fin : ∀ y hp' m' fx' ρ' F' w', putK sz o.dst y ⟨sl, hp', m', fx'⟩ k → (∀ ρ'', Ag m' ρ' ρ'' → den ρ'' y = den ρ' y) → HpOk ρ' F' hp' m' fx' w' → Ag nx ρ ρ' → nx ≤ m' → Keeps (Own hp F) w w' →
          (∀ k, Own hp' F' k → Own hp F k ∨ w.heap.size ≤ k) → (∀ f, f ∈ fx' → f ∈ fx ∨ ∀ k, f.G k → Own hp F k ∨ w.heap.size ≤ k) → ∃ st' ρ2 F2, k st' ∧ OkAt B ρ2 F2 st' sz (a.put o.dst (den ρ' y)) w' := by
        intro y hp' m' fx' ρ' F' w' hk h6 h7 h8 h9 h10 h11 h11'
        obtain ⟨st', h12, h13⟩ := putK_elim hk (ho.step h7 h8 h9 h10 h11 h11') h6
        exact ⟨st', ρ', F', h12, h13⟩
      rcases h5.run ρ F w ho.heap hrob with ⟨hen, hc⟩ | ⟨v, w', hv, y, hp', m', fx', ρ', F', hk, he, h6, h7, h8, h9, h10, h11, h11'⟩
      · simp only [Oper.wp, hrun, hen, Oper.upon]
        refine hc.mono fun e w' hpost => ?_
        obtain ⟨y, hp', m', fx', ρ', F', hk, rfl, h6, h7, h8, h9, h10, h11, h11'⟩ := hpost
        exact fin y hp' m' fx' ρ' F' w' hk h6 h7 h8 h9 h10 h11 h11'
      · simp only [Oper.wp, hrun, hv, Oper.upon]
        obtain rfl : v = den ρ' y := by cases he; rfl
        exact fin y hp' m' fx' ρ' F' w' hk h6 h7 h8 h9 h10 h11 h11'
    · exact h1.elim
  · rename_i op T X Y R hop
    obtain ⟨vx, h1, h2⟩ := evK_elim h
    split at h1
    · obtain ⟨vy, h3, h4⟩ := evK_elim h1
      unfold eqAggK at h3
      obtain ⟨xs, h5, h6⟩ := aggK_elim h3
      obtain ⟨ys, h7, h8⟩ := aggK_elim h5
      have hb := ho.toBase (Ag.refl _ _)
      have e1 : a.eval X = .agg ⟨xs⟩ := by rw [h2 ρ F a w hb, h6]
      have e2 : a.eval Y = .agg ⟨ys⟩ := by rw [h4 ρ F a w hb, h8]
      have fin : ∀ r : Bool, (execOp a.eval o).run P w = .ok (.value (.bool r)) w → putK sz o.dst (.v (.bool r)) st k → o.wp P a w (fun a' w' => ∃ st' ρ' F', k st' ∧ OkAt B ρ' F' st' sz a' w') Q := by
        intro r hr hk
        simp only [Oper.wp, hr, Oper.upon]
        obtain ⟨st', h9, h10⟩ := putK_elim hk ho (fun _ _ => rfl)
        exact ⟨st', ρ, F, h9, h10⟩
      split at h7
      · obtain ⟨r, hr, hk⟩ := h7
        refine fin r ?_ hk
        simp only [execOp, hop, e1, e2, Sem.run_bind, (hr w).2, Result.andThen_ok, binOp, (hr w).1, Sem.run_pure]
      · obtain ⟨r, hr, hk⟩ := h7
        refine fin (!r) ?_ hk
        simp only [execOp, hop, e1, e2, Sem.run_bind, (hr w).2, Result.andThen_ok, binOp, (hr w).1, Sem.run_pure]
      · exact h7.elim
    · obtain ⟨st', h3, h4⟩ := preK_elim h1 ho
      exact stepK_sound ht h3 h4
  · obtain ⟨st', h1, h2⟩ := preK_elim h ho
    exact stepK_sound ht h1 h2

/-! ### guards, lists of operations -/
def guardK (sz : Nat) (ops : List Oper) (o : Oper) (st : SS) (ky kn : SS → Prop) : Prop :=
  match o.guard with
  | none => ky st
  | some (j, want) => nthK ops j fun oj => match oj.dst with
    | none => False
    | some t => getK t st.sl fun v => match v with
      | .b s => (match want, s with
        | true, true => ky st
        | false, false => ky st
        | _, _ => kn st)
      | .v (.bool s) => (match want with
        | true => (s = true → putK sz (some t) (.b true) st ky) ∧ (s = false → putK sz (some t) (.b false) st kn)
        | false => (s = true → putK sz (some t) (.b true) st kn) ∧ (s = false → putK sz (some t) (.b false) st ky))
      | .tup [] => kn st
      | _ => False
def opsK (P : Program) (tt : List (Option TI)) (sz : Nat) (ops : List Oper) (l : List Oper) : SS → (SS → Prop) → Prop :=
  List.rec (motive := fun _ => SS → (SS → Prop) → Prop) (fun st k => k st)
    (fun o _ ih st k => guardK sz ops o st (fun st => opK P tt sz st o fun st => ih st k) (fun st => putK sz o.dst (.tup []) st fun st => ih st k)) l
theorem opsK_nil {P : Program} {tt : List (Option TI)} {sz : Nat} {ops : List Oper} {st : SS} {k : SS → Prop} : opsK P tt sz ops [] st k = k st := rfl
theorem opsK_cons {P : Program} {tt : List (Option TI)} {sz : Nat} {ops : List Oper} {o : Oper} {r : List Oper} {st : SS} {k : SS → Prop} : opsK P tt sz ops (o :: r) st k = guardK sz ops o st (fun st => opK P tt sz st o fun st => opsK P tt sz ops r st k) (fun st => putK sz o.dst (.tup []) st fun st => opsK P tt sz ops r st k) := rfl
theorem Act.put_same {a : Act} {t : Tmp} {v : Value} (h : a.tmps[t]? = some v) : a.put (some t) v = a := by
  cases a with
  | mk tmps defers =>
    simp only [Act.put, Act.mk.injEq, and_true]
    apply Array.ext_getElem?
    intro i
    rw [Array.getElem?_setIfInBounds]
    split
    · rename_i hi
      subst hi
      have h' : tmps[t]? = some v := h
      have := Array.getElem?_eq_some_iff.1 h'
      obtain ⟨h1, h2⟩ := this
      rw [if_pos h1, h']
    · rfl
theorem guardK_sound {P : Program} {sz : Nat} {ops : List Oper} {o : Oper} {st : SS} {ky kn : SS → Prop} (h : guardK sz ops o st ky kn) {B : Bs} {ρ : Nat → Nat} {F : Nat → Nat → Prop} {a : Act} {w : World} (ho : OkAt B ρ F st sz a w) :
    (Region.wanted o (yielded ops.toArray a.tmps) = true ∧ ∃ st', ky st' ∧ OkAt B ρ F st' sz a w) ∨ (Region.wanted o (yielded ops.toArray a.tmps) = false ∧ ∃ st', kn st' ∧ OkAt B ρ F st' sz a w) := by
  unfold guardK at h
  split at h
  · rename_i hg
    exact .inl ⟨by simp [Region.wanted, hg], st, h, ho⟩
  · rename_i j want hg
    obtain ⟨oj, h1, h2⟩ := nthK_elim h
    split at h2
    · exact h2.elim
    · rename_i t hd
      obtain ⟨v, h3, h4⟩ := getK_elim h2
      have hs := ho.slot ρ (Ag.refl _ _) t v h3
      have hy : ∀ s : Bool, den ρ v = .bool s → yielded ops.toArray a.tmps j = some s := by
        intro s hv
        simp only [yielded, List.getElem?_toArray, h1, Option.bind_some, hd]
        rw [hs, hv]
      have hw : ∀ s : Bool, den ρ v = .bool s → Region.wanted o (yielded ops.toArray a.tmps) = (s == want) := by
        intro s hv
        simp only [Region.wanted, hg, hy s hv]
        cases s <;> cases want <;> rfl
      split at h4
      · rename_i s
        split at h4
        · exact .inl ⟨hw true rfl, st, h4, ho⟩
        · exact .inl ⟨hw false rfl, st, h4, ho⟩
        · rename_i h5 h6
          refine .inr ⟨?_, st, h4, ho⟩
          rw [hw s rfl]
          cases s <;> cases want <;> simp_all
      · rename_i s
        have key : ∀ b : Bool, s = b → ∀ k, putK sz (some t) (.b b) st k → ∃ st', k st' ∧ OkAt B ρ F st' sz a w := by
          rintro b rfl k hk
          obtain ⟨st', h5, h6⟩ := putK_elim hk ho (fun _ _ => rfl)
          rw [Act.put_same (by rw [hs]; rfl)] at h6
          exact ⟨st', h5, h6⟩
        split at h4
        · cases hs' : s with
          | true => exact .inl ⟨by rw [hw s rfl, hs']; rfl, key true hs' _ (h4.1 hs')⟩
          | false => exact .inr ⟨by rw [hw s rfl, hs']; rfl, key false hs' _ (h4.2 hs')⟩
        · cases hs' : s with
          | true => exact .inr ⟨by rw [hw s rfl, hs']; rfl, key true hs' _ (h4.1 hs')⟩
          | false => exact .inl ⟨by rw [hw s rfl, hs']; rfl, key false hs' _ (h4.2 hs')⟩
      · refine .inr ⟨?_, st, h4, ho⟩
        have h5 : yielded ops.toArray a.tmps j = none := by
          simp only [yielded, List.getElem?_toArray, h1, Option.bind_some, hd]
          rw [hs]; rfl
        simp only [Region.wanted, hg, h5]
        cases want <;> rfl
      · exact h4.elim
def Lift (B : Bs) (sz : Nat) (K : Exit → SS → Prop) (e : Exit) (a : Act) (w : World) : Prop := ∃ st ρ F, K e st ∧ OkAt B ρ F st sz a w
theorem opsK_sound {P : Program} {tt : List (Option TI)} (ht : TOk P tt) {sz : Nat} {ops : List Oper} {K : Exit → SS → Prop} {B : Bs} : ∀ {l : List Oper} {st : SS}, opsK P tt sz ops l st (K .normal) → ∀ {ρ F a w}, OkAt B ρ F st sz a w →
    wpList P ops.toArray (Lift B sz K) l a w
  | [], st, h, ρ, F, a, w, ho => ⟨st, ρ, F, h, ho⟩
  | o :: r, st, h, ρ, F, a, w, ho => by
    unfold wpList
    rw [opsK_cons] at h
    rcases guardK_sound (P := P) h ho with ⟨hw, st', h1, h2⟩ | ⟨hw, st', h1, h2⟩
    · rw [if_pos hw]
      refine .inl (Oper.wp_mono (fun a' w' hx => ?_) (opK_sound (Q := Lift B sz K) ht h1 h2))
      obtain ⟨st', ρ', F', h3, h4⟩ := hx
      exact opsK_sound ht h3 h4
    · rw [if_neg (by rw [hw]; simp)]
      obtain ⟨st'', h3, h4⟩ := putK_elim h1 h2 (fun _ _ => rfl)
      exact opsK_sound ht h3 h4
end Go.Proofs.Ytekgjjanikicnaa.Sx
