/- A symbolic executor for the model's code, part 1: values, regions, states, and operations that only compute or read. Each theorem says that what the executor shows holds of the model's own run. -/
import Derived.Tactics
import Derived.OrdersHeld
import Derived.Deep.RegionHeld3
import Derived.Below
import Derived.Laws.Rows
import Derived.Laws.Cells
import Derived.KernelRfl
namespace Go.Proofs.Ytekgjjanikicnaa.Sx
open Go
set_option linter.unusedVariables false
set_option linter.unusedSimpArgs false

/-! ### Symbolic values -/
inductive SV where
  | v (x : Value)
  | b (t : Bool)
  | k (kd : IntKind) (n : Int)
  | p (r o : Nat)
  | q (r o : Nat)
  | s (r o len cap : Nat)
  | m (r : Nat)
  | agg (cs : List SV)
  | tup (cs : List SV)
  | fn (f : Fn) (first captured : List SV)

mutual
def den (ρ : Nat → Nat) : SV → Value
  | .v x => x
  | .b t => .bool t
  | .k kd n => .int kd n
  | .p r o => .pointer (some ⟨ρ r, o, none⟩)
  | .q r o => .pointer (some ⟨ρ r, o, none⟩)
  | .s r o len cap => .slice (some ⟨ρ r, o, none⟩) len cap
  | .m r => .map (some (ρ r))
  | .agg cs => .agg (denL ρ cs).toArray
  | .tup cs => .tuple (denL ρ cs).toArray
  | .fn f a c => .func f (denL ρ a).toArray (denL ρ c).toArray
def denL (ρ : Nat → Nat) : List SV → List Value
  | [] => []
  | x :: r => den ρ x :: denL ρ r
end
theorem denL_eq (ρ : Nat → Nat) (cs : List SV) : denL ρ cs = cs.map (den ρ) := by
  induction cs with
  | nil => rfl
  | cons x r ih => simp [denL, ih]
@[simp] theorem denL_nil (ρ : Nat → Nat) : denL ρ [] = [] := rfl
@[simp] theorem denL_cons (ρ : Nat → Nat) (x : SV) (r : List SV) : denL ρ (x :: r) = den ρ x :: denL ρ r := rfl
@[simp] theorem denL_length (ρ : Nat → Nat) (cs : List SV) : (denL ρ cs).length = cs.length := by rw [denL_eq]; simp
theorem denL_append (ρ : Nat → Nat) (a b : List SV) : denL ρ (a ++ b) = denL ρ a ++ denL ρ b := by simp [denL_eq]
theorem denL_get (ρ : Nat → Nat) (cs : List SV) (i : Nat) : (denL ρ cs)[i]? = cs[i]?.map (den ρ) := by simp [denL_eq]
theorem denL_mapv (ρ : Nat → Nat) (vs : List Value) : denL ρ (vs.map SV.v) = vs := by
  rw [denL_eq, List.map_map]; simp [Function.comp_def, den]

/-- A value as a symbolic one: what is a number or a Bool is known. -/
def ofV : Value → SV
  | .bool t => .b t
  | .int kd n => .k kd n
  | x => .v x
@[simp] theorem den_ofV (ρ : Nat → Nat) (x : Value) : den ρ (ofV x) = x := by cases x <;> rfl
theorem denL_ofV (ρ : Nat → Nat) (vs : List Value) : denL ρ (vs.map ofV) = vs := by
  rw [denL_eq, List.map_map]; simp [Function.comp_def]

/-! ### Worlds: what a step keeps -/
structure Keeps (U : Nat → Prop) (w w' : World) : Prop where
  os : w'.os = w.os
  tape : w'.tape = w.tape
  output : w'.output = w.output
  size : w.heap.size ≤ w'.heap.size
  block : ∀ k, k < w.heap.size → ¬ U k → w'.heap[k]? = w.heap[k]?
theorem Keeps.refl (U : Nat → Prop) (w : World) : Keeps U w w := ⟨rfl, rfl, rfl, Nat.le_refl _, fun _ _ _ => rfl⟩
theorem Keeps.trans {U U' : Nat → Prop} {a b c : World} (h : Keeps U a b) (k : Keeps U' b c) (hs : ∀ j, U' j → U j ∨ a.heap.size ≤ j) : Keeps U a c :=
  ⟨k.os.trans h.os, k.tape.trans h.tape, k.output.trans h.output, Nat.le_trans h.size k.size,
   fun j hj hn => (k.block j (Nat.lt_of_lt_of_le hj h.size) (fun hu => (hs j hu).elim hn (fun h1 => absurd h1 (by omega)))).trans (h.block j hj hn)⟩
theorem Keeps.mono {U U' : Nat → Prop} {a b : World} (h : Keeps U a b) (hs : ∀ j, U j → U' j) : Keeps U' a b :=
  ⟨h.os, h.tape, h.output, h.size, fun j hj hn => h.block j hj (fun hu => hn (hs j hu))⟩
theorem Keeps.cell {U : Nat → Prop} {w w' : World} (h : Keeps U w w') {ad : Addr} {x : Value} (hc : w.cell? ad = some x) (hn : ¬ U ad.block) : w'.cell? ad = some x := by
  rw [World.cell?_of_block (w := w) (h.block ad.block (World.block_lt_of_cell? w ad hc) hn)]; exact hc

/-- Something that is known of blocks that nobody here may write. -/
structure Fact where
  G : Nat → Prop
  φ : World → Prop
  loc : ∀ {w w' : World}, φ w → (∀ k, G k → w'.heap[k]? = w.heap[k]?) → φ w'
/-- It holds, and speaks of no block that is owned. -/
def Fact.Holds (f : Fact) (w : World) (U : Nat → Prop) : Prop := f.φ w ∧ ∀ k, f.G k → ¬ U k ∧ k < w.heap.size
theorem Fact.mono (f : Fact) {w w' : World} {U U' : Nat → Prop} (h : f.Holds w U) (hk : Keeps U w w') (hs : ∀ k, U' k → U k ∨ w.heap.size ≤ k) : f.Holds w' U' :=
  ⟨f.loc h.1 fun k hG => hk.block k (h.2 k hG).2 (h.2 k hG).1, fun k hG => ⟨fun hu => (hs k hu).elim (h.2 k hG).1 (fun h1 => by have := (h.2 k hG).2; omega), Nat.lt_of_lt_of_le (h.2 k hG).2 hk.size⟩⟩
/-- A predicate on blocks that are owned: it hangs on them alone. -/
structure AR where
  A : World → Nat → (Nat → Prop) → Prop
  loc : ∀ {w w' : World} {b : Nat} {F : Nat → Prop}, A w b F → (∀ k, F k → w'.heap[k]? = w.heap[k]?) → A w' b F

inductive SObj where
  | cells (cs : List SV) (T : TypeId)
  | row (cs : List Value) (T : TypeId)
  | map (es : Array MapEntry) (clk : Nat)
  | iter (mr since : Nat) (seen : Array Nat) (stepped : Nat)
  | abs (A : AR)

structure SS where
  sl : List (Nat × SV)
  hp : List (Nat × SObj)
  nx : Nat
  fx : List Fact

/-- A block of cells whose first n cells are not frozen. -/
def CellsAt (w : World) (b : Nat) (cs : List Value) (T : TypeId) : Prop :=
  ∃ fz : Nat × Nat, w.heap[b]? = some (.cells cs.toArray T fz) ∧ (fz.1 = fz.2 ∨ cs.length ≤ fz.1)
def ObjOk (ρ : Nat → Nat) (o : SObj) (w : World) (b : Nat) (F : Nat → Prop) : Prop :=
  match o with
  | .cells cs T => (∀ k, F k ↔ k = b) ∧ CellsAt w b (denL ρ cs) T
  | .row cs T => (∀ k, F k ↔ k = b) ∧ CellsAt w b cs T
  | .map es clk => (∀ k, F k ↔ k = b) ∧ w.heap[b]? = some (.map es clk)
  | .iter mr since seen stepped => (∀ k, F k ↔ k = b) ∧ w.heap[b]? = some (.mapIter (some (ρ mr)) since seen stepped)
  | .abs A => A.A w b F

def Own (hp : List (Nat × SObj)) (F : Nat → Nat → Prop) (k : Nat) : Prop := ∃ r o, (r, o) ∈ hp ∧ F r k
structure Base (ρ : Nat → Nat) (F : Nat → Nat → Prop) (st : SS) (a : Act) (w : World) : Prop where
  slot : ∀ t x, (t, x) ∈ st.sl → a.tmps[t]? = some (den ρ x)
  obj : ∀ r o, (r, o) ∈ st.hp → ObjOk ρ o w (ρ r) (F r)
structure Shape (F : Nat → Nat → Prop) (hp : List (Nat × SObj)) (nx : Nat) (fx : List Fact) (w : World) : Prop where
  lt : ∀ r o, (r, o) ∈ hp → r < nx
  dis : ∀ r o r' o', (r, o) ∈ hp → (r', o') ∈ hp → r ≠ r' → ∀ k, F r k → ¬ F r' k
  bnd : ∀ r o, (r, o) ∈ hp → ∀ k, F r k → k < w.heap.size
  fact : ∀ f ∈ fx, f.Holds w (Own hp F)

/-- What the standing facts say of a world. -/
def FOk (fx : List Fact) (w : World) : Prop := ∀ f, f ∈ fx → f.φ w
theorem Shape.fok {F : Nat → Nat → Prop} {hp : List (Nat × SObj)} {nx : Nat} {fx : List Fact} {w : World} (h : Shape F hp nx fx w) : FOk fx w := fun f hf => (h.fact f hf).1

/-! ### Types -/
structure TI where
  und : TypeDesc
  size : Nat
  bytes : Nat
  zero : List SV
def tiOf (P : Program) (T : TypeId) : Option TI :=
  match P.underlying T, P.info? T with
  | some d, some i => match i.zero with
    | some z => some ⟨d, i.size, i.bytes, z.cells.toList.map ofV⟩
    | none => none
  | _, _ => none
def TOk (P : Program) (tt : List (Option TI)) : Prop := ∀ (T : Nat) (ti : TI), tt[T]? = some (some ti) → tiOf P T = some ti
theorem TOk.of_eq {P : Program} {tt : List (Option TI)} {n : Nat} (h : (List.range n).map (tiOf P) = tt) : TOk P tt := by
  intro T ti hT
  subst h
  rw [List.getElem?_map] at hT
  cases hr : (List.range n)[T]? with
  | none => rw [hr] at hT; simp at hT
  | some j =>
    rw [hr] at hT
    have : j = T := by
      have := List.getElem?_eq_some_iff.1 hr
      obtain ⟨h1, h2⟩ := this
      simpa using h2.symm
    subst this
    simpa using hT
def tyK : List (Option TI) → Nat → (TI → Prop) → Prop
  | [], _, _ => False
  | x :: _, 0, k => match x with | some ti => k ti | none => False
  | _ :: r, n + 1, k => tyK r n k
theorem tyK_elim {k : TI → Prop} : ∀ {tt : List (Option TI)} {T : Nat}, tyK tt T k → ∃ ti, tt[T]? = some (some ti) ∧ k ti
  | [], _, h => h.elim
  | x :: _, 0, h => by
    cases x with
    | none => exact h.elim
    | some ti => exact ⟨ti, rfl, h⟩
  | _ :: r, n + 1, h => by
    obtain ⟨ti, h1, h2⟩ := tyK_elim (tt := r) (T := n) h
    exact ⟨ti, by simpa using h1, h2⟩
structure TyFacts (P : Program) (T : TypeId) (ti : TI) : Prop where
  und : P.underlying T = some ti.und
  info : ∃ i z, P.info? T = some i ∧ i.size = ti.size ∧ i.bytes = ti.bytes ∧ i.zero = some z ∧ z.cells.toList.map ofV = ti.zero
theorem tyFacts {P : Program} {T : TypeId} {ti : TI} (h : tiOf P T = some ti) : TyFacts P T ti := by
  unfold tiOf at h
  split at h
  · rename_i d i hd hi
    split at h
    · rename_i z hz
      cases h
      exact ⟨hd, i, z, hi, rfl, rfl, hz, rfl⟩
    · cases h
  · cases h
section
variable {P : Program} {T : TypeId} {ti : TI} (h : TyFacts P T ti) (w : World)
include h
theorem TyFacts.run_underlying : (underlying T).run P w = .ok ti.und w := by simp [underlying, h.und]
theorem TyFacts.run_sizeOf : (sizeOf T).run P w = .ok ti.size w := by
  obtain ⟨i, z, hi, h1, _⟩ := h.info; simp [sizeOf, typeInfo, hi, h1]
theorem TyFacts.run_zero : ∃ z : Value, (zeroValue T).run P w = .ok z w ∧ z.cells.toList.map ofV = ti.zero := by
  obtain ⟨i, z, hi, h1, h2, h3, h4⟩ := h.info; exact ⟨z, by simp [zeroValue, typeInfo, hi, h3], h4⟩
end
def isAggD : TypeDesc → Bool
  | .struct _ => true
  | .array _ _ => true
  | _ => false
theorem TyFacts.run_isAgg {P : Program} {T : TypeId} {ti : TI} (h : TyFacts P T ti) (w : World) : (isAgg T).run P w = .ok (isAggD ti.und) w := by
  simp only [isAgg, Sem.run_bind, h.run_underlying, Result.andThen_ok]
  cases ti.und <;> rfl

/-! ### Reading slots, numbers, regions -/
def getK (t : Nat) : List (Nat × SV) → (SV → Prop) → Prop
  | [], _ => False
  | (t', x) :: r, k => match Nat.beq t t' with | true => k x | false => getK t r k
theorem getK_elim {t : Nat} {k : SV → Prop} : ∀ {sl : List (Nat × SV)}, getK t sl k → ∃ x, (t, x) ∈ sl ∧ k x
  | [], h => h.elim
  | (t', x) :: r, h => by
    unfold getK at h
    split at h
    · rename_i e
      have : t = t' := Nat.eq_of_beq_eq_true e
      subst this
      exact ⟨x, by simp, h⟩
    · obtain ⟨y, h1, h2⟩ := getK_elim h
      exact ⟨y, by simp [h1], h2⟩
def objK (r : Nat) : List (Nat × SObj) → (SObj → Prop) → Prop
  | [], _ => False
  | (r', x) :: l, k => match Nat.beq r r' with | true => k x | false => objK r l k
theorem objK_elim {r : Nat} {k : SObj → Prop} : ∀ {hp : List (Nat × SObj)}, objK r hp k → ∃ x, (r, x) ∈ hp ∧ k x
  | [], h => h.elim
  | (r', x) :: l, h => by
    unfold objK at h
    split at h
    · rename_i e
      have : r = r' := Nat.eq_of_beq_eq_true e
      subst this
      exact ⟨x, by simp, h⟩
    · obtain ⟨y, h1, h2⟩ := objK_elim h
      exact ⟨y, by simp [h1], h2⟩
def evK (st : SS) (x : Operand) (k : SV → Prop) : Prop :=
  match x with
  | .tmp t => getK t st.sl k
  | .const v => (match v with
    | .bool t => k (.b t)
    | .int kd n => k (.k kd n)
    | v => k (.v v))
  | .global g => k (.v (.pointer (some ⟨g, 0, none⟩)))
  | .func f => k (.fn (.func f) [] [])
theorem evK_elim {st : SS} {x : Operand} {k : SV → Prop} (h : evK st x k) : ∃ y, k y ∧ ∀ ρ F a w, Base ρ F st a w → a.eval x = den ρ y := by
  cases x with
  | tmp t =>
    obtain ⟨y, h1, h2⟩ := getK_elim h
    exact ⟨y, h2, fun ρ F a w hb => by simp [Act.eval, hb.slot t y h1]⟩
  | const v =>
    cases v <;> exact ⟨_, h, fun ρ F a w hb => by simp [Act.eval, den]⟩
  | global g => exact ⟨_, h, fun ρ F a w hb => rfl⟩
  | func f => exact ⟨_, h, fun ρ F a w hb => rfl⟩
def evLK (st : SS) : List Operand → (List SV → Prop) → Prop
  | [], k => k []
  | x :: r, k => evK st x fun y => evLK st r fun l => k (y :: l)
theorem evLK_elim {st : SS} : ∀ {xs : List Operand} {k : List SV → Prop}, evLK st xs k → ∃ l, k l ∧ ∀ ρ F a w, Base ρ F st a w → xs.map a.eval = denL ρ l
  | [], k, h => ⟨[], h, fun _ _ _ _ _ => rfl⟩
  | x :: r, k, h => by
    obtain ⟨y, h1, h2⟩ := evK_elim h
    obtain ⟨l, h3, h4⟩ := evLK_elim h1
    exact ⟨y :: l, h3, fun ρ F a w hb => by simp [h2 ρ F a w hb, h4 ρ F a w hb]⟩
def forceN (n : Nat) (k : Nat → Prop) : Prop :=
  match n + 1 with
  | 0 => k 0
  | m + 1 => k (@OfNat.ofNat Nat m (instOfNatNat m))
theorem forceN_elim {n : Nat} {k : Nat → Prop} (h : forceN n k) : k n := h
def forceI (n : Int) (k : Int → Prop) : Prop :=
  match n with
  | .ofNat m => forceN m fun m => k (m : Int)
  | .negSucc m => forceN (m + 1) fun m => k (-(m : Int))
theorem forceI_elim {n : Int} {k : Int → Prop} (h : forceI n k) : k n := by
  cases n with
  | ofNat m => exact forceN_elim (k := fun m => k (m : Int)) h
  | negSucc m => exact forceN_elim (n := m + 1) (k := fun m => k (-(m : Int))) h
def intK (x : SV) (k : IntKind → Int → Bool → Prop) : Prop :=
  match x with
  | .k kd n => k kd n true
  | .v (.int kd n) => k kd n false
  | _ => False
theorem intK_elim {x : SV} {k : IntKind → Int → Bool → Prop} (h : intK x k) : ∃ kd n kn, k kd n kn ∧ ∀ ρ, den ρ x = .int kd n := by
  unfold intK at h
  split at h
  · exact ⟨_, _, _, h, fun _ => rfl⟩
  · exact ⟨_, _, _, h, fun _ => rfl⟩
  · exact h.elim
def outI (kn : Bool) (kd : IntKind) (n : Int) (k : SV → Prop) : Prop :=
  match kn with
  | true => forceI n fun n => k (.k kd n)
  | false => k (.v (.int kd n))
theorem outI_elim {kn : Bool} {kd : IntKind} {n : Int} {k : SV → Prop} (h : outI kn kd n k) : ∃ y, k y ∧ ∀ ρ, den ρ y = .int kd n := by
  cases kn
  · exact ⟨_, h, fun _ => rfl⟩
  · exact ⟨_, forceI_elim (k := fun n => k (.k kd n)) h, fun _ => rfl⟩
def outB (kn : Bool) (t : Bool) (k : SV → Prop) : Prop :=
  match kn with
  | true => match t with
    | true => k (.b true)
    | false => k (.b false)
  | false => k (.v (.bool t))
theorem outB_elim {kn t : Bool} {k : SV → Prop} (h : outB kn t k) : ∃ y, k y ∧ ∀ ρ, den ρ y = .bool t := by
  cases kn
  · exact ⟨_, h, fun _ => rfl⟩
  · cases t <;> exact ⟨_, h, fun _ => rfl⟩
def limK (kd : IntKind) (k : Int → Prop) : Prop :=
  match kd with
  | .i8 => k 128
  | .i16 => k 32768
  | .i32 => k 2147483648
  | .i64 => k 9223372036854775808
  | .u8 => k 256
  | .u16 => k 65536
  | .u32 => k 4294967296
  | .u64 => k 18446744073709551616
theorem limK_elim {kd : IntKind} {k : Int → Prop} (h : limK kd k) : k (kd.max + 1) := by
  cases kd <;> exact h
theorem wrap_of_lt (kd : IntKind) (n : Int) (h0 : 0 ≤ n) (h1 : n < kd.max + 1) : kd.wrap n = n := by
  cases kd <;> simp [IntKind.wrap, IntKind.max, IntKind.signed, IntKind.bits] at * <;> omega
theorem wrap_i64_of (n : Int) (h0 : -9223372036854775808 ≤ n) (h1 : n < 9223372036854775808) : IntKind.i64.wrap n = n := by
  simp [IntKind.wrap, IntKind.signed, IntKind.bits]; omega
end Go.Proofs.Ytekgjjanikicnaa.Sx
