/- Lemmas of this proof, part 1: 9 texts joined. -/
import Derived.Test.YtekgjjanikicnaaDoorProg
import Derived.Ground.NamesProg
import Derived.Shelf.Strings.Split
import Derived.Tactics
import Derived.OrdersHeld
import Derived.Deep.RegionHeld3
import Derived.Below
import Derived.Laws.Rows
import Derived.Laws.Cells
import Derived.KernelRfl
import Derived.Laws.BytesString
import Derived.Laws.BytesArg
import Derived.Laws.Append
import Derived.Laws.AppendOwn
namespace Go.Proofs
open Go.Shelf
def Tryd.lays146_ren : Go.Shelf.Ren := ⟨fun | 146 => 94 | 221 => 128 | 268 => 157 | 138 => 158 | 143 => 159 | 195 => 178 | 197 => 179 | 218 => 180 | 219 => 181 | 260 => 190 | 217 => 161 | 225 => 191 | 224 => 192 | 267 => 193 | 266 => 183 | 314 => 196 | n => n, fun | 9 => 9 | 31 => 123 | 3 => 3 | 4 => 4 | 0 => 0 | 105 => 204 | 21 => 21 | 5 => 5 | 46 => 116 | 119 => 216 | 139 => 219 | 138 => 218 | 146 => 220 | 51 => 70 | n => n, fun | 1 => 8 | 3 => 11 | 4 => 12 | n => n⟩
theorem Tryd.lays146 : Go.Proofs.Lays.n146 Tryd.prog Tryd.lays146_ren := {
  mixed := by kernel_rfl
  f138 := Tryd.func158.trans (congrArg some (by kernel_rfl))
  f143 := Tryd.func159.trans (congrArg some (by kernel_rfl))
  f146 := Tryd.func94.trans (congrArg some (by kernel_rfl))
  f195 := Tryd.func178.trans (congrArg some (by kernel_rfl))
  f197 := Tryd.func179.trans (congrArg some (by kernel_rfl))
  f217 := Tryd.func161.trans (congrArg some (by kernel_rfl))
  f218 := Tryd.func180.trans (congrArg some (by kernel_rfl))
  f219 := Tryd.func181.trans (congrArg some (by kernel_rfl))
  f221 := Tryd.func128.trans (congrArg some (by kernel_rfl))
  f224 := Tryd.func192.trans (congrArg some (by kernel_rfl))
  f225 := Tryd.func191.trans (congrArg some (by kernel_rfl))
  f260 := Tryd.func190.trans (congrArg some (by kernel_rfl))
  f266 := Tryd.func183.trans (congrArg some (by kernel_rfl))
  f267 := Tryd.func193.trans (congrArg some (by kernel_rfl))
  f268 := Tryd.func157.trans (congrArg some (by kernel_rfl))
  f314 := Tryd.func196.trans (congrArg some (by kernel_rfl))
  t0 := Tryd.underlying0
  a0 := Tryd.isAgg0
  z0 := Tryd.sizeOf0
  v0 := Tryd.zeroValue0
  t3 := Tryd.underlying3
  a3 := Tryd.isAgg3
  z3 := Tryd.sizeOf3
  v3 := Tryd.zeroValue3
  t4 := Tryd.underlying4
  a4 := Tryd.isAgg4
  z4 := Tryd.sizeOf4
  v4 := Tryd.zeroValue4
  t5 := Tryd.underlying5
  a5 := Tryd.isAgg5
  z5 := Tryd.sizeOf5
  v5 := Tryd.zeroValue5
  t9 := Tryd.underlying9
  a9 := Tryd.isAgg9
  z9 := Tryd.sizeOf9
  v9 := Tryd.zeroValue9
  t21 := Tryd.underlying21
  a21 := Tryd.isAgg21
  z21 := Tryd.sizeOf21
  v21 := Tryd.zeroValue21
  t31 := Tryd.underlying123
  a31 := Tryd.isAgg123
  z31 := Tryd.sizeOf123
  v31 := Tryd.zeroValue123
  t46 := Tryd.underlying116
  a46 := Tryd.isAgg116
  z46 := Tryd.sizeOf116
  v46 := Tryd.zeroValue116
  t51 := Tryd.underlying70
  a51 := Tryd.isAgg70
  z51 := Tryd.sizeOf70
  v51 := Tryd.zeroValue70
  t105 := Tryd.underlying204
  a105 := Tryd.isAgg204
  z105 := Tryd.sizeOf204
  v105 := Tryd.zeroValue204
  t119 := Tryd.underlying216
  a119 := Tryd.isAgg216
  z119 := Tryd.sizeOf216
  t138 := Tryd.underlying218
  a138 := Tryd.isAgg218
  z138 := Tryd.sizeOf218
  v138 := Tryd.zeroValue218
  t139 := Tryd.underlying219
  a139 := Tryd.isAgg219
  z139 := Tryd.sizeOf219
  v139 := Tryd.zeroValue219
  t146 := Tryd.underlying220
  a146 := Tryd.isAgg220
  z146 := Tryd.sizeOf220
  v146 := Tryd.zeroValue220
  g1 := by kernel_rfl
  g3 := by kernel_rfl
  g4 := by kernel_rfl }
end Go.Proofs

namespace Go.Proofs.YtekgjjanikicnaaDoor.Sx
open Go
set_option linter.unusedVariables false
set_option linter.unusedSimpArgs false

/-! ### Symbolic values -/
inductive SV where
  | v (x : Value)
  | b (t : Bool)
  | k (kd : IntKind) (n : Int)
  | p (r o : Nat)
  | q (r o : Nat)
  | s (r o len cap : Nat)
  | m (r : Nat)
  | agg (cs : List SV)
  | tup (cs : List SV)
  | fn (f : Fn) (first captured : List SV)

mutual
def den (ρ : Nat → Nat) : SV → Value
  | .v x => x
  | .b t => .bool t
  | .k kd n => .int kd n
  | .p r o => .pointer (some ⟨ρ r, o, none⟩)
  | .q r o => .pointer (some ⟨ρ r, o, none⟩)
  | .s r o len cap => .slice (some ⟨ρ r, o, none⟩) len cap
  | .m r => .map (some (ρ r))
  | .agg cs => .agg (denL ρ cs).toArray
  | .tup cs => .tuple (denL ρ cs).toArray
  | .fn f a c => .func f (denL ρ a).toArray (denL ρ c).toArray
def denL (ρ : Nat → Nat) : List SV → List Value
  | [] => []
  | x :: r => den ρ x :: denL ρ r
end
theorem denL_eq (ρ : Nat → Nat) (cs : List SV) : denL ρ cs = cs.map (den ρ) := by
  induction cs with
  | nil => rfl
  | cons x r ih => simp [denL, ih]
@[simp] theorem denL_nil (ρ : Nat → Nat) : denL ρ [] = [] := rfl
@[simp] theorem denL_cons (ρ : Nat → Nat) (x : SV) (r : List SV) : denL ρ (x :: r) = den ρ x :: denL ρ r := rfl
@[simp] theorem denL_length (ρ : Nat → Nat) (cs : List SV) : (denL ρ cs).length = cs.length := by rw [denL_eq]; simp
theorem denL_append (ρ : Nat → Nat) (a b : List SV) : denL ρ (a ++ b) = denL ρ a ++ denL ρ b := by simp [denL_eq]
theorem denL_get (ρ : Nat → Nat) (cs : List SV) (i : Nat) : (denL ρ cs)[i]? = cs[i]?.map (den ρ) := by simp [denL_eq]
theorem denL_mapv (ρ : Nat → Nat) (vs : List Value) : denL ρ (vs.map SV.v) = vs := by
  rw [denL_eq, List.map_map]; simp [Function.comp_def, den]

/-- A value as a symbolic one: what is a number or a Bool is known. -/
def ofV : Value → SV
  | .bool t => .b t
  | .int kd n => .k kd n
  | x => .v x
@[simp] theorem den_ofV (ρ : Nat → Nat) (x : Value) : den ρ (ofV x) = x := by cases x <;> rfl
theorem denL_ofV (ρ : Nat → Nat) (vs : List Value) : denL ρ (vs.map ofV) = vs := by
  rw [denL_eq, List.map_map]; simp [Function.comp_def]

/-! ### Worlds: what a step keeps -/
structure Keeps (U : Nat → Prop) (w w' : World) : Prop where
  os : w'.os = w.os
  tape : w'.tape = w.tape
  output : w'.output = w.output
  size : w.heap.size ≤ w'.heap.size
  block : ∀ k, k < w.heap.size → ¬ U k → w'.heap[k]? = w.heap[k]?
theorem Keeps.refl (U : Nat → Prop) (w : World) : Keeps U w w := ⟨rfl, rfl, rfl, Nat.le_refl _, fun _ _ _ => rfl⟩
theorem Keeps.trans {U U' : Nat → Prop} {a b c : World} (h : Keeps U a b) (k : Keeps U' b c) (hs : ∀ j, U' j → U j ∨ a.heap.size ≤ j) : Keeps U a c :=
  ⟨k.os.trans h.os, k.tape.trans h.tape, k.output.trans h.output, Nat.le_trans h.size k.size,
   fun j hj hn => (k.block j (Nat.lt_of_lt_of_le hj h.size) (fun hu => (hs j hu).elim hn (fun h1 => absurd h1 (by omega)))).trans (h.block j hj hn)⟩
theorem Keeps.mono {U U' : Nat → Prop} {a b : World} (h : Keeps U a b) (hs : ∀ j, U j → U' j) : Keeps U' a b :=
  ⟨h.os, h.tape, h.output, h.size, fun j hj hn => h.block j hj (fun hu => hn (hs j hu))⟩
theorem Keeps.cell {U : Nat → Prop} {w w' : World} (h : Keeps U w w') {ad : Addr} {x : Value} (hc : w.cell? ad = some x) (hn : ¬ U ad.block) : w'.cell? ad = some x := by
  rw [World.cell?_of_block (w := w) (h.block ad.block (World.block_lt_of_cell? w ad hc) hn)]; exact hc

/-- Something that is known of blocks that nobody here may write. -/
structure Fact where
  G : Nat → Prop
  φ : World → Prop
  loc : ∀ {w w' : World}, φ w → (∀ k, G k → w'.heap[k]? = w.heap[k]?) → φ w'
/-- It holds, and speaks of no block that is owned. -/
def Fact.Holds (f : Fact) (w : World) (U : Nat → Prop) : Prop := f.φ w ∧ ∀ k, f.G k → ¬ U k ∧ k < w.heap.size
theorem Fact.mono (f : Fact) {w w' : World} {U U' : Nat → Prop} (h : f.Holds w U) (hk : Keeps U w w') (hs : ∀ k, U' k → U k ∨ w.heap.size ≤ k) : f.Holds w' U' :=
  ⟨f.loc h.1 fun k hG => hk.block k (h.2 k hG).2 (h.2 k hG).1, fun k hG => ⟨fun hu => (hs k hu).elim (h.2 k hG).1 (fun h1 => by have := (h.2 k hG).2; omega), Nat.lt_of_lt_of_le (h.2 k hG).2 hk.size⟩⟩
/-- A predicate on blocks that are owned: it hangs on them alone. -/
structure AR where
  A : World → Nat → (Nat → Prop) → Prop
  loc : ∀ {w w' : World} {b : Nat} {F : Nat → Prop}, A w b F → (∀ k, F k → w'.heap[k]? = w.heap[k]?) → A w' b F

inductive SObj where
  | cells (cs : List SV) (T : TypeId)
  | row (cs : List Value) (T : TypeId)
  | map (es : Array MapEntry) (clk : Nat)
  | iter (mr since : Nat) (seen : Array Nat) (stepped : Nat)
  | abs (A : AR)

structure SS where
  sl : List (Nat × SV)
  hp : List (Nat × SObj)
  nx : Nat
  fx : List Fact

/-- A block of cells whose first n cells are not frozen. -/
def CellsAt (w : World) (b : Nat) (cs : List Value) (T : TypeId) : Prop :=
  ∃ fz : Nat × Nat, w.heap[b]? = some (.cells cs.toArray T fz) ∧ (fz.1 = fz.2 ∨ cs.length ≤ fz.1)
def ObjOk (ρ : Nat → Nat) (o : SObj) (w : World) (b : Nat) (F : Nat → Prop) : Prop :=
  match o with
  | .cells cs T => (∀ k, F k ↔ k = b) ∧ CellsAt w b (denL ρ cs) T
  | .row cs T => (∀ k, F k ↔ k = b) ∧ CellsAt w b cs T
  | .map es clk => (∀ k, F k ↔ k = b) ∧ w.heap[b]? = some (.map es clk)
  | .iter mr since seen stepped => (∀ k, F k ↔ k = b) ∧ w.heap[b]? = some (.mapIter (some (ρ mr)) since seen stepped)
  | .abs A => A.A w b F

def Own (hp : List (Nat × SObj)) (F : Nat → Nat → Prop) (k : Nat) : Prop := ∃ r o, (r, o) ∈ hp ∧ F r k
structure Base (ρ : Nat → Nat) (F : Nat → Nat → Prop) (st : SS) (a : Act) (w : World) : Prop where
  slot : ∀ t x, (t, x) ∈ st.sl → a.tmps[t]? = some (den ρ x)
  obj : ∀ r o, (r, o) ∈ st.hp → ObjOk ρ o w (ρ r) (F r)
structure Shape (F : Nat → Nat → Prop) (hp : List (Nat × SObj)) (nx : Nat) (fx : List Fact) (w : World) : Prop where
  lt : ∀ r o, (r, o) ∈ hp → r < nx
  dis : ∀ r o r' o', (r, o) ∈ hp → (r', o') ∈ hp → r ≠ r' → ∀ k, F r k → ¬ F r' k
  bnd : ∀ r o, (r, o) ∈ hp → ∀ k, F r k → k < w.heap.size
  fact : ∀ f ∈ fx, f.Holds w (Own hp F)

/-- What the standing facts say of a world. -/
def FOk (fx : List Fact) (w : World) : Prop := ∀ f, f ∈ fx → f.φ w
theorem Shape.fok {F : Nat → Nat → Prop} {hp : List (Nat × SObj)} {nx : Nat} {fx : List Fact} {w : World} (h : Shape F hp nx fx w) : FOk fx w := fun f hf => (h.fact f hf).1

/-! ### Types -/
structure TI where
  und : TypeDesc
  size : Nat
  bytes : Nat
  zero : List SV
def tiOf (P : Program) (T : TypeId) : Option TI :=
  match P.underlying T, P.info? T with
  | some d, some i => match i.zero with
    | some z => some ⟨d, i.size, i.bytes, z.cells.toList.map ofV⟩
    | none => none
  | _, _ => none
def TOk (P : Program) (tt : List (Option TI)) : Prop := ∀ (T : Nat) (ti : TI), tt[T]? = some (some ti) → tiOf P T = some ti
theorem TOk.of_eq {P : Program} {tt : List (Option TI)} {n : Nat} (h : (List.range n).map (tiOf P) = tt) : TOk P tt := by
  intro T ti hT
  subst h
  rw [List.getElem?_map] at hT
  cases hr : (List.range n)[T]? with
  | none => rw [hr] at hT; simp at hT
  | some j =>
    rw [hr] at hT
    have : j = T := by
      have := List.getElem?_eq_some_iff.1 hr
      obtain ⟨h1, h2⟩ := this
      simpa using h2.symm
    subst this
    simpa using hT
def tyK : List (Option TI) → Nat → (TI → Prop) → Prop
  | [], _, _ => False
  | x :: _, 0, k => match x with | some ti => k ti | none => False
  | _ :: r, n + 1, k => tyK r n k
theorem tyK_elim {k : TI → Prop} : ∀ {tt : List (Option TI)} {T : Nat}, tyK tt T k → ∃ ti, tt[T]? = some (some ti) ∧ k ti
  | [], _, h => h.elim
  | x :: _, 0, h => by
    cases x with
    | none => exact h.elim
    | some ti => exact ⟨ti, rfl, h⟩
  | _ :: r, n + 1, h => by
    obtain ⟨ti, h1, h2⟩ := tyK_elim (tt := r) (T := n) h
    exact ⟨ti, by simpa using h1, h2⟩
structure TyFacts (P : Program) (T : TypeId) (ti : TI) : Prop where
  und : P.underlying T = some ti.und
  info : ∃ i z, P.info? T = some i ∧ i.size = ti.size ∧ i.bytes = ti.bytes ∧ i.zero = some z ∧ z.cells.toList.map ofV = ti.zero
theorem tyFacts {P : Program} {T : TypeId} {ti : TI} (h : tiOf P T = some ti) : TyFacts P T ti := by
  unfold tiOf at h
  split at h
  · rename_i d i hd hi
    split at h
    · rename_i z hz
      cases h
      exact ⟨hd, i, z, hi, rfl, rfl, hz, rfl⟩
    · cases h
  · cases h
section
variable {P : Program} {T : TypeId} {ti : TI} (h : TyFacts P T ti) (w : World)
include h
theorem TyFacts.run_underlying : (underlying T).run P w = .ok ti.und w := by simp [underlying, h.und]
theorem TyFacts.run_sizeOf : (sizeOf T).run P w = .ok ti.size w := by
  obtain ⟨i, z, hi, h1, _⟩ := h.info; simp [sizeOf, typeInfo, hi, h1]
theorem TyFacts.run_zero : ∃ z : Value, (zeroValue T).run P w = .ok z w ∧ z.cells.toList.map ofV = ti.zero := by
  obtain ⟨i, z, hi, h1, h2, h3, h4⟩ := h.info; exact ⟨z, by simp [zeroValue, typeInfo, hi, h3], h4⟩
end
def isAggD : TypeDesc → Bool
  | .struct _ => true
  | .array _ _ => true
  | _ => false
theorem TyFacts.run_isAgg {P : Program} {T : TypeId} {ti : TI} (h : TyFacts P T ti) (w : World) : (isAgg T).run P w = .ok (isAggD ti.und) w := by
  simp only [isAgg, Sem.run_bind, h.run_underlying, Result.andThen_ok]
  cases ti.und <;> rfl

/-! ### Reading slots, numbers, regions -/
def getK (t : Nat) : List (Nat × SV) → (SV → Prop) → Prop
  | [], _ => False
  | (t', x) :: r, k => match Nat.beq t t' with | true => k x | false => getK t r k
theorem getK_elim {t : Nat} {k : SV → Prop} : ∀ {sl : List (Nat × SV)}, getK t sl k → ∃ x, (t, x) ∈ sl ∧ k x
  | [], h => h.elim
  | (t', x) :: r, h => by
    unfold getK at h
    split at h
    · rename_i e
      have : t = t' := Nat.eq_of_beq_eq_true e
      subst this
      exact ⟨x, by simp, h⟩
    · obtain ⟨y, h1, h2⟩ := getK_elim h
      exact ⟨y, by simp [h1], h2⟩
def objK (r : Nat) : List (Nat × SObj) → (SObj → Prop) → Prop
  | [], _ => False
  | (r', x) :: l, k => match Nat.beq r r' with | true => k x | false => objK r l k
theorem objK_elim {r : Nat} {k : SObj → Prop} : ∀ {hp : List (Nat × SObj)}, objK r hp k → ∃ x, (r, x) ∈ hp ∧ k x
  | [], h => h.elim
  | (r', x) :: l, h => by
    unfold objK at h
    split at h
    · rename_i e
      have : r = r' := Nat.eq_of_beq_eq_true e
      subst this
      exact ⟨x, by simp, h⟩
    · obtain ⟨y, h1, h2⟩ := objK_elim h
      exact ⟨y, by simp [h1], h2⟩
def evK (st : SS) (x : Operand) (k : SV → Prop) : Prop :=
  match x with
  | .tmp t => getK t st.sl k
  | .const v => (match v with
    | .bool t => k (.b t)
    | .int kd n => k (.k kd n)
    | v => k (.v v))
  | .global g => k (.v (.pointer (some ⟨g, 0, none⟩)))
  | .func f => k (.fn (.func f) [] [])
theorem evK_elim {st : SS} {x : Operand} {k : SV → Prop} (h : evK st x k) : ∃ y, k y ∧ ∀ ρ F a w, Base ρ F st a w → a.eval x = den ρ y := by
  cases x with
  | tmp t =>
    obtain ⟨y, h1, h2⟩ := getK_elim h
    exact ⟨y, h2, fun ρ F a w hb => by simp [Act.eval, hb.slot t y h1]⟩
  | const v =>
    cases v <;> exact ⟨_, h, fun ρ F a w hb => by simp [Act.eval, den]⟩
  | global g => exact ⟨_, h, fun ρ F a w hb => rfl⟩
  | func f => exact ⟨_, h, fun ρ F a w hb => rfl⟩
def evLK (st : SS) : List Operand → (List SV → Prop) → Prop
  | [], k => k []
  | x :: r, k => evK st x fun y => evLK st r fun l => k (y :: l)
theorem evLK_elim {st : SS} : ∀ {xs : List Operand} {k : List SV → Prop}, evLK st xs k → ∃ l, k l ∧ ∀ ρ F a w, Base ρ F st a w → xs.map a.eval = denL ρ l
  | [], k, h => ⟨[], h, fun _ _ _ _ _ => rfl⟩
  | x :: r, k, h => by
    obtain ⟨y, h1, h2⟩ := evK_elim h
    obtain ⟨l, h3, h4⟩ := evLK_elim h1
    exact ⟨y :: l, h3, fun ρ F a w hb => by simp [h2 ρ F a w hb, h4 ρ F a w hb]⟩
def forceN (n : Nat) (k : Nat → Prop) : Prop :=
  match n + 1 with
  | 0 => k 0
  | m + 1 => k (@OfNat.ofNat Nat m (instOfNatNat m))
theorem forceN_elim {n : Nat} {k : Nat → Prop} (h : forceN n k) : k n := h
def forceI (n : Int) (k : Int → Prop) : Prop :=
  match n with
  | .ofNat m => forceN m fun m => k (m : Int)
  | .negSucc m => forceN (m + 1) fun m => k (-(m : Int))
theorem forceI_elim {n : Int} {k : Int → Prop} (h : forceI n k) : k n := by
  cases n with
  | ofNat m => exact forceN_elim (k := fun m => k (m : Int)) h
  | negSucc m => exact forceN_elim (n := m + 1) (k := fun m => k (-(m : Int))) h
def intK (x : SV) (k : IntKind → Int → Bool → Prop) : Prop :=
  match x with
  | .k kd n => k kd n true
  | .v (.int kd n) => k kd n false
  | _ => False
theorem intK_elim {x : SV} {k : IntKind → Int → Bool → Prop} (h : intK x k) : ∃ kd n kn, k kd n kn ∧ ∀ ρ, den ρ x = .int kd n := by
  unfold intK at h
  split at h
  · exact ⟨_, _, _, h, fun _ => rfl⟩
  · exact ⟨_, _, _, h, fun _ => rfl⟩
  · exact h.elim
def outI (kn : Bool) (kd : IntKind) (n : Int) (k : SV → Prop) : Prop :=
  match kn with
  | true => forceI n fun n => k (.k kd n)
  | false => k (.v (.int kd n))
theorem outI_elim {kn : Bool} {kd : IntKind} {n : Int} {k : SV → Prop} (h : outI kn kd n k) : ∃ y, k y ∧ ∀ ρ, den ρ y = .int kd n := by
  cases kn
  · exact ⟨_, h, fun _ => rfl⟩
  · exact ⟨_, forceI_elim (k := fun n => k (.k kd n)) h, fun _ => rfl⟩
def outB (kn : Bool) (t : Bool) (k : SV → Prop) : Prop :=
  match kn with
  | true => match t with
    | true => k (.b true)
    | false => k (.b false)
  | false => k (.v (.bool t))
theorem outB_elim {kn t : Bool} {k : SV → Prop} (h : outB kn t k) : ∃ y, k y ∧ ∀ ρ, den ρ y = .bool t := by
  cases kn
  · exact ⟨_, h, fun _ => rfl⟩
  · cases t <;> exact ⟨_, h, fun _ => rfl⟩
def limK (kd : IntKind) (k : Int → Prop) : Prop :=
  match kd with
  | .i8 => k 128
  | .i16 => k 32768
  | .i32 => k 2147483648
  | .i64 => k 9223372036854775808
  | .u8 => k 256
  | .u16 => k 65536
  | .u32 => k 4294967296
  | .u64 => k 18446744073709551616
theorem limK_elim {kd : IntKind} {k : Int → Prop} (h : limK kd k) : k (kd.max + 1) := by
  cases kd <;> exact h
theorem wrap_of_lt (kd : IntKind) (n : Int) (h0 : 0 ≤ n) (h1 : n < kd.max + 1) : kd.wrap n = n := by
  cases kd <;> simp [IntKind.wrap, IntKind.max, IntKind.signed, IntKind.bits] at * <;> omega
theorem wrap_i64_of (n : Int) (h0 : -9223372036854775808 ≤ n) (h1 : n < 9223372036854775808) : IntKind.i64.wrap n = n := by
  simp [IntKind.wrap, IntKind.signed, IntKind.bits]; omega
end Go.Proofs.YtekgjjanikicnaaDoor.Sx

namespace Go.Proofs.YtekgjjanikicnaaDoor.Sx
open Go
set_option linter.unusedVariables false
set_option linter.unusedSimpArgs false

/-- What an operation that only computes or reads is shown to do: it leaves the world alone and yields y. -/
def Yl (P : Program) (st : SS) (o : Oper) (y : SV) : Prop :=
  ∀ ρ F a w, Base ρ F st a w → FOk st.fx w → (execOp a.eval o).run P w = .ok (.value (den ρ y)) w

/-! ### Arithmetic -/
def bitz (op : BinOp) (kd : IntKind) (x y : Int) : Int :=
  match op with
  | .and => kd.wrap (BitVec.ofInt kd.bits x &&& BitVec.ofInt kd.bits y).toNat
  | .or => kd.wrap (BitVec.ofInt kd.bits x ||| BitVec.ofInt kd.bits y).toNat
  | .xor => kd.wrap (BitVec.ofInt kd.bits x ^^^ BitVec.ofInt kd.bits y).toNat
  | _ => kd.wrap (BitVec.ofInt kd.bits x &&& ~~~(BitVec.ofInt kd.bits y)).toNat
def sumK (kd : IntKind) (z : Int) (kn : Bool) (k : SV → Prop) : Prop :=
  match kn with
  | true => forceI (kd.wrap z) fun z => k (.k kd z)
  | false => match kd with
    | .i64 => (-9223372036854775808 ≤ z ∧ z < 9223372036854775808) ∧ k (.v (.int .i64 z))
    | kd => k (.v (.int kd (kd.wrap z)))
theorem sumK_elim {kd : IntKind} {z : Int} {kn : Bool} {k : SV → Prop} (h : sumK kd z kn k) : ∃ y, k y ∧ ∀ ρ, den ρ y = .int kd (kd.wrap z) := by
  unfold sumK at h
  split at h
  · exact ⟨_, forceI_elim (k := fun n => k (.k kd n)) h, fun _ => rfl⟩
  · split at h
    · exact ⟨_, h.2, fun _ => by rw [wrap_i64_of _ h.1.1 h.1.2]; rfl⟩
    · exact ⟨_, h, fun _ => rfl⟩
/-- 2 to the power of a shift's count. -/
def pw (kd : IntKind) (y : Int) : Nat := 2 ^ (min y.toNat kd.bits)
def shiftK (op : BinOp) (kd : IntKind) (x y : Int) (kx ky : Bool) (k : SV → Prop) : Prop :=
  match ky with
  | true => match decide (0 ≤ y) with
    | true => forceN (pw kd y) fun m => match op with
      | .shl => outI kx kd (kd.wrap (x * (m : Int))) k
      | .shr => outI kx kd (x / (m : Int)) k
      | _ => False
    | false => False
  | false => 0 ≤ y ∧ match op with
      | .shl => k (.v (.int kd (kd.wrap (x * ((pw kd y : Nat) : Int)))))
      | .shr => k (.v (.int kd (x / ((pw kd y : Nat) : Int))))
      | _ => False
theorem shift_run (P : Program) (op : BinOp) (kd yk : IntKind) (x y : Int) (hy : 0 ≤ y) (w : World) (z : Int)
    (hz : (op = .shl ∧ z = kd.wrap (x * ((pw kd y : Nat) : Int))) ∨ (op = .shr ∧ z = x / ((pw kd y : Nat) : Int))) :
    (Op.shift op kd x yk y).run P w = .ok (.int kd z) w := by
  have hc : ((pw kd y : Nat) : Int) = 2 ^ (min y.toNat kd.bits) := by simp [pw]
  rcases hz with ⟨rfl, rfl⟩ | ⟨rfl, rfl⟩
  · simp only [Op.shift]; rw [if_neg (by omega), hc]; rfl
  · simp only [Op.shift]; rw [if_neg (by omega), hc, Int.fdiv_eq_ediv_of_nonneg _ (by rw [← hc]; omega)]; rfl
theorem shiftK_elim {P : Program} {op : BinOp} {kd yk : IntKind} {x y : Int} {kx ky : Bool} {k : SV → Prop} (h : shiftK op kd x y kx ky k) :
    ∃ r, k r ∧ ∀ ρ w, (Op.shift op kd x yk y).run P w = .ok (den ρ r) w := by
  unfold shiftK at h
  split at h
  · split at h
    · rename_i hd
      have hy : 0 ≤ y := of_decide_eq_true hd
      have h := forceN_elim h
      split at h
      · obtain ⟨r, h1, h2⟩ := outI_elim h
        exact ⟨r, h1, fun ρ w => by rw [h2, shift_run P _ kd yk x y hy w _ (.inl ⟨rfl, rfl⟩)]⟩
      · obtain ⟨r, h1, h2⟩ := outI_elim h
        exact ⟨r, h1, fun ρ w => by rw [h2, shift_run P _ kd yk x y hy w _ (.inr ⟨rfl, rfl⟩)]⟩
      · exact h.elim
    · exact h.elim
  · obtain ⟨hy, h⟩ := h
    split at h
    · exact ⟨_, h, fun ρ w => shift_run P _ kd yk x y hy w _ (.inl ⟨rfl, rfl⟩)⟩
    · exact ⟨_, h, fun ρ w => shift_run P _ kd yk x y hy w _ (.inr ⟨rfl, rfl⟩)⟩
    · exact h.elim
def arithK (op : BinOp) (kd : IntKind) (x y : Int) (kn : Bool) (k : SV → Prop) : Prop :=
  match op with
  | .add => sumK kd (x + y) kn k
  | .sub => sumK kd (x - y) kn k
  | .mul => sumK kd (x * y) kn k
  | .quo => limK kd fun L => (0 ≤ x ∧ x < L ∧ 0 < y) ∧ outI kn kd (x / y) k
  | .rem => (0 ≤ x ∧ 0 < y) ∧ outI kn kd (x % y) k
  | .and => outI kn kd (bitz .and kd x y) k
  | .or => outI kn kd (bitz .or kd x y) k
  | .xor => outI kn kd (bitz .xor kd x y) k
  | .andNot => outI kn kd (bitz .andNot kd x y) k
  | .eql => outB kn (decide (x = y)) k
  | .neq => outB kn (decide (x ≠ y)) k
  | .lss => outB kn (decide (x < y)) k
  | .leq => outB kn (decide (x ≤ y)) k
  | .gtr => outB kn (decide (y < x)) k
  | .geq => outB kn (decide (y ≤ x)) k
  | _ => False
theorem arithK_elim {P : Program} {op : BinOp} {kd : IntKind} {x y : Int} {kn : Bool} {k : SV → Prop} {T : TypeId} (hop : op ≠ .shl ∧ op ≠ .shr) (h : arithK op kd x y kn k) :
    ∃ r, k r ∧ ∀ ρ w, (binOp op T (.int kd x) (.int kd y)).run P w = .ok (den ρ r) w := by
  have bin : ∀ w, (binOp op T (.int kd x) (.int kd y)).run P w = (match op with
    | .add | .sub | .mul => Op.intArith op kd x y
    | .quo | .rem => Op.intDiv op kd x y
    | .and | .or | .xor | .andNot => Op.intBits op kd x y
    | _ => Op.intCmp op x y).run P w := by
    intro w
    cases op <;> simp_all [binOp]
  unfold arithK at h
  split at h
  · obtain ⟨r, h1, h2⟩ := sumK_elim h; exact ⟨r, h1, fun ρ w => by rw [bin, h2]; rfl⟩
  · obtain ⟨r, h1, h2⟩ := sumK_elim h; exact ⟨r, h1, fun ρ w => by rw [bin, h2]; rfl⟩
  · obtain ⟨r, h1, h2⟩ := sumK_elim h; exact ⟨r, h1, fun ρ w => by rw [bin, h2]; rfl⟩
  · obtain ⟨⟨h0, h1, h2⟩, h3⟩ := limK_elim (k := fun L => (0 ≤ x ∧ x < L ∧ 0 < y) ∧ outI kn kd (x / y) k) h
    obtain ⟨r, h4, h5⟩ := outI_elim h3
    refine ⟨r, h4, fun ρ w => ?_⟩
    rw [bin, h5]
    simp only [Op.intDiv]
    rw [if_neg (by omega), Int.tdiv_eq_ediv_of_nonneg h0, wrap_of_lt]
    · rfl
    · exact Int.ediv_nonneg h0 (Int.le_of_lt h2)
    · exact Int.lt_of_le_of_lt (Int.ediv_le_self _ h0) h1
  · obtain ⟨⟨h0, h2⟩, h3⟩ := h
    obtain ⟨r, h4, h5⟩ := outI_elim h3
    refine ⟨r, h4, fun ρ w => ?_⟩
    rw [bin, h5]
    simp only [Op.intDiv]
    rw [if_neg (by omega), Int.tmod_eq_emod_of_nonneg h0]
    rfl
  · obtain ⟨r, h1, h2⟩ := outI_elim h; exact ⟨r, h1, fun ρ w => by rw [bin, h2]; rfl⟩
  · obtain ⟨r, h1, h2⟩ := outI_elim h; exact ⟨r, h1, fun ρ w => by rw [bin, h2]; rfl⟩
  · obtain ⟨r, h1, h2⟩ := outI_elim h; exact ⟨r, h1, fun ρ w => by rw [bin, h2]; rfl⟩
  · obtain ⟨r, h1, h2⟩ := outI_elim h; exact ⟨r, h1, fun ρ w => by rw [bin, h2]; rfl⟩
  · obtain ⟨r, h1, h2⟩ := outB_elim h; exact ⟨r, h1, fun ρ w => by rw [bin, h2]; simp [Op.intCmp]; rw [Bool.eq_iff_iff]; simp⟩
  · obtain ⟨r, h1, h2⟩ := outB_elim h; exact ⟨r, h1, fun ρ w => by rw [bin, h2]; simp [Op.intCmp]; rw [Bool.eq_iff_iff]; simp⟩
  · obtain ⟨r, h1, h2⟩ := outB_elim h; exact ⟨r, h1, fun ρ w => by rw [bin, h2]; rfl⟩
  · obtain ⟨r, h1, h2⟩ := outB_elim h; exact ⟨r, h1, fun ρ w => by rw [bin, h2]; rfl⟩
  · obtain ⟨r, h1, h2⟩ := outB_elim h; exact ⟨r, h1, fun ρ w => by rw [bin, h2]; rfl⟩
  · obtain ⟨r, h1, h2⟩ := outB_elim h; exact ⟨r, h1, fun ρ w => by rw [bin, h2]; rfl⟩
  · exact h.elim

/-! ### Comparing -/
/-- Is it nil? -/
def nilK (x : SV) (k : Bool → Prop) : Prop :=
  match x with
  | .p _ _ => k false
  | .q _ _ => k false
  | .s _ _ _ _ => k false
  | .m _ => k false
  | .v (.pointer none) => k true
  | .v (.pointer (some _)) => k false
  | .v (.slice none _ _) => k true
  | .v (.slice (some _) _ _) => k false
  | .v (.map none) => k true
  | .v (.map (some _)) => k false
  | _ => False
inductive NilKind where | ptr | slice | map
def nilKindOf : TypeDesc → Option NilKind
  | .pointer _ => some .ptr
  | .slice _ => some .slice
  | .map _ _ => some .map
  | _ => none
def nilCell : NilKind → Value → Option Bool
  | .ptr, .pointer a => some a.isNone
  | .slice, .slice a _ _ => some a.isNone
  | .map, .map a => some a.isNone
  | _, _ => none
/-- Two values of a type that is compared with nil alone; one of them is nil. -/
def eqNilK (tt : List (Option TI)) (T : TypeId) (x y : SV) (k : Bool → Prop) : Prop :=
  tyK tt T fun ti => match ti.und with
    | .pointer _ => (match x with
      | .v (.pointer none) => (match y with
        | .v (.pointer none) => k true
        | .v (.pointer (some _)) => k false
        | .p _ _ => k false
        | .q _ _ => k false
        | _ => False)
      | .v (.pointer (some _)) => (match y with | .v (.pointer none) => k false | _ => False)
      | .p _ _ => (match y with | .v (.pointer none) => k false | _ => False)
      | .q _ _ => (match y with | .v (.pointer none) => k false | _ => False)
      | _ => False)
    | .slice _ => (match y with
      | .v (.slice none _ _) => (match x with
        | .v (.slice none _ _) => k true
        | .v (.slice (some _) _ _) => k false
        | .s _ _ _ _ => k false
        | _ => False)
      | _ => False)
    | .map _ _ => (match y with
      | .v (.map none) => (match x with
        | .v (.map none) => k true
        | .v (.map (some _)) => k false
        | .m _ => k false
        | _ => False)
      | _ => False)
    | _ => False
section
variable {P : Program} {T : TypeId} (d : Nat) (w : World)
theorem eqIn_ptr_left {e : TypeId} (hu : ∀ w, (underlying T).run P w = .ok (.pointer e) w) (b : Option Addr) : (Op.equalIn (d + 1) T (.pointer none) (.pointer b)).run P w = .ok b.isNone w := by
  simp [Op.equalIn, hu]
theorem eqIn_ptr_right {e : TypeId} (hu : ∀ w, (underlying T).run P w = .ok (.pointer e) w) (b : Option Addr) : (Op.equalIn (d + 1) T (.pointer b) (.pointer none)).run P w = .ok b.isNone w := by
  cases b <;> simp [Op.equalIn, hu]
theorem eqIn_slice_right {e : TypeId} (hu : ∀ w, (underlying T).run P w = .ok (.slice e) w) (a : Option Addr) (n c n' c' : Nat) : (Op.equalIn (d + 1) T (.slice a n c) (.slice none n' c')).run P w = .ok a.isNone w := by
  cases a <;> simp [Op.equalIn, hu]
theorem eqIn_map_right {e f : TypeId} (hu : ∀ w, (underlying T).run P w = .ok (.map e f) w) (a : Option Nat) : (Op.equalIn (d + 1) T (.map a) (.map none)).run P w = .ok a.isNone w := by
  cases a <;> simp [Op.equalIn, hu]
end
theorem eqNilK_elim {P : Program} {tt : List (Option TI)} (ht : TOk P tt) {T : TypeId} {x y : SV} {k : Bool → Prop} (h : eqNilK tt T x y k) :
    ∃ t, k t ∧ ∀ ρ w, (Op.equal T (den ρ x) (den ρ y)).run P w = .ok t w ∧ (∀ o : BinOp, (o = .eql → (binOp o T (den ρ x) (den ρ y)).run P w = .ok (.bool t) w) ∧ (o = .neq → (binOp o T (den ρ x) (den ρ y)).run P w = .ok (.bool (!t)) w)) ∧
      (∀ o a b, (eqGuard o T a b (den ρ x) (den ρ y)).run P w = .ok () w) := by
  obtain ⟨ti, hti, h⟩ := tyK_elim h
  have hf := tyFacts (ht T ti hti)
  have hu := hf.run_underlying
  have fin : ∀ (t : Bool) (X Y : Value), (∀ w, (Op.equal T X Y).run P w = .ok t w) → (∃ a b, X = .pointer a ∧ Y = .pointer b) ∨ (∃ a n c a' n' c', X = .slice a n c ∧ Y = .slice a' n' c') ∨ (∃ a b, X = .map a ∧ Y = .map b) →
      ∀ w, (Op.equal T X Y).run P w = .ok t w ∧ (∀ o : BinOp, (o = .eql → (binOp o T X Y).run P w = .ok (.bool t) w) ∧ (o = .neq → (binOp o T X Y).run P w = .ok (.bool (!t)) w)) ∧ (∀ o a b, (eqGuard o T a b X Y).run P w = .ok () w) := by
    intro t X Y he hs w
    refine ⟨he w, fun o => ⟨fun ho => ?_, fun ho => ?_⟩, fun o a b => ?_⟩
    · subst ho
      rcases hs with ⟨a, b, rfl, rfl⟩ | ⟨a, n, c, a', n', c', rfl, rfl⟩ | ⟨a, b, rfl, rfl⟩ <;> simp [binOp, he w]
    · subst ho
      rcases hs with ⟨a, b, rfl, rfl⟩ | ⟨a, n, c, a', n', c', rfl, rfl⟩ | ⟨a, b, rfl, rfl⟩ <;> simp [binOp, he w]
    · rcases hs with ⟨a, b, rfl, rfl⟩ | ⟨a, n, c, a', n', c', rfl, rfl⟩ | ⟨a, b, rfl, rfl⟩ <;> (simp only [eqGuard]; split <;> rfl)
  split at h
  · rename_i e hd
    have hu' : ∀ w, (underlying T).run P w = .ok (.pointer e) w := fun w => by rw [← hd]; exact hu w
    repeat' (split at h)
    all_goals first
      | exact h.elim
      | (refine ⟨_, h, fun ρ w => fin _ _ _ (fun w => ?_) (.inl ⟨_, _, rfl, rfl⟩) w⟩; first | exact eqIn_ptr_left 9999 w hu' _ | exact eqIn_ptr_right 9999 w hu' _)
  · rename_i e hd
    have hu' : ∀ w, (underlying T).run P w = .ok (.slice e) w := fun w => by rw [← hd]; exact hu w
    repeat' (split at h)
    all_goals first
      | exact h.elim
      | (refine ⟨_, h, fun ρ w => fin _ _ _ (fun w => ?_) (.inr (.inl ⟨_, _, _, _, _, _, rfl, rfl⟩)) w⟩; exact eqIn_slice_right 9999 w hu' _ _ _ _ _)
  · rename_i e f hd
    have hu' : ∀ w, (underlying T).run P w = .ok (.map e f) w := fun w => by rw [← hd]; exact hu w
    repeat' (split at h)
    all_goals first
      | exact h.elim
      | (refine ⟨_, h, fun ρ w => fin _ _ _ (fun w => ?_) (.inr (.inr ⟨_, _, rfl, rfl⟩)) w⟩; exact eqIn_map_right 9999 w hu' _)
  · exact h.elim
end Go.Proofs.YtekgjjanikicnaaDoor.Sx

namespace Go.Proofs.YtekgjjanikicnaaDoor.Sx
open Go
set_option linter.unusedVariables false
set_option linter.unusedSimpArgs false

theorem add_at (b o j : Nat) : (⟨b, o, none⟩ : Addr).add j = ⟨b, o + j, none⟩ := by unfold Addr.add; split <;> simp_all
def dropS : List SV → Nat → (List SV → Prop) → Prop
  | l, 0, k => k l
  | [], _ + 1, _ => False
  | _ :: r, n + 1, k => dropS r n k
theorem dropS_elim {k : List SV → Prop} : ∀ {l : List SV} {n : Nat}, dropS l n k → n ≤ l.length ∧ k (l.drop n)
  | l, 0, h => ⟨Nat.zero_le _, by simpa [dropS] using h⟩
  | [], n + 1, h => h.elim
  | _ :: r, n + 1, h => by
    obtain ⟨h1, h2⟩ := dropS_elim (l := r) (n := n) h
    exact ⟨by simp; omega, by simpa using h2⟩
def takeS : List SV → Nat → (List SV → Prop) → Prop
  | _, 0, k => k []
  | [], _ + 1, _ => False
  | x :: r, n + 1, k => takeS r n fun l => k (x :: l)
theorem takeS_elim : ∀ {l : List SV} {n : Nat} {k : List SV → Prop}, takeS l n k → n ≤ l.length ∧ k (l.take n)
  | l, 0, k, h => ⟨Nat.zero_le _, by simpa [takeS] using h⟩
  | [], n + 1, k, h => h.elim
  | x :: r, n + 1, k, h => by
    obtain ⟨h1, h2⟩ := takeS_elim (l := r) (n := n) h
    exact ⟨by simp; omega, by simpa using h2⟩
def nthS : List SV → Nat → (SV → Prop) → Prop
  | [], _, _ => False
  | x :: _, 0, k => k x
  | _ :: r, n + 1, k => nthS r n k
theorem nthS_elim {k : SV → Prop} : ∀ {l : List SV} {n : Nat}, nthS l n k → ∃ x, l[n]? = some x ∧ k x
  | [], n, h => h.elim
  | x :: _, 0, h => ⟨x, rfl, h⟩
  | _ :: r, n + 1, h => by
    obtain ⟨x, h1, h2⟩ := nthS_elim (l := r) (n := n) h
    exact ⟨x, by simpa using h1, h2⟩

/-- A cell that a standing fact tells. -/
def FC (fx : List Fact) (ad : Addr) (x : Value) : Prop := ∃ f, f ∈ fx ∧ ∀ w, f.φ w → w.cell? ad = some x
theorem FC.cell {fx : List Fact} {ad : Addr} {x : Value} (h : FC fx ad x) {w : World} (hs : FOk fx w) : w.cell? ad = some x := by
  obtain ⟨f, hf, h⟩ := h
  exact h w (hs f hf)
/-- A row of cells from an address on, told by facts; of no address there are none. -/
def RowAt (fx : List Fact) (A : Option Addr) (l : List Value) : Prop := (A = none → l = []) ∧ ∀ ad, A = some ad → ∀ j y, l[j]? = some y → FC fx (ad.add j) y
theorem CellsAt.cell {w : World} {b : Nat} {cs : List Value} {T : TypeId} (h : CellsAt w b cs T) (o : Nat) : w.cell? ⟨b, o, none⟩ = cs[o]? := by
  obtain ⟨fz, h, _⟩ := h
  rw [cell_of_row w b o _ T fz h]; simp

/-- The n cells from a symbolic place on. -/
def readK (st : SS) (x : SV) (n : Nat) (k : List SV → Prop) : Prop :=
  match x with
  | .v (.slice A _ _) => ∃ l : List Value, (l.length = n ∧ RowAt st.fx A l) ∧ k (l.map SV.v)
  | .s r o _ _ => objK r st.hp fun ob => match ob with
    | .cells cs _ => ∃ l : List SV, ((cs.drop o).take n = l ∧ l.length = n) ∧ k l
    | .row xs _ => ∃ l : List Value, ((xs.drop o).take n = l ∧ l.length = n) ∧ k (l.map SV.v)
    | _ => False
  | _ => False
theorem run_cells_sub {P : Program} {w : World} {b o n : Nat} {cs : List Value} {T : TypeId} (h : CellsAt w b cs T) {l : List Value} (hl : (cs.drop o).take n = l) (hn : l.length = n) :
    (loadCells ⟨b, o, none⟩ n).run P w = .ok l.toArray w := by
  rw [← hn]
  refine run_loadCells_list w _ l fun j v hj => ?_
  rw [add_at, h.cell, ← hj, ← hl]
  have hjn : j < n := by
    have := List.getElem?_eq_some_iff.1 hj
    obtain ⟨h1, _⟩ := this
    omega
  rw [List.getElem?_take_of_lt hjn, List.getElem?_drop]
theorem readK_elim {P : Program} {st : SS} {x : SV} {n : Nat} {k : List SV → Prop} (h : readK st x n k) :
    ∃ l, k l ∧ l.length = n ∧ ∀ ρ F a w, Base ρ F st a w → FOk st.fx w → ∃ A L C, den ρ x = .slice A L C ∧
      (A = none → n = 0) ∧ ∀ ad, A = some ad → (loadCells ad n).run P w = .ok (denL ρ l).toArray w := by
  unfold readK at h
  split at h
  · obtain ⟨l, ⟨h1, h2⟩, h3⟩ := h
    refine ⟨_, h3, by simpa using h1, fun ρ F a w hb hs => ⟨_, _, _, rfl, fun hA => (by rw [← h1, h2.1 hA]; rfl), fun ad hA => ?_⟩⟩
    rw [denL_mapv, ← h1]
    exact run_loadCells_list w _ l fun j v hj => (h2.2 ad hA j v hj).cell hs
  · rename_i r o len cap
    obtain ⟨ob, h1, h2⟩ := objK_elim h
    split at h2
    · rename_i cs T
      obtain ⟨l, ⟨h3, h4⟩, h5⟩ := h2
      refine ⟨l, h5, h4, fun ρ F a w hb hs => ⟨_, _, _, rfl, fun hA => (by cases hA), fun ad hA => ?_⟩⟩
      cases hA
      have hc := (hb.obj _ _ h1).2
      refine run_cells_sub hc ?_ (by simpa using h4)
      rw [← h3]; simp [denL_eq, List.map_drop, List.map_take]
    · rename_i xs T
      obtain ⟨l, ⟨h3, h4⟩, h5⟩ := h2
      refine ⟨_, h5, by simpa using h4, fun ρ F a w hb hs => ⟨_, _, _, rfl, fun hA => (by cases hA), fun ad hA => ?_⟩⟩
      cases hA
      have hc := (hb.obj _ _ h1).2
      rw [denL_mapv]
      exact run_cells_sub hc h3 h4
    · exact h2.elim
  · exact h.elim

/-! ### load -/
def plainK (x : SV) (k : Value → Prop) : Prop :=
  match x with
  | .v x => k x
  | .b t => k (.bool t)
  | .k kd n => k (.int kd n)
  | _ => False
theorem plainK_elim {x : SV} {k : Value → Prop} (h : plainK x k) : ∃ y, k y ∧ ∀ ρ, den ρ x = y := by
  unfold plainK at h
  split at h <;> first | exact h.elim | exact ⟨_, h, fun _ => rfl⟩
def plainsK : List SV → (List Value → Prop) → Prop
  | [], k => k []
  | x :: r, k => plainK x fun y => plainsK r fun l => k (y :: l)
theorem plainsK_elim : ∀ {l : List SV} {k : List Value → Prop}, plainsK l k → ∃ vs, k vs ∧ ∀ ρ, denL ρ l = vs
  | [], k, h => ⟨[], h, fun _ => rfl⟩
  | x :: r, k, h => by
    obtain ⟨y, h1, h2⟩ := plainK_elim h
    obtain ⟨vs, h3, h4⟩ := plainsK_elim h1
    exact ⟨y :: vs, h3, fun ρ => by simp [h2 ρ, h4 ρ]⟩
theorem objK_mono {r : Nat} {f g : SObj → Prop} (hfg : ∀ ob, f ob → g ob) : ∀ {hp : List (Nat × SObj)}, objK r hp f → objK r hp g
  | [], h => h.elim
  | (r', x) :: l, h => by
    unfold objK at h ⊢
    split at h
    · exact hfg _ h
    · exact objK_mono hfg h
/-- The same, of cells that hang on no names. -/
def readPK (st : SS) (x : SV) (n : Nat) (k : List Value → Prop) : Prop :=
  match x with
  | .v (.slice A _ _) => ∃ l : List Value, (l.length = n ∧ RowAt st.fx A l) ∧ k l
  | .s r o _ _ => objK r st.hp fun ob => match ob with
    | .cells cs _ => dropS cs o fun l => takeS l n fun l => plainsK l k
    | .row xs _ => ∃ l : List Value, ((xs.drop o).take n = l ∧ l.length = n) ∧ k l
    | _ => False
  | _ => False
theorem readPK_elim {P : Program} {st : SS} {x : SV} {n : Nat} {k : List Value → Prop} (h : readPK st x n k) :
    ∃ l : List SV, (∃ vs : List Value, (∀ ρ, denL ρ l = vs) ∧ k vs) ∧ l.length = n ∧ ∀ ρ F a w, Base ρ F st a w → FOk st.fx w → ∃ A L C, den ρ x = .slice A L C ∧ (A = none → n = 0) ∧ ∀ ad, A = some ad → (loadCells ad n).run P w = .ok (denL ρ l).toArray w := by
  refine readK_elim ?_
  unfold readPK at h
  unfold readK
  split at h
  · obtain ⟨l, h1, h2⟩ := h
    exact ⟨l, h1, l, fun ρ => denL_mapv ρ l, h2⟩
  · refine objK_mono (fun ob h => ?_) h
    split at h
    · obtain ⟨h1, h2⟩ := dropS_elim h
      obtain ⟨h3, h4⟩ := takeS_elim h2
      obtain ⟨vs, h5, h6⟩ := plainsK_elim h4
      exact ⟨_, ⟨rfl, by rw [List.length_take]; omega⟩, vs, h6, h5⟩
    · obtain ⟨l, h1, h2⟩ := h
      exact ⟨l, h1, l, fun ρ => denL_mapv ρ l, h2⟩
    · exact h.elim
  · exact h.elim
def loadK (tt : List (Option TI)) (st : SS) (T : TypeId) (x : SV) (k : SV → Prop) : Prop :=
  tyK tt T fun ti => match isAggD ti.und with
    | true => (match x with
      | .p r o => objK r st.hp fun ob => (match ob with
        | .cells cs _ => dropS cs o fun l => takeS l ti.size fun l => k (.agg l)
        | .row xs _ => ∃ l : List Value, ((xs.drop o).take ti.size = l ∧ l.length = ti.size) ∧ k (.v (.agg ⟨l⟩))
        | _ => False)
      | .q r o => objK r st.hp fun ob => (match ob with
        | .cells cs _ => ∃ l : List SV, ((cs.drop o).take ti.size = l ∧ l.length = ti.size) ∧ k (.agg l)
        | .row xs _ => ∃ l : List Value, ((xs.drop o).take ti.size = l ∧ l.length = ti.size) ∧ k (.v (.agg ⟨l⟩))
        | _ => False)
      | .v (.pointer (some ad)) => ∃ l : List Value, (l.length = ti.size ∧ ∀ j y, l[j]? = some y → FC st.fx (ad.add j) y) ∧ k (.v (.agg ⟨l⟩))
      | _ => False)
    | false => (match x with
      | .p r o => objK r st.hp fun ob => (match ob with
        | .cells cs _ => nthS cs o k
        | .row xs _ => ∃ y, xs[o]? = some y ∧ k (.v y)
        | _ => False)
      | .q r o => objK r st.hp fun ob => (match ob with
        | .cells cs _ => ∃ y, cs[o]? = some y ∧ k y
        | .row xs _ => ∃ y, xs[o]? = some y ∧ k (.v y)
        | _ => False)
      | .v (.pointer (some ad)) => ∃ y, FC st.fx ad y ∧ k (.v y)
      | _ => False)
section
variable {P : Program} {T : TypeId} {ti : TI} (hT : TyFacts P T ti) {w : World}
include hT
theorem run_loadAt_agg (hg : isAggD ti.und = true) (ad : Addr) {l : List Value} (h : (loadCells ad ti.size).run P w = .ok l.toArray w) :
    (Instr.loadAt T (.pointer (some ad))).run P w = .ok (.agg l.toArray) w := by
  simp only [Instr.loadAt, Instr.sureAddr, loadVar, Sem.run_bind, Sem.run_pure, Result.andThen_ok, hT.run_isAgg, hg, if_true, hT.run_sizeOf, h]
theorem run_loadAt_one (hg : isAggD ti.und = false) (ad : Addr) {y : Value} (h : w.cell? ad = some y) :
    (Instr.loadAt T (.pointer (some ad))).run P w = .ok y w := by
  simp [Instr.loadAt, Instr.sureAddr, loadVar, hT.run_isAgg, hg, h]
end
theorem loadK_elim {P : Program} {tt : List (Option TI)} (ht : TOk P tt) {st : SS} {T : TypeId} {x : SV} {k : SV → Prop} (h : loadK tt st T x k) :
    ∃ y, k y ∧ ∀ ρ F a w, Base ρ F st a w → FOk st.fx w → (Instr.loadAt T (den ρ x)).run P w = .ok (den ρ y) w := by
  obtain ⟨ti, hti, h⟩ := tyK_elim h
  have hT := tyFacts (ht T ti hti)
  have aggC : ∀ (r o : Nat) (cs : List SV) (U : TypeId) (l : List SV), (r, SObj.cells cs U) ∈ st.hp → isAggD ti.und = true → (cs.drop o).take ti.size = l → l.length = ti.size →
      ∀ ρ F a w, Base ρ F st a w → FOk st.fx w → (Instr.loadAt T (.pointer (some ⟨ρ r, o, none⟩))).run P w = .ok (den ρ (.agg l)) w := by
    intro r o cs U l hm hg h1 h2 ρ F a w hb hs
    refine run_loadAt_agg hT hg _ (run_cells_sub (hb.obj _ _ hm).2 ?_ (by simpa using h2))
    rw [← h1]; simp [denL_eq, List.map_drop, List.map_take]
  have aggR : ∀ (r o : Nat) (xs : List Value) (U : TypeId) (l : List Value), (r, SObj.row xs U) ∈ st.hp → isAggD ti.und = true → (xs.drop o).take ti.size = l → l.length = ti.size →
      ∀ ρ F a w, Base ρ F st a w → FOk st.fx w → (Instr.loadAt T (.pointer (some ⟨ρ r, o, none⟩))).run P w = .ok (den ρ (.v (.agg ⟨l⟩))) w := by
    intro r o xs U l hm hg h1 h2 ρ F a w hb hs
    simp only [den]
    exact run_loadAt_agg hT hg _ (run_cells_sub (hb.obj _ _ hm).2 h1 h2)
  split at h
  · rename_i hg
    split at h
    · obtain ⟨ob, h1, h2⟩ := objK_elim h
      split at h2
      · obtain ⟨h3, h4⟩ := dropS_elim h2
        obtain ⟨h5, h6⟩ := takeS_elim h4
        exact ⟨_, h6, aggC _ _ _ _ _ h1 hg rfl (by simp at h5 ⊢; omega)⟩
      · obtain ⟨l, ⟨h3, h4⟩, h5⟩ := h2
        exact ⟨_, h5, aggR _ _ _ _ _ h1 hg h3 h4⟩
      · exact h2.elim
    · obtain ⟨ob, h1, h2⟩ := objK_elim h
      split at h2
      · obtain ⟨l, ⟨h3, h4⟩, h5⟩ := h2
        exact ⟨_, h5, aggC _ _ _ _ _ h1 hg h3 h4⟩
      · obtain ⟨l, ⟨h3, h4⟩, h5⟩ := h2
        exact ⟨_, h5, aggR _ _ _ _ _ h1 hg h3 h4⟩
      · exact h2.elim
    · obtain ⟨l, ⟨h3, h4⟩, h5⟩ := h
      refine ⟨_, h5, fun ρ F a w hb hs => ?_⟩
      simp only [den]
      refine run_loadAt_agg hT hg _ ?_
      rw [← h3]
      exact run_loadCells_list w _ l fun j v hj => (h4 j v hj).cell hs
    · exact h.elim
  · rename_i hg
    split at h
    · obtain ⟨ob, h1, h2⟩ := objK_elim h
      split at h2
      · obtain ⟨y, h3, h4⟩ := nthS_elim h2
        refine ⟨y, h4, fun ρ F a w hb hs => run_loadAt_one hT hg _ ?_⟩
        rw [(hb.obj _ _ h1).2.cell, denL_get, h3]; rfl
      · obtain ⟨y, h3, h4⟩ := h2
        refine ⟨_, h4, fun ρ F a w hb hs => run_loadAt_one hT hg _ ?_⟩
        rw [(hb.obj _ _ h1).2.cell, h3]; rfl
      · exact h2.elim
    · obtain ⟨ob, h1, h2⟩ := objK_elim h
      split at h2
      · obtain ⟨y, h3, h4⟩ := h2
        refine ⟨y, h4, fun ρ F a w hb hs => run_loadAt_one hT hg _ ?_⟩
        rw [(hb.obj _ _ h1).2.cell, denL_get, h3]; rfl
      · obtain ⟨y, h3, h4⟩ := h2
        refine ⟨_, h4, fun ρ F a w hb hs => run_loadAt_one hT hg _ ?_⟩
        rw [(hb.obj _ _ h1).2.cell, h3]; rfl
      · exact h2.elim
    · obtain ⟨y, h3, h4⟩ := h
      exact ⟨_, h4, fun ρ F a w hb hs => run_loadAt_one hT hg _ (h3.cell hs)⟩
    · exact h.elim

/-! ### addresses -/
/-- An address, moved on. -/
def moveK (x : SV) (n : Nat) (k : SV → Prop) : Prop :=
  match x with
  | .p r o => forceN (o + n) fun o => k (.p r o)
  | .q r o => k (.q r (o + n))
  | .v (.pointer (some ad)) => k (.v (.pointer (some (ad.add n))))
  | _ => False
theorem moveK_elim {x : SV} {n : Nat} {k : SV → Prop} (h : moveK x n k) : ∃ y, k y ∧ ∀ ρ, ∃ ad, den ρ x = .pointer (some ad) ∧ den ρ y = .pointer (some (ad.add n)) := by
  unfold moveK at h
  split at h
  · exact ⟨_, forceN_elim (k := fun o => k (.p _ o)) h, fun ρ => ⟨_, rfl, by rw [add_at]; rfl⟩⟩
  · exact ⟨_, h, fun ρ => ⟨_, rfl, by rw [add_at]; rfl⟩⟩
  · exact ⟨_, h, fun ρ => ⟨_, rfl, rfl⟩⟩
  · exact h.elim
def nthK {α : Type} : List α → Nat → (α → Prop) → Prop
  | [], _, _ => False
  | x :: _, 0, k => k x
  | _ :: r, n + 1, k => nthK r n k
theorem nthK_elim {α : Type} {k : α → Prop} : ∀ {l : List α} {n : Nat}, nthK l n k → ∃ x, l[n]? = some x ∧ k x
  | [], n, h => h.elim
  | x :: _, 0, h => ⟨x, rfl, h⟩
  | _ :: r, n + 1, h => by
    obtain ⟨x, h1, h2⟩ := nthK_elim (l := r) (n := n) h
    exact ⟨x, by simpa using h1, h2⟩
/-- A field of a struct: its place and its size, which is not nought. -/
def fieldK (tt : List (Option TI)) (S : TypeId) (f : Nat) (k : Nat → TI → Prop) : Prop :=
  tyK tt S fun si => match si.und with
    | .struct ⟨fs⟩ => nthK fs f fun fd => tyK tt fd.type fun fi => (match fi.size with | 0 => False | _ + 1 => k fd.offset fi)
    | _ => False
theorem fieldK_elim {P : Program} {tt : List (Option TI)} (ht : TOk P tt) {S : TypeId} {f : Nat} {k : Nat → TI → Prop} (h : fieldK tt S f k) :
    ∃ (fs : Array Field) (fd : Field) (fi : TI), P.underlying S = some (.struct fs) ∧ fs[f]? = some fd ∧ TyFacts P fd.type fi ∧ fi.size ≠ 0 ∧ k fd.offset fi := by
  obtain ⟨si, hsi, h⟩ := tyK_elim h
  have hS := tyFacts (ht S si hsi)
  split at h
  · rename_i fs hd
    obtain ⟨fd, h1, h2⟩ := nthK_elim h
    obtain ⟨fi, hfi, h3⟩ := tyK_elim h2
    split at h3
    · exact h3.elim
    · rename_i n hn
      exact ⟨⟨fs⟩, fd, fi, by rw [hS.und, hd], by simpa using h1, tyFacts (ht _ fi hfi), by omega, h3⟩
  · exact h.elim
theorem run_fieldAt {P : Program} {S : TypeId} {fs : Array Field} {fd : Field} {fi : TI} {f : Nat} (hS : P.underlying S = some (.struct fs)) (hf : fs[f]? = some fd) (hT : TyFacts P fd.type fi) (h0 : fi.size ≠ 0) (ad : Addr) (w : World) :
    (Instr.fieldAt S (.pointer (some ad)) f).run P w = .ok (.pointer (some (ad.add fd.offset))) w := by
  simp [Instr.fieldAt, Instr.sureAddr, underlying, hS, hf, fieldPlace, hT.run_sizeOf, h0]
/-- An index within bounds. -/
def inK (kn : Bool) (i : Int) (n : Nat) (k : Prop) : Prop :=
  match kn with
  | true => match decide (0 ≤ i ∧ i < (n : Int)) with
    | true => k
    | false => False
  | false => (0 ≤ i ∧ i < (n : Int)) ∧ k
theorem inK_elim {kn : Bool} {i : Int} {n : Nat} {k : Prop} (h : inK kn i n k) : (0 ≤ i ∧ i < (n : Int)) ∧ k := by
  unfold inK at h
  split at h
  · split at h
    · rename_i hd; exact ⟨of_decide_eq_true hd, h⟩
    · exact h.elim
  · exact h
/-- An index, or a bound, as a natural number. -/
def natK (kn : Bool) (i : Int) (k : Nat → Prop) : Prop :=
  match kn with
  | true => match decide (0 ≤ i) with
    | true => forceN i.toNat k
    | false => False
  | false => ∃ n : Nat, i = (n : Int) ∧ k n
theorem natK_elim {kn : Bool} {i : Int} {k : Nat → Prop} (h : natK kn i k) : 0 ≤ i ∧ k i.toNat := by
  unfold natK at h
  split at h
  · split at h
    · rename_i hd; exact ⟨of_decide_eq_true hd, forceN_elim h⟩
    · exact h.elim
  · obtain ⟨n, rfl, h1⟩ := h
    exact ⟨by omega, by rw [Int.toNat_natCast]; exact h1⟩
def idxK (kn : Bool) (i : Int) (len : Nat) (k : Nat → Prop) : Prop := natK kn i fun n => n < len ∧ k n
def leK (kn : Bool) (i : Int) (len : Nat) (k : Nat → Prop) : Prop := natK kn i fun n => n ≤ len ∧ k n
theorem idxK_elim {kn : Bool} {i : Int} {len : Nat} {k : Nat → Prop} (h : idxK kn i len k) : (0 ≤ i ∧ i < (len : Int)) ∧ k i.toNat := by
  obtain ⟨h0, h1, h2⟩ := natK_elim h
  exact ⟨⟨h0, by omega⟩, h2⟩
theorem leK_elim {kn : Bool} {i : Int} {len : Nat} {k : Nat → Prop} (h : leK kn i len k) : (0 ≤ i ∧ i ≤ (len : Int)) ∧ k i.toNat := by
  obtain ⟨h0, h1, h2⟩ := natK_elim h
  exact ⟨⟨h0, by omega⟩, h2⟩
theorem cast_succ (n : Nat) : (n : Int) + 1 = ((n + 1 : Nat) : Int) := rfl
def indexAtK (tt : List (Option TI)) (T : TypeId) (x ix : SV) (k : SV → Prop) : Prop :=
  intK ix fun _ i kn => tyK tt T fun ti => match ti.und with
    | .array n e => tyK tt e fun ei => (match kn with
      | true => inK true i n (forceN (i.toNat * ei.size) fun d => moveK x d k)
      | false => idxK kn i n fun m => forceN ei.size fun z => (match x with
        | .p r o => k (.q r (o + m * z))
        | .q r o => k (.q r (o + m * z))
        | .v (.pointer (some ad)) => k (.v (.pointer (some (ad.add (m * z)))))
        | _ => False))
    | .slice e => tyK tt e fun ei => forceN ei.size fun z => (match x with
      | .s r o len _ => idxK kn i len fun m => k (.q r (o + m * z))
      | .v (.slice A len _) => idxK kn i len fun m => ∃ ad, A = some ad ∧ k (.v (.pointer (some (ad.add (m * z)))))
      | _ => False)
    | _ => False
theorem indexAtK_elim {P : Program} {tt : List (Option TI)} (ht : TOk P tt) {T : TypeId} {x ix : SV} {k : SV → Prop} (h : indexAtK tt T x ix k) :
    ∃ y, k y ∧ ∀ ρ w, (Instr.indexAt T (den ρ x) (den ρ ix)).run P w = .ok (den ρ y) w := by
  obtain ⟨kd, i, kn, h, hi⟩ := intK_elim h
  obtain ⟨ti, hti, h⟩ := tyK_elim h
  have hT := tyFacts (ht T ti hti)
  split at h
  · rename_i n e hd
    obtain ⟨ei, hei, h⟩ := tyK_elim h
    have hE := tyFacts (ht e ei hei)
    have hu : ∀ w, (underlying T).run P w = .ok (.array n e) w := fun w => by rw [← hd]; exact hT.run_underlying w
    have fin : ∀ ad w (j : Value), (0 ≤ i ∧ i < (n : Int)) → (∃ kk, j = .int kk i) → (Instr.indexAt T (.pointer (some ad)) j).run P w = .ok (.pointer (some (ad.add (i.toNat * ei.size)))) w := by
      intro ad w j hb hj
      obtain ⟨kk, rfl⟩ := hj
      simp [Instr.indexAt, asIntOf, hu, Instr.sureAddr, hE.run_sizeOf, hb]
    split at h
    · obtain ⟨hb, h⟩ := inK_elim h
      have h := forceN_elim h
      obtain ⟨y, h1, h2⟩ := moveK_elim h
      refine ⟨y, h1, fun ρ w => ?_⟩
      obtain ⟨ad, h3, h4⟩ := h2 ρ
      rw [h3, h4]
      exact fin ad w _ hb ⟨kd, hi ρ⟩
    · obtain ⟨hb, h⟩ := idxK_elim h
      have h := forceN_elim h
      split at h
      · exact ⟨_, h, fun ρ w => by simp only [den]; rw [← add_at]; exact fin _ w _ hb ⟨kd, hi ρ⟩⟩
      · exact ⟨_, h, fun ρ w => by simp only [den]; rw [← add_at]; exact fin _ w _ hb ⟨kd, hi ρ⟩⟩
      · exact ⟨_, h, fun ρ w => fin _ w _ hb ⟨kd, hi ρ⟩⟩
      · exact h.elim
  · rename_i e hd
    obtain ⟨ei, hei, h⟩ := tyK_elim h
    have hE := tyFacts (ht e ei hei)
    have hu : ∀ w, (underlying T).run P w = .ok (.slice e) w := fun w => by rw [← hd]; exact hT.run_underlying w
    have fin : ∀ ad (len cap : Nat) w (j : Value), (0 ≤ i ∧ i < (len : Int)) → (∃ kk, j = .int kk i) → (Instr.indexAt T (.slice (some ad) len cap) j).run P w = .ok (.pointer (some (ad.add (i.toNat * ei.size)))) w := by
      intro ad len cap w j hb hj
      obtain ⟨kk, rfl⟩ := hj
      simp [Instr.indexAt, asIntOf, hu, hE.run_sizeOf, hb]
    have h := forceN_elim h
    split at h
    · obtain ⟨h1, h2⟩ := idxK_elim h
      exact ⟨_, h2, fun ρ w => by simp only [den]; rw [← add_at]; exact fin _ _ _ w _ h1 ⟨kd, hi ρ⟩⟩
    · obtain ⟨h1, ad, rfl, h2⟩ := idxK_elim h
      exact ⟨_, h2, fun ρ w => fin _ _ _ w _ h1 ⟨kd, hi ρ⟩⟩
    · exact h.elim
  · exact h.elim

/-! ### parts of values -/
def sbyte (s : ByteArray) (i : Nat) : UInt8 := s.data.toList.getD i 0
def partK (ti : TI) (cs : List SV) (o : Nat) (k : SV → Prop) : Prop :=
  match isAggD ti.und with
  | true => dropS cs o fun l => takeS l ti.size fun l => k (.agg l)
  | false => nthS cs o k
theorem partK_elim {P : Program} {T : TypeId} {ti : TI} (hT : TyFacts P T ti) {cs : List SV} {o : Nat} {k : SV → Prop} (h : partK ti cs o k) :
    ∃ y, k y ∧ ∀ ρ w, (part T (denL ρ cs).toArray o).run P w = .ok (den ρ y) w := by
  unfold partK at h
  split at h
  · rename_i hg
    obtain ⟨h3, h4⟩ := dropS_elim h
    obtain ⟨h5, h6⟩ := takeS_elim h4
    refine ⟨_, h6, fun ρ w => ?_⟩
    simp only [part, Sem.run_bind, hT.run_isAgg, hg, Result.andThen_ok, if_true, hT.run_sizeOf, Sem.run_pure, den]
    congr 2
    simp [denL_eq, List.map_drop, List.map_take]
  · rename_i hg
    obtain ⟨y, h3, h4⟩ := nthS_elim h
    refine ⟨y, h4, fun ρ w => ?_⟩
    simp [part, hT.run_isAgg, hg, denL_get, h3]
def indexK (tt : List (Option TI)) (T : TypeId) (x ix : SV) (k : SV → Prop) : Prop :=
  intK ix fun _ i kn => tyK tt T fun ti => match ti.und with
    | .string => (match x with
      | .v (.string s) => idxK kn i s.size fun m => k (.v (.int .u8 ((sbyte s m).toNat : Int)))
      | _ => False)
    | .array n e => tyK tt e fun ei => (match x with
      | .agg cs => (match kn with
        | true => inK true i n (forceN (i.toNat * ei.size) fun d => partK ei cs d k)
        | false => (match isAggD ei.und with
          | true => False
          | false => idxK kn i n fun m => forceN ei.size fun z => ∃ y, cs[m * z]? = some y ∧ k y))
      | _ => False)
    | _ => False
theorem indexK_elim {P : Program} {tt : List (Option TI)} (ht : TOk P tt) {T : TypeId} {x ix : SV} {k : SV → Prop} (h : indexK tt T x ix k) :
    ∃ y, k y ∧ ∀ ρ w, (Instr.index T (den ρ x) (den ρ ix)).run P w = .ok (den ρ y) w := by
  obtain ⟨kd, i, kn, h, hi⟩ := intK_elim h
  obtain ⟨ti, hti, h⟩ := tyK_elim h
  have hT := tyFacts (ht T ti hti)
  split at h
  · rename_i hd
    have hu : ∀ w, (underlying T).run P w = .ok .string w := fun w => by rw [← hd]; exact hT.run_underlying w
    split at h
    · rename_i s _ _
      obtain ⟨⟨h0, h1⟩, h2⟩ := idxK_elim h
      refine ⟨_, h2, fun ρ w => ?_⟩
      have hlt : i.toNat < s.size := by omega
      have hg : s[i.toNat]? = some s[i.toNat] := getElem?_pos s i.toNat hlt
      have hb : sbyte s i.toNat = s[i.toNat] := by
        unfold sbyte
        have h2 : i.toNat < s.data.toList.length := by rw [Array.length_toList]; exact hlt
        simp only [List.getD_eq_getElem?_getD, List.getElem?_eq_getElem h2, Option.getD_some, Array.getElem_toList]; rfl
      simp only [den, hi ρ, Instr.index, asIntOf, Sem.run_bind, Sem.run_pure, Result.andThen_ok, hu, h0, if_true, hg, hb]
    · exact h.elim
  · rename_i n e hd
    have hu : ∀ w, (underlying T).run P w = .ok (.array n e) w := fun w => by rw [← hd]; exact hT.run_underlying w
    obtain ⟨ei, hei, h⟩ := tyK_elim h
    have hE := tyFacts (ht e ei hei)
    split at h
    · rename_i cs _ _ _
      have fin : ∀ (y : SV) (_ : 0 ≤ i ∧ i < (n : Int)) (_ : ∀ ρ w, (part e (denL ρ cs).toArray (i.toNat * ei.size)).run P w = .ok (den ρ y) w),
          ∀ ρ w, (Instr.index T (den ρ (.agg cs)) (den ρ ix)).run P w = .ok (den ρ y) w := by
        intro y hb hp ρ w
        simp only [den, hi ρ, Instr.index, asIntOf, Sem.run_bind, Sem.run_pure, Result.andThen_ok, hu, hb, and_self, if_true, hE.run_sizeOf, hp]
      split at h
      · obtain ⟨hb, h⟩ := inK_elim h
        have h := forceN_elim h
        obtain ⟨y, h1, h2⟩ := partK_elim hE h
        exact ⟨y, h1, fin y hb h2⟩
      · split at h
        · exact h.elim
        · rename_i hg
          obtain ⟨hb, h⟩ := idxK_elim h
          obtain ⟨y, h1, h2⟩ := forceN_elim h
          refine ⟨y, h2, fin y hb fun ρ w => ?_⟩
          simp [part, hE.run_isAgg, hg, denL_get, h1]
    · exact h.elim
  · exact h.elim
def fieldVK (tt : List (Option TI)) (S : TypeId) (x : SV) (f : Nat) (k : SV → Prop) : Prop :=
  fieldK tt S f fun o fi => match x with
    | .agg cs => partK fi cs o k
    | .v (.agg a) => partK fi (a.toList.map SV.v) o k
    | _ => False
theorem fieldVK_elim {P : Program} {tt : List (Option TI)} (ht : TOk P tt) {S : TypeId} {x : SV} {f : Nat} {k : SV → Prop} (h : fieldVK tt S x f k) :
    ∃ y, k y ∧ ∀ ρ w, (Instr.field S (den ρ x) f).run P w = .ok (den ρ y) w := by
  obtain ⟨fs, fd, fi, h1, h2, h3, h4, h5⟩ := fieldK_elim ht h
  split at h5
  · obtain ⟨y, h6, h7⟩ := partK_elim h3 h5
    exact ⟨y, h6, fun ρ w => by simp [den, Instr.field, underlying, h1, h2, asAgg, h7]⟩
  · obtain ⟨y, h6, h7⟩ := partK_elim h3 h5
    refine ⟨y, h6, fun ρ w => ?_⟩
    have h8 := h7 ρ w
    rw [denL_mapv, Array.toArray_toList] at h8
    simp [den, Instr.field, underlying, h1, h2, asAgg, h8]
  · exact h5.elim
end Go.Proofs.YtekgjjanikicnaaDoor.Sx

namespace Go.Proofs.YtekgjjanikicnaaDoor.Sx
open Go
set_option linter.unusedVariables false
set_option linter.unusedSimpArgs false

/-! ### slicing -/
def upK (st : SS) (hi : Option Operand) (len cap : Nat) (k : Nat → Prop) : Prop :=
  match hi with
  | none => k len
  | some x => evK st x fun v => intK v fun _ i kn => leK kn i cap k
def loK (st : SS) (lo : Option Operand) (h : Nat) (k : Option Nat → Prop) : Prop :=
  match lo with
  | none => k none
  | some x => evK st x fun v => intK v fun _ i kn => leK kn i h fun n => k (some n)
theorem run_sliceBound {P : Program} {i : Int} {kd : IntKind} {y : Nat} {c : BoundsCode} (h : 0 ≤ i ∧ i ≤ (y : Int)) (w : World) : (Instr.sliceBound (.int kd i) y c).run P w = .ok i.toNat w := by
  simp [Instr.sliceBound, asIntOf, h]
theorem upK_elim {P : Program} {st : SS} {hi : Option Operand} {len cap : Nat} {k : Nat → Prop} (h : upK st hi len cap k) :
    ∃ n, k n ∧ (hi = none ∧ n = len ∨ ∃ x, hi = some x ∧ ∀ ρ F a w, Base ρ F st a w → ∀ c, (Instr.sliceBound (a.eval x) cap c).run P w = .ok n w) := by
  unfold upK at h
  split at h
  · exact ⟨_, h, .inl ⟨rfl, rfl⟩⟩
  · rename_i x
    obtain ⟨y, h1, h2⟩ := evK_elim h
    obtain ⟨kd, i, kn, h3, h5⟩ := intK_elim h1
    obtain ⟨h3, h4⟩ := leK_elim h3
    refine ⟨_, h4, .inr ⟨x, rfl, fun ρ F a w hb c => ?_⟩⟩
    rw [h2 ρ F a w hb, h5]
    exact run_sliceBound h3 w
theorem loK_elim {P : Program} {st : SS} {lo : Option Operand} {h' : Nat} {k : Option Nat → Prop} (h : loK st lo h' k) :
    ∃ n, k n ∧ (lo = none ∧ n = none ∨ ∃ x m, lo = some x ∧ n = some m ∧ ∀ ρ F a w, Base ρ F st a w → ∀ c, (Instr.sliceBound (a.eval x) h' c).run P w = .ok m w) := by
  unfold loK at h
  split at h
  · exact ⟨_, h, .inl ⟨rfl, rfl⟩⟩
  · rename_i x
    obtain ⟨y, h1, h2⟩ := evK_elim h
    obtain ⟨kd, i, kn, h3, h5⟩ := intK_elim h1
    obtain ⟨h3, h4⟩ := leK_elim h3
    refine ⟨_, h4, .inr ⟨x, _, rfl, rfl, fun ρ F a w hb c => ?_⟩⟩
    rw [h2 ρ F a w hb, h5]
    exact run_sliceBound h3 w
def bndK (st : SS) (lo hi : Option Operand) (len cap : Nat) (k : Option Nat → Nat → Prop) : Prop :=
  upK st hi len cap fun h => loK st lo h fun l => k l h
theorem bndK_elim {P : Program} {st : SS} {lo hi : Option Operand} {len cap : Nat} {k : Option Nat → Nat → Prop} (h : bndK st lo hi len cap k) :
    ∃ l n, k l n ∧ ∀ ρ F a w, Base ρ F st a w → ∀ b, (Instr.sliceBounds b len cap (lo.map a.eval) (hi.map a.eval) none).run P w = .ok (l.getD 0, n, cap) w := by
  obtain ⟨n, h1, h2⟩ := upK_elim (P := P) h
  obtain ⟨l, h3, h4⟩ := loK_elim (P := P) h1
  refine ⟨l, n, h3, fun ρ F a w hb b => ?_⟩
  rcases h2 with ⟨rfl, rfl⟩ | ⟨x, rfl, h2⟩ <;> rcases h4 with ⟨rfl, rfl⟩ | ⟨y, m, rfl, rfl, h4⟩
  · simp [Instr.sliceBounds]
  · simp [Instr.sliceBounds, h4 ρ F a w hb]
  · simp [Instr.sliceBounds, h2 ρ F a w hb]
  · simp [Instr.sliceBounds, h2 ρ F a w hb, h4 ρ F a w hb]
/-- Where a slice begins that is cut from l on. -/
def offs (cap l o z : Nat) : Nat := if cap = l then o else o + l * z
def cutK (r o cap z : Nat) (l : Option Nat) (h : Nat) (k : SV → Prop) : Prop :=
  match l with
  | none => k (.s r o h cap)
  | some l => k (.s r (offs cap l o z) (h - l) (cap - l))
theorem cutK_elim {r o cap z h : Nat} {l : Option Nat} {k : SV → Prop} (hk : cutK r o cap z l h k) :
    ∃ y, k y ∧ ∀ ρ, den ρ y = .slice (some (if cap = l.getD 0 then ⟨ρ r, o, none⟩ else (⟨ρ r, o, none⟩ : Addr).add (l.getD 0 * z))) (h - l.getD 0) (cap - l.getD 0) := by
  cases l with
  | none => refine ⟨_, hk, fun ρ => ?_⟩; simp [den, add_at]
  | some l => refine ⟨_, hk, fun ρ => ?_⟩; simp only [den, Option.getD_some, add_at, offs]; split <;> rfl
def sliceK (tt : List (Option TI)) (st : SS) (T : TypeId) (x : SV) (lo hi : Option Operand) (k : SV → Prop) : Prop :=
  tyK tt T fun ti => match ti.und with
    | .array n e => tyK tt e fun ei => forceN ei.size fun z => (match x with
      | .p r o => bndK st lo hi n n fun l h => cutK r o n z l h k
      | .q r o => bndK st lo hi n n fun l h => cutK r o n z l h k
      | _ => False)
    | .slice e => tyK tt e fun ei => forceN ei.size fun z => (match x with
      | .s r o len cap => bndK st lo hi len cap fun l h => cutK r o cap z l h k
      | .v (.slice A len cap) => bndK st lo hi len cap fun l h => (match l with
        | none => k (.v (.slice A h cap))
        | some l => k (.v (.slice (A.map fun ad => if cap = l then ad else ad.add (l * z)) (h - l) (cap - l))))
      | _ => False)
    | .string => (match x with
      | .v (.string s) => bndK st lo hi s.size s.size fun l h => k (.v (.string (s.extract (l.getD 0) h)))
      | _ => False)
    | _ => False
theorem sliceK_elim {P : Program} {tt : List (Option TI)} (ht : TOk P tt) {st : SS} {T : TypeId} {x : SV} {lo hi : Option Operand} {k : SV → Prop} (h : sliceK tt st T x lo hi k) :
    ∃ y, k y ∧ ∀ ρ F a w, Base ρ F st a w → (Instr.sliceAt T (den ρ x) (lo.map a.eval) (hi.map a.eval) none).run P w = .ok (den ρ y) w := by
  obtain ⟨ti, hti, h1⟩ := tyK_elim h
  clear h
  have hT := tyFacts (ht T ti hti)
  split at h1
  · rename_i n e hd
    have hu : ∀ w, (underlying T).run P w = .ok (.array n e) w := fun w => by rw [← hd]; exact hT.run_underlying w
    obtain ⟨ei, hei, h⟩ := tyK_elim h1
    clear h1
    have hE := tyFacts (ht e ei hei)
    replace h := forceN_elim h
    have fin : ∀ (r o : Nat), bndK st lo hi n n (fun l h => cutK r o n ei.size l h k) → ∃ y, k y ∧ ∀ ρ F a w, Base ρ F st a w → (Instr.sliceAt T (.pointer (some ⟨ρ r, o, none⟩)) (lo.map a.eval) (hi.map a.eval) none).run P w = .ok (den ρ y) w := by
      intro r o hb
      obtain ⟨l, h, h1, h2⟩ := bndK_elim (P := P) hb
      obtain ⟨y, h3, h4⟩ := cutK_elim h1
      refine ⟨y, h3, fun ρ F a w hb => ?_⟩
      simp [Instr.sliceAt, hu, Instr.sureAddr, h2 ρ F a w hb, hE.run_sizeOf, h4]
    split at h
    · exact fin _ _ h
    · exact fin _ _ h
    · exact h.elim
  · rename_i e hd
    have hu : ∀ w, (underlying T).run P w = .ok (.slice e) w := fun w => by rw [← hd]; exact hT.run_underlying w
    obtain ⟨ei, hei, h⟩ := tyK_elim h1
    clear h1
    have hE := tyFacts (ht e ei hei)
    replace h := forceN_elim h
    split at h
    · obtain ⟨l, n, h1, h2⟩ := bndK_elim (P := P) h
      obtain ⟨y, h3, h4⟩ := cutK_elim h1
      refine ⟨y, h3, fun ρ F a w hb => ?_⟩
      simp only [Instr.sliceAt, Instr.slice, den, Sem.run_bind, hu, Result.andThen_ok, h2 ρ F a w hb, hE.run_sizeOf, Sem.run_pure, h4]
      congr 2
      split <;> simp_all
    · obtain ⟨l, n, h1, h2⟩ := bndK_elim (P := P) h
      rename_i A len cap
      cases l with
      | none =>
        refine ⟨_, h1, fun ρ F a w hb => ?_⟩
        cases A <;> simp only [Instr.sliceAt, Instr.slice, den, Sem.run_bind, hu, Result.andThen_ok, h2 ρ F a w hb, hE.run_sizeOf, Sem.run_pure] <;> simp [Addr.add]
      | some l =>
        refine ⟨_, h1, fun ρ F a w hb => ?_⟩
        cases A
        · simp only [Instr.sliceAt, Instr.slice, den, Sem.run_bind, hu, Result.andThen_ok, h2 ρ F a w hb, hE.run_sizeOf, Sem.run_pure, Option.getD_some, Option.map_none]
          simp
        · simp only [Instr.sliceAt, Instr.slice, den, Sem.run_bind, hu, Result.andThen_ok, h2 ρ F a w hb, hE.run_sizeOf, Sem.run_pure, Option.getD_some, Option.map_some]
          congr 2
          split <;> simp_all
    · exact h.elim
  · rename_i hd
    have hu : ∀ w, (underlying T).run P w = .ok .string w := fun w => by rw [← hd]; exact hT.run_underlying w
    split at h1
    · obtain ⟨l, n, h3, h2⟩ := bndK_elim (P := P) h1
      refine ⟨_, h3, fun ρ F a w hb => ?_⟩
      simp [Instr.sliceAt, Instr.slice, den, hu, h2 ρ F a w hb]
    · exact h1.elim
  · exact h1.elim

/-! ### conversions -/
def bv (b : UInt8) : Value := .int .u8 (b.toNat : Int)
def toIntK (kd : IntKind) (n : Int) (kn : Bool) (k : SV → Prop) : Prop :=
  match kn with
  | true => forceI (kd.wrap n) fun n => k (.k kd n)
  | false => match kd with
    | .i64 => (-9223372036854775808 ≤ n ∧ n < 9223372036854775808) ∧ k (.v (.int .i64 n))
    | kd => k (.v (.int kd (kd.wrap n)))
theorem toIntK_elim {kd : IntKind} {n : Int} {kn : Bool} {k : SV → Prop} (h : toIntK kd n kn k) : ∃ y, k y ∧ ∀ ρ, den ρ y = .int kd (kd.wrap n) := sumK_elim h
def convK (tt : List (Option TI)) (st : SS) (src dst : TypeId) (x : SV) (k : SV → Prop) : Prop :=
  tyK tt src fun si => tyK tt dst fun di => match di.und with
    | .int kd => intK x fun _ n kn => toIntK kd n kn k
    | .string => (match si.und with
      | .string => (match x with
        | .v (.string s) => k (.v (.string s))
        | _ => False)
      | .int _ => intK x fun _ n _ => (0 ≤ n ∧ n < 128) ∧ k (.v (.string ⟨#[UInt8.ofNat n.toNat]⟩))
      | .slice e => tyK tt e fun ei => (match ei.und with
        | .int .u8 => (match x with
          | .s r o len cap => readPK st (.s r o len cap) len fun l => ∃ bs : List UInt8, l = bs.map bv ∧ k (.v (.string ⟨bs.toArray⟩))
          | .v (.slice A len cap) => readPK st (.v (.slice A len cap)) len fun l => ∃ bs : List UInt8, l = bs.map bv ∧ k (.v (.string ⟨bs.toArray⟩))
          | _ => False)
        | _ => False)
      | _ => False)
    | _ => False
theorem bytes_back (bs : List UInt8) : bs.map bv = (bs.map fun b => (b.toNat : Int)).map (Value.int .u8) := by simp [bv, Function.comp_def]
theorem run_toString {P : Program} {w : World} {ad : Addr} {len cap : Nat} {bs : List UInt8} (h : (loadCells ad len).run P w = .ok (bs.map bv).toArray w) :
    (Conv.bytesToString (.slice (some ad) len cap)).run P w = .ok (.string ⟨bs.toArray⟩) w := by
  rw [bytes_back] at h
  rw [run_bytesToString w ad len cap _ h]
  congr 2
  rw [foldl_push_bytes]
  congr 1
  have h0 : ByteArray.empty.data = #[] := rfl
  rw [h0]
  simp [Function.comp_def]
theorem encode_small {n : Int} (h0 : 0 ≤ n) (h1 : n < 128) : Utf8.encode n = ⟨#[UInt8.ofNat n.toNat]⟩ := by
  obtain ⟨k, rfl⟩ := Int.eq_ofNat_of_zero_le h0
  have hk : k < 128 := by omega
  have all : ∀ k : Fin 128, Utf8.encode (k.1 : Int) = ⟨#[UInt8.ofNat ((k.1 : Int)).toNat]⟩ := by decide
  exact all ⟨k, hk⟩
theorem convK_elim {P : Program} {tt : List (Option TI)} (ht : TOk P tt) {st : SS} {src dst : TypeId} {x : SV} {k : SV → Prop} (h : convK tt st src dst x k) :
    ∃ y, k y ∧ ∀ ρ F a w, Base ρ F st a w → FOk st.fx w → (convert src dst (den ρ x)).run P w = .ok (den ρ y) w := by
  obtain ⟨si, hsi, h1⟩ := tyK_elim h
  clear h
  obtain ⟨di, hdi, h⟩ := tyK_elim h1
  clear h1
  have hS := (tyFacts (ht _ si hsi)).run_underlying
  have hD := (tyFacts (ht _ di hdi)).run_underlying
  split at h
  · rename_i kd hd
    obtain ⟨_, n, kn, h1, h2⟩ := intK_elim h
    obtain ⟨y, h3, h4⟩ := toIntK_elim h1
    refine ⟨y, h3, fun ρ F a w hb hs => ?_⟩
    simp only [convert, Sem.run_bind, hS, hD, Result.andThen_ok, h2, h4, hd]
    rfl
  · rename_i hd
    split at h
    · rename_i hs
      split at h
      · refine ⟨_, h, fun ρ F a w hb hs' => ?_⟩
        simp only [convert, Sem.run_bind, hS, hD, Result.andThen_ok, hs, hd, den]
        rfl
      · exact h.elim
    · obtain ⟨_, n, kn, h1, h2⟩ := intK_elim h
      obtain ⟨⟨h3, h4⟩, h5⟩ := h1
      refine ⟨_, h5, fun ρ F a w hb hs' => ?_⟩
      simp only [convert, Sem.run_bind, hS, hD, Result.andThen_ok, h2, hd, den, Conv.intToString]
      rw [encode_small h3 h4]
      rfl
    · rename_i e hs
      obtain ⟨ei, hei, h1⟩ := tyK_elim h
      clear h
      have hE := (tyFacts (ht _ ei hei)).run_underlying
      split at h1
      · rename_i he
        have fin : ∀ (ad : Addr) (len cap : Nat) (bs : List UInt8) (w : World), (loadCells ad len).run P w = .ok (bs.map bv).toArray w → (convert src dst (.slice (some ad) len cap)).run P w = .ok (.string ⟨bs.toArray⟩) w := by
          intro ad len cap bs w hl
          simp only [convert, Sem.run_bind, hS, hD, Result.andThen_ok, hs, hd, hE, he]
          exact run_toString hl
        split at h1
        · obtain ⟨l, ⟨_, h2, bs, rfl, h3⟩, h4, h5⟩ := readPK_elim (P := P) h1
          refine ⟨_, h3, fun ρ F a w hb hs' => ?_⟩
          obtain ⟨A, L, C, h6, h7, h8⟩ := h5 ρ F a w hb hs'
          simp only [den, Value.slice.injEq] at h6
          obtain ⟨rfl, rfl, rfl⟩ := h6
          exact fin _ _ _ _ _ (by rw [← h2 ρ]; exact h8 _ rfl)
        · obtain ⟨l, ⟨_, h2, bs, rfl, h3⟩, h4, h5⟩ := readPK_elim (P := P) h1
          refine ⟨_, h3, fun ρ F a w hb hs' => ?_⟩
          obtain ⟨A, L, C, h6, h7, h8⟩ := h5 ρ F a w hb hs'
          simp only [den, Value.slice.injEq] at h6
          obtain ⟨rfl, rfl, rfl⟩ := h6
          rename_i A' _ _
          cases A' with
          | none =>
            have h9 := h7 rfl
            subst h9
            have h10 : bs = [] := by
              have h11 := congrArg List.length (h2 ρ)
              rw [denL_length, h4, List.length_map] at h11
              exact List.length_eq_zero_iff.1 h11.symm
            subst h10
            simp only [convert, Sem.run_bind, hS, hD, Result.andThen_ok, hs, hd, hE, he, den, Conv.bytesToString]
            rfl
          | some ad => exact fin _ _ _ _ _ (by rw [← h2 ρ]; exact h8 _ rfl)
        · exact h1.elim
      · exact h1.elim
    · exact h.elim
  · exact h.elim

/-! ### lengths, the smaller and the greater -/
def lenK (tt : List (Option TI)) (st : SS) (T : TypeId) (x : SV) (k : SV → Prop) : Prop :=
  tyK tt T fun ti => match ti.und with
    | .string => (match x with
      | .v (.string s) => k (.v (.int .i64 (s.size : Int)))
      | _ => False)
    | .slice _ => (match x with
      | .s _ _ len _ => k (.v (.int .i64 (len : Int)))
      | .v (.slice _ len _) => k (.v (.int .i64 (len : Int)))
      | _ => False)
    | .array n _ => k (.k .i64 (n : Int))
    | .pointer b => tyK tt b fun bi => (match bi.und with
      | .array n _ => k (.k .i64 (n : Int))
      | _ => False)
    | .map _ _ => (match x with
      | .m r => objK r st.hp fun ob => (match ob with
        | .map es _ => k (.v (.int .i64 (es.size : Int)))
        | _ => False)
      | _ => False)
    | _ => False
theorem lenK_elim {P : Program} {tt : List (Option TI)} (ht : TOk P tt) {st : SS} {T : TypeId} {x : SV} {k : SV → Prop} (h : lenK tt st T x k) :
    ∃ y, k y ∧ ∀ ρ F a w, Base ρ F st a w → ∀ ty, (Builtin.len_ #[T] ty #[den ρ x]).run P w = .ok (den ρ y) w := by
  obtain ⟨ti, hti, h1⟩ := tyK_elim h
  clear h
  have hT := tyFacts (ht T ti hti)
  have hu := hT.run_underlying
  split at h1
  · rename_i hd
    split at h1
    · exact ⟨_, h1, fun ρ F a w hb ty => by simp [Builtin.len_, hu, hd, den, goInt]⟩
    · exact h1.elim
  · rename_i e hd
    split at h1
    · exact ⟨_, h1, fun ρ F a w hb ty => by simp [Builtin.len_, hu, hd, den, goInt]⟩
    · exact ⟨_, h1, fun ρ F a w hb ty => by simp [Builtin.len_, hu, hd, den, goInt]⟩
    · exact h1.elim
  · rename_i n e hd
    exact ⟨_, h1, fun ρ F a w hb ty => by simp [Builtin.len_, hu, hd, den, goInt]⟩
  · rename_i b hd
    obtain ⟨bi, hbi, h⟩ := tyK_elim h1
    have hB := (tyFacts (ht _ bi hbi)).run_underlying
    split at h
    · rename_i n e he
      exact ⟨_, h, fun ρ F a w hb ty => by simp [Builtin.len_, hu, hd, den, goInt, hB, he]⟩
    · exact h.elim
  · rename_i kt e hd
    split at h1
    · rename_i r
      obtain ⟨ob, h2, h3⟩ := objK_elim h1
      split at h3
      · refine ⟨_, h3, fun ρ F a w hb ty => ?_⟩
        have ho := (hb.obj _ _ h2).2
        simp [Builtin.len_, hu, hd, den, goInt, getObj, Sem.run, ho]
      · exact h3.elim
    · exact h1.elim
  · exact h1.elim
def capK (tt : List (Option TI)) (T : TypeId) (x : SV) (k : SV → Prop) : Prop :=
  tyK tt T fun ti => match ti.und with
    | .slice _ => (match x with
      | .s _ _ _ cap => k (.v (.int .i64 (cap : Int)))
      | .v (.slice _ _ cap) => k (.v (.int .i64 (cap : Int)))
      | _ => False)
    | _ => False
theorem capK_elim {P : Program} {tt : List (Option TI)} (ht : TOk P tt) {T : TypeId} {x : SV} {k : SV → Prop} (h : capK tt T x k) :
    ∃ y, k y ∧ ∀ ρ w ty, (Builtin.cap_ #[T] ty #[den ρ x]).run P w = .ok (den ρ y) w := by
  obtain ⟨ti, hti, h1⟩ := tyK_elim h
  clear h
  have hT := tyFacts (ht T ti hti)
  have hu := hT.run_underlying
  split at h1
  · rename_i e hd
    split at h1
    · exact ⟨_, h1, fun ρ w ty => by simp [Builtin.cap_, hu, hd, den, goInt]⟩
    · exact ⟨_, h1, fun ρ w ty => by simp [Builtin.cap_, hu, hd, den, goInt]⟩
    · exact h1.elim
  · exact h1.elim
def minK (x y : SV) (k : SV → Prop) : Prop :=
  intK x fun kd a kx => intK y fun _ b ky => outI (kx && ky) kd (if b < a then b else a) k
theorem minK_elim {P : Program} {x y : SV} {k : SV → Prop} (h : minK x y k) : ∃ z, k z ∧ ∀ ρ w ts ty, (Builtin.min_ ts ty #[den ρ x, den ρ y]).run P w = .ok (den ρ z) w := by
  obtain ⟨kd, a, kx, h1, h2⟩ := intK_elim h
  obtain ⟨_, b, ky, h3, h4⟩ := intK_elim h1
  obtain ⟨z, h5, h6⟩ := outI_elim h3
  exact ⟨z, h5, fun ρ w ts ty => by simp [Builtin.min_, Builtin.min2, h2, h4, h6]⟩
def maxK (x y : SV) (k : SV → Prop) : Prop :=
  intK x fun kd a kx => intK y fun _ b ky => outI (kx && ky) kd (if a < b then b else a) k
theorem maxK_elim {P : Program} {x y : SV} {k : SV → Prop} (h : maxK x y k) : ∃ z, k z ∧ ∀ ρ w ts ty, (Builtin.max_ ts ty #[den ρ x, den ρ y]).run P w = .ok (den ρ z) w := by
  obtain ⟨kd, a, kx, h1, h2⟩ := intK_elim h
  obtain ⟨_, b, ky, h3, h4⟩ := intK_elim h1
  obtain ⟨z, h5, h6⟩ := outI_elim h3
  exact ⟨z, h5, fun ρ w ts ty => by simp [Builtin.max_, Builtin.max2, h2, h4, h6, GT.gt]⟩
end Go.Proofs.YtekgjjanikicnaaDoor.Sx

namespace Go.Proofs.YtekgjjanikicnaaDoor.Sx
open Go
set_option linter.unusedVariables false
set_option linter.unusedSimpArgs false

def Ag (n : Nat) (ρ ρ' : Nat → Nat) : Prop := ∀ r, r < n → ρ' r = ρ r
theorem Ag.refl (n : Nat) (ρ : Nat → Nat) : Ag n ρ ρ := fun _ _ => rfl
theorem Ag.trans {n m : Nat} {a b c : Nat → Nat} (h : Ag n a b) (k : Ag m b c) (hn : n ≤ m) : Ag n a c := fun r hr => (k r (by omega)).trans (h r hr)
theorem Ag.mono {n m : Nat} {a b : Nat → Nat} (h : Ag m a b) (hn : n ≤ m) : Ag n a b := fun r hr => h r (by omega)
structure HpOk (ρ : Nat → Nat) (F : Nat → Nat → Prop) (hp : List (Nat × SObj)) (nx : Nat) (fx : List Fact) (w : World) : Prop where
  obj : ∀ ρ', Ag nx ρ ρ' → ∀ r o, (r, o) ∈ hp → ObjOk ρ' o w (ρ' r) (F r)
  shape : Shape F hp nx fx w
structure Bs where
  n0 : Nat
  ρ0 : Nat → Nat
  w0 : World
  U0 : Nat → Prop
  fx0 : List Fact
structure OkAt (B : Bs) (ρ : Nat → Nat) (F : Nat → Nat → Prop) (st : SS) (sz : Nat) (a : Act) (w : World) : Prop where
  slot : ∀ ρ', Ag st.nx ρ ρ' → ∀ t x, (t, x) ∈ st.sl → a.tmps[t]? = some (den ρ' x)
  heap : HpOk ρ F st.hp st.nx st.fx w
  size : a.tmps.size = sz
  base : Ag B.n0 B.ρ0 ρ
  n0 : B.n0 ≤ st.nx
  keeps : Keeps B.U0 B.w0 w
  own : ∀ k, Own st.hp F k → B.U0 k ∨ B.w0.heap.size ≤ k
  facts : ∀ f, f ∈ st.fx → f ∈ B.fx0 ∨ ∀ k, f.G k → B.U0 k ∨ B.w0.heap.size ≤ k
  defers : a.defers = []
theorem OkAt.toBase {B : Bs} {ρ : Nat → Nat} {F : Nat → Nat → Prop} {st : SS} {sz : Nat} {a : Act} {w : World} (h : OkAt B ρ F st sz a w) {ρ' : Nat → Nat} (hr : Ag st.nx ρ ρ') : Base ρ' F st a w :=
  ⟨h.slot ρ' hr, h.heap.obj ρ' hr⟩
/-- What is yielded does not hang on regions that are not there yet. -/
theorem Yl.robust {P : Program} {st : SS} {o : Oper} {y : SV} (hy : Yl P st o y) {B : Bs} {ρ : Nat → Nat} {F : Nat → Nat → Prop} {sz : Nat} {a : Act} {w : World} (h : OkAt B ρ F st sz a w) {ρ' : Nat → Nat} (hr : Ag st.nx ρ ρ') : den ρ' y = den ρ y := by
  have h1 := hy ρ' F a w (h.toBase hr) h.heap.shape.fok
  have h2 := hy ρ F a w (h.toBase (Ag.refl _ _)) h.heap.shape.fok
  rw [h1] at h2
  simpa using h2

def updR {α : Type} (ρ : Nat → α) (n : Nat) (b : α) : Nat → α := fun r => if r = n then b else ρ r
theorem updR_same {α : Type} (ρ : Nat → α) (n : Nat) (b : α) : updR ρ n b n = b := if_pos rfl
theorem updR_ne {α : Type} (ρ : Nat → α) {n r : Nat} (b : α) (h : r ≠ n) : updR ρ n b r = ρ r := if_neg h
theorem Ag.updR {n : Nat} (ρ : Nat → Nat) (b : Nat) : Ag n ρ (updR ρ n b) := fun _ hr => updR_ne ρ b (by omega)
theorem CellsAt.loc {w w' : World} {b : Nat} {cs : List Value} {T : TypeId} (h : CellsAt w b cs T) (e : w'.heap[b]? = w.heap[b]?) : CellsAt w' b cs T := by
  obtain ⟨fz, h1, h2⟩ := h; exact ⟨fz, by rw [e]; exact h1, h2⟩
theorem ObjOk.loc {ρ : Nat → Nat} {o : SObj} {w w' : World} {b : Nat} {F : Nat → Prop} (h : ObjOk ρ o w b F) (e : ∀ k, F k → w'.heap[k]? = w.heap[k]?) : ObjOk ρ o w' b F := by
  cases o with
  | cells cs T => exact ⟨h.1, h.2.loc (e b ((h.1 b).2 rfl))⟩
  | row cs T => exact ⟨h.1, h.2.loc (e b ((h.1 b).2 rfl))⟩
  | map es clk => exact ⟨h.1, by rw [e b ((h.1 b).2 rfl)]; exact h.2⟩
  | iter mr since seen stepped => exact ⟨h.1, by rw [e b ((h.1 b).2 rfl)]; exact h.2⟩
  | abs A => exact A.loc h e

theorem Own.mono {hp hp' : List (Nat × SObj)} {F : Nat → Nat → Prop} (h : ∀ e, e ∈ hp → e ∈ hp') {k : Nat} (ho : Own hp F k) : Own hp' F k := by
  obtain ⟨r, o, h1, h2⟩ := ho; exact ⟨r, o, h _ h1, h2⟩

/-- A world in which only blocks that are not owned any more have turned, and a new region. -/
theorem HpOk.new {ρ : Nat → Nat} {F : Nat → Nat → Prop} {hp hp1 : List (Nat × SObj)} {nx : Nat} {fx : List Fact} {w w' : World} (h : HpOk ρ F hp nx fx w)
    (hsub : ∀ e, e ∈ hp1 → e ∈ hp) {U : Nat → Prop} (hk : Keeps U w w') (hU : ∀ k, U k → Own hp F k) (hU1 : ∀ k, U k → ¬ Own hp1 F k)
    {o : SObj} {b : Nat} {G : Nat → Prop} (ho : ∀ ρ', Ag nx ρ ρ' → ObjOk ρ' o w' b G) (hG : ∀ k, G k → (Own hp F k ∧ ¬ Own hp1 F k) ∨ w.heap.size ≤ k) (hG' : ∀ k, G k → k < w'.heap.size) :
    HpOk (updR ρ nx b) (updR F nx G) ((nx, o) :: hp1) (nx + 1) fx w' := by
  have lt1 : ∀ r x, (r, x) ∈ hp1 → r < nx := fun r x hm => h.shape.lt r x (hsub _ hm)
  have own1 : ∀ r x, (r, x) ∈ hp1 → ∀ k, F r k → Own hp1 F k := fun r x hm k hF => ⟨r, x, hm, hF⟩
  refine ⟨fun ρ' hr r x hm => ?_, ?_, ?_, ?_, ?_⟩
  · have hag : Ag nx ρ ρ' := fun j hj => by rw [hr j (by omega), updR_ne _ _ (by omega)]
    rcases List.mem_cons.1 hm with e | hm
    · cases e
      have hb : ρ' nx = b := by rw [hr nx (by omega), updR_same]
      rw [hb, updR_same]
      exact ho ρ' hag
    · rw [updR_ne _ _ (by have := lt1 r x hm; omega)]
      refine (h.obj ρ' hag r x (hsub _ hm)).loc fun k hF => hk.block k (h.shape.bnd r x (hsub _ hm) k hF) fun hu => hU1 k hu (own1 r x hm k hF)
  · intro r x hm
    rcases List.mem_cons.1 hm with e | hm
    · cases e; omega
    · have := lt1 r x hm; omega
  · intro r x r' x' hm hm' hne k
    rcases List.mem_cons.1 hm with e | hm <;> rcases List.mem_cons.1 hm' with e' | hm'
    · cases e; cases e'; exact absurd rfl hne
    · cases e
      have hlt := lt1 r' x' hm'
      rw [updR_same, updR_ne _ _ (by omega)]
      intro hg hf
      rcases hG k hg with h1 | h1
      · exact h1.2 (own1 r' x' hm' k hf)
      · have := h.shape.bnd r' x' (hsub _ hm') k hf; omega
    · cases e'
      have hlt := lt1 r x hm
      rw [updR_same, updR_ne _ _ (by omega)]
      intro hf hg
      rcases hG k hg with h1 | h1
      · exact h1.2 (own1 r x hm k hf)
      · have := h.shape.bnd r x (hsub _ hm) k hf; omega
    · have hlt := lt1 r x hm
      have hlt' := lt1 r' x' hm'
      rw [updR_ne _ _ (by omega), updR_ne _ _ (by omega)]
      exact h.shape.dis r x r' x' (hsub _ hm) (hsub _ hm') hne k
  · intro r x hm k
    rcases List.mem_cons.1 hm with e | hm
    · cases e; rw [updR_same]; exact hG' k
    · have hlt := lt1 r x hm
      rw [updR_ne _ _ (by omega)]
      intro hf
      have := h.shape.bnd r x (hsub _ hm) k hf
      have := hk.size
      omega
  · intro f hf
    refine f.mono (h.shape.fact f hf) (hk.mono hU) fun k hk' => ?_
    obtain ⟨r, x, hm, hF⟩ := hk'
    rcases List.mem_cons.1 hm with e | hm
    · cases e
      rw [updR_same] at hF
      exact (hG k hF).imp (fun h1 => h1.1) id
    · have hlt := lt1 r x hm
      rw [updR_ne _ _ (by omega)] at hF
      exact .inl ⟨r, x, hsub _ hm, hF⟩
theorem own_new {F : Nat → Nat → Prop} {hp1 : List (Nat × SObj)} {nx : Nat} {o : SObj} {G : Nat → Prop} (lt1 : ∀ r x, (r, x) ∈ hp1 → r < nx) {k : Nat}
    (h : Own ((nx, o) :: hp1) (updR F nx G) k) : G k ∨ Own hp1 F k := by
  obtain ⟨r, x, hm, hF⟩ := h
  rcases List.mem_cons.1 hm with e | hm
  · cases e; rw [updR_same] at hF; exact .inl hF
  · have hlt := lt1 r x hm
    rw [updR_ne _ _ (by omega)] at hF
    exact .inr ⟨r, x, hm, hF⟩

/-- One region has turned, in its own blocks alone. -/
theorem HpOk.upd {ρ : Nat → Nat} {F : Nat → Nat → Prop} {hp hp1 : List (Nat × SObj)} {nx : Nat} {fx : List Fact} {w w' : World} (h : HpOk ρ F hp nx fx w) {r0 : Nat} {o : SObj}
    (hm1 : ∀ r x, (r, x) ∈ hp1 → (r ≠ r0 ∧ (r, x) ∈ hp) ∨ (r = r0 ∧ x = o ∧ ∃ y, (r0, y) ∈ hp)) (hk : Keeps (F r0) w w') (hex : ∃ y, (r0, y) ∈ hp)
    (ho : ∀ ρ', Ag nx ρ ρ' → ObjOk ρ' o w' (ρ' r0) (F r0)) :
    HpOk ρ F hp1 nx fx w' ∧ ∀ k, Own hp1 F k → Own hp F k := by
  have hown : ∀ k, Own hp1 F k → Own hp F k := by
    intro k hk
    obtain ⟨r, x, hm, hF⟩ := hk
    rcases hm1 r x hm with ⟨_, h2⟩ | ⟨rfl, rfl, y, h2⟩
    · exact ⟨r, x, h2, hF⟩
    · exact ⟨r, y, h2, hF⟩
  obtain ⟨y0, hy0⟩ := hex
  have hk' : Keeps (Own hp F) w w' := hk.mono fun k hF => ⟨r0, y0, hy0, hF⟩
  refine ⟨⟨fun ρ' hr r x hm => ?_, ?_, ?_, ?_, ?_⟩, hown⟩
  · rcases hm1 r x hm with ⟨h1, h2⟩ | ⟨rfl, rfl, _⟩
    · exact (h.obj ρ' hr r x h2).loc fun k hF => hk.block k (h.shape.bnd r x h2 k hF) (h.shape.dis r x r0 y0 h2 hy0 h1 k hF)
    · exact ho ρ' hr
  · intro r x hm
    rcases hm1 r x hm with ⟨_, h2⟩ | ⟨rfl, _, y, h2⟩
    · exact h.shape.lt r x h2
    · exact h.shape.lt r y h2
  · intro r x r' x' hm hm' hne
    rcases hm1 r x hm with ⟨_, h2⟩ | ⟨rfl, _, y, h2⟩ <;> rcases hm1 r' x' hm' with ⟨_, h2'⟩ | ⟨rfl, _, y', h2'⟩
    · exact h.shape.dis r x r' x' h2 h2' hne
    · exact h.shape.dis r x r' y' h2 h2' hne
    · exact h.shape.dis r y r' x' h2 h2' hne
    · exact absurd rfl hne
  · intro r x hm k hF
    have := hk.size
    rcases hm1 r x hm with ⟨_, h2⟩ | ⟨rfl, _, y, h2⟩
    · have := h.shape.bnd r x h2 k hF; omega
    · have := h.shape.bnd r y h2 k hF; omega
  · exact fun f hf => f.mono (h.shape.fact f hf) hk' fun k hk => .inl (hown k hk)

/-! ### Slots that are written -/
def insK (t : Nat) (x : SV) : List (Nat × SV) → (List (Nat × SV) → Prop) → Prop
  | [], k => k [(t, x)]
  | (t', y) :: r, k => match Nat.beq t t' with
    | true => delK' t r fun r => k ((t, x) :: r)
    | false => insK t x r fun r => k ((t', y) :: r)
where
  delK' (t : Nat) : List (Nat × SV) → (List (Nat × SV) → Prop) → Prop
  | [], k => k []
  | (t', y) :: r, k => match Nat.beq t t' with
    | true => delK' t r k
    | false => delK' t r fun r => k ((t', y) :: r)
theorem delK'_elim {t : Nat} : ∀ {sl : List (Nat × SV)} {k : List (Nat × SV) → Prop}, insK.delK' t sl k → ∃ sl', k sl' ∧ ∀ u y, (u, y) ∈ sl' → u ≠ t ∧ (u, y) ∈ sl
  | [], k, h => ⟨[], h, fun u y hm => by cases hm⟩
  | (t', y) :: r, k, h => by
    unfold insK.delK' at h
    split at h
    · obtain ⟨l, h1, h2⟩ := delK'_elim h
      exact ⟨l, h1, fun u z hm => ⟨(h2 u z hm).1, List.mem_cons_of_mem _ (h2 u z hm).2⟩⟩
    · rename_i hne
      obtain ⟨l, h1, h2⟩ := delK'_elim h
      refine ⟨_, h1, fun u z hm => ?_⟩
      rcases List.mem_cons.1 hm with e | hm
      · cases e
        exact ⟨fun e => by subst e; simp at hne, List.mem_cons_self ..⟩
      · exact ⟨(h2 u z hm).1, List.mem_cons_of_mem _ (h2 u z hm).2⟩
theorem insK_elim {t : Nat} {x : SV} : ∀ {sl : List (Nat × SV)} {k : List (Nat × SV) → Prop}, insK t x sl k → ∃ sl', k sl' ∧ ∀ u y, (u, y) ∈ sl' → (u = t ∧ y = x) ∨ (u ≠ t ∧ (u, y) ∈ sl)
  | [], k, h => ⟨_, h, fun u y hm => by simp at hm; exact .inl hm⟩
  | (t', y) :: r, k, h => by
    unfold insK at h
    split at h
    · rename_i he
      have : t = t' := Nat.eq_of_beq_eq_true he
      subst this
      obtain ⟨l, h1, h2⟩ := delK'_elim h
      refine ⟨_, h1, fun u z hm => ?_⟩
      rcases List.mem_cons.1 hm with e | hm
      · cases e; exact .inl ⟨rfl, rfl⟩
      · exact .inr ⟨(h2 u z hm).1, List.mem_cons_of_mem _ (h2 u z hm).2⟩
    · rename_i hne
      obtain ⟨l, h1, h2⟩ := insK_elim h
      refine ⟨_, h1, fun u z hm => ?_⟩
      rcases List.mem_cons.1 hm with e | hm
      · cases e
        exact .inr ⟨fun e => by subst e; simp at hne, List.mem_cons_self ..⟩
      · exact (h2 u z hm).imp id (fun h => ⟨h.1, List.mem_cons_of_mem _ h.2⟩)
def putK (sz : Nat) (d : Option Tmp) (x : SV) (st : SS) (k : SS → Prop) : Prop :=
  match d with
  | none => k st
  | some t => match Nat.blt t sz with
    | true => match st with
      | ⟨sl, hp, nx, fx⟩ => insK t x sl fun sl => k ⟨sl, hp, nx, fx⟩
    | false => False
def delK (sz : Nat) (d : Option Tmp) (st : SS) (k : SS → Prop) : Prop :=
  match d with
  | none => k st
  | some t => match Nat.blt t sz with
    | true => match st with
      | ⟨sl, hp, nx, fx⟩ => insK.delK' t sl fun sl => k ⟨sl, hp, nx, fx⟩
    | false => False
theorem putK_elim {sz : Nat} {d : Option Tmp} {x : SV} {st : SS} {k : SS → Prop} (h : putK sz d x st k) {B : Bs} {ρ : Nat → Nat} {F : Nat → Nat → Prop} {a : Act} {w : World}
    (ho : OkAt B ρ F st sz a w) (hx : ∀ ρ', Ag st.nx ρ ρ' → den ρ' x = den ρ x) : ∃ st', k st' ∧ OkAt B ρ F st' sz (a.put d (den ρ x)) w := by
  cases d with
  | none => exact ⟨st, h, ho⟩
  | some t =>
    unfold putK at h
    simp only at h
    split at h
    · rename_i hlt
      have hlt : t < sz := by simpa [Nat.blt_eq] using hlt
      obtain ⟨sl, hp, nx, fx⟩ := st
      obtain ⟨sl', h1, h2⟩ := insK_elim h
      refine ⟨_, h1, ?_, ho.heap, by simp [Act.put, ho.size], ho.base, ho.n0, ho.keeps, ho.own, ho.facts, by simpa [Act.put] using ho.defers⟩
      intro ρ' hr u y hm
      rcases h2 u y hm with ⟨rfl, rfl⟩ | ⟨h3, h4⟩
      · simp [Act.put, ho.size, hlt, hx ρ' hr]
      · have := ho.slot ρ' hr u y h4
        simp only [Act.put]
        rw [Array.getElem?_setIfInBounds_ne (Ne.symm h3)]
        exact this
    · exact h.elim
theorem delK_elim {sz : Nat} {d : Option Tmp} {x : Value} {st : SS} {k : SS → Prop} (h : delK sz d st k) {B : Bs} {ρ : Nat → Nat} {F : Nat → Nat → Prop} {a : Act} {w : World}
    (ho : OkAt B ρ F st sz a w) : ∃ st', k st' ∧ OkAt B ρ F st' sz (a.put d x) w := by
  cases d with
  | none => exact ⟨st, h, ho⟩
  | some t =>
    unfold delK at h
    simp only at h
    split at h
    · obtain ⟨sl, hp, nx, fx⟩ := st
      obtain ⟨sl', h1, h2⟩ := delK'_elim h
      refine ⟨_, h1, ?_, ho.heap, by simp [Act.put, ho.size], ho.base, ho.n0, ho.keeps, ho.own, ho.facts, by simpa [Act.put] using ho.defers⟩
      intro ρ' hr u y hm
      obtain ⟨h3, h4⟩ := h2 u y hm
      have := ho.slot ρ' hr u y h4
      simp only [Act.put]
      rw [Array.getElem?_setIfInBounds_ne (Ne.symm h3)]
      exact this
    · exact h.elim

/-! ### What an operation that turns the world is shown to do -/
/-- From whatever fits st: it yields y and leaves what fits st', with Kf y st'. -/
def Stp (P : Program) (st : SS) (o : Oper) (Kf : SV → SS → Prop) : Prop :=
  ∀ ρ F a w, (∀ ρ', Ag st.nx ρ ρ' → Base ρ' F st a w) → HpOk ρ F st.hp st.nx st.fx w →
    ∃ y hp' nx' ρ' F' w', Kf y ⟨st.sl, hp', nx', st.fx⟩ ∧ ((execOp a.eval o).run P w = .ok (.value (den ρ' y)) w' ∨ (o.dst = none ∧ (execOp a.eval o).run P w = .ok .skip w')) ∧
      (∀ ρ'', Ag nx' ρ' ρ'' → den ρ'' y = den ρ' y) ∧ HpOk ρ' F' hp' nx' st.fx w' ∧ Ag st.nx ρ ρ' ∧ st.nx ≤ nx' ∧ Keeps (Own st.hp F) w w' ∧ (∀ k, Own hp' F' k → Own st.hp F k ∨ w.heap.size ≤ k)
theorem OkAt.step {B : Bs} {ρ : Nat → Nat} {F : Nat → Nat → Prop} {st : SS} {sz : Nat} {a : Act} {w : World} (h : OkAt B ρ F st sz a w) {hp' : List (Nat × SObj)} {nx' : Nat} {fx' : List Fact} {ρ' : Nat → Nat} {F' : Nat → Nat → Prop} {w' : World}
    (h1 : HpOk ρ' F' hp' nx' fx' w') (h2 : Ag st.nx ρ ρ') (h3 : st.nx ≤ nx') (h4 : Keeps (Own st.hp F) w w') (h5 : ∀ k, Own hp' F' k → Own st.hp F k ∨ w.heap.size ≤ k)
    (h6 : ∀ f, f ∈ fx' → f ∈ st.fx ∨ ∀ k, f.G k → Own st.hp F k ∨ w.heap.size ≤ k) :
    OkAt B ρ' F' ⟨st.sl, hp', nx', fx'⟩ sz a w' := by
  refine ⟨fun ρ'' hr t x hm => h.slot ρ'' (h2.trans hr h3) t x hm, h1, h.size, fun r hr => (h2 r (Nat.lt_of_lt_of_le hr h.n0)).trans (h.base r hr), Nat.le_trans h.n0 h3, ?_, ?_, ?_, h.defers⟩
  · exact h.keeps.trans h4 h.own
  · intro k hk
    rcases h5 k hk with h6 | h6
    · exact h.own k h6
    · have := h.keeps.size; exact .inr (by omega)
  · intro f hf
    rcases h6 f hf with h7 | h7
    · exact h.facts f h7
    · refine .inr fun k hk => ?_
      rcases h7 k hk with h8 | h8
      · exact h.own k h8
      · have := h.keeps.size; exact .inr (by omega)
end Go.Proofs.YtekgjjanikicnaaDoor.Sx

namespace Go.Proofs.YtekgjjanikicnaaDoor.Sx
open Go
set_option linter.unusedVariables false
set_option linter.unusedSimpArgs false

/-! ### A new block -/
theorem keeps_alloc (U : Nat → Prop) (w : World) (o : Obj) : Keeps U w (w.alloc o) :=
  ⟨rfl, rfl, rfl, by simp, fun k hk _ => heap_alloc_old w o k hk⟩
theorem HpOk.alloc {ρ : Nat → Nat} {F : Nat → Nat → Prop} {hp : List (Nat × SObj)} {nx : Nat} {fx : List Fact} {w : World} (h : HpOk ρ F hp nx fx w) {o : SObj} {ob : Obj}
    (ho : ∀ ρ', Ag nx ρ ρ' → ObjOk ρ' o (w.alloc ob) w.heap.size (fun k => k = w.heap.size)) :
    HpOk (updR ρ nx w.heap.size) (updR F nx (fun k => k = w.heap.size)) ((nx, o) :: hp) (nx + 1) fx (w.alloc ob) ∧
      ∀ k, Own ((nx, o) :: hp) (updR F nx (fun k => k = w.heap.size)) k → Own hp F k ∨ w.heap.size ≤ k := by
  refine ⟨h.new (hp1 := hp) (fun _ he => he) (keeps_alloc (fun _ => False) w ob) (fun _ hk => hk.elim) (fun _ hk => hk.elim) ho (fun k hk => .inr (Nat.le_of_eq hk.symm)) (fun k hk => by simp [hk]), fun k hk => ?_⟩
  rcases own_new h.shape.lt hk with h1 | h1
  · exact .inr (Nat.le_of_eq h1.symm)
  · exact .inl h1
theorem cellsAt_alloc (w : World) (cs : List Value) (T : TypeId) : CellsAt (w.alloc (.cells cs.toArray T)) w.heap.size cs T :=
  ⟨(0, 0), heap_alloc_new w _, .inl rfl⟩
def newK (o : SObj) (st : SS) (k : Nat → SS → Prop) : Prop :=
  match st with
  | ⟨sl, hp, nx, fx⟩ => forceN (nx + 1) fun n1 => k nx ⟨sl, (nx, o) :: hp, n1, fx⟩
theorem newK_elim {o : SObj} {st : SS} {k : Nat → SS → Prop} (h : newK o st k) : k st.nx ⟨st.sl, (st.nx, o) :: st.hp, st.nx + 1, st.fx⟩ := by
  cases st; simp only [newK] at h; exact forceN_elim (k := fun n1 => k _ ⟨_, _, n1, _⟩) h
/-- A new block of cells: what is yielded is at it. -/
theorem Stp.alloc {P : Program} {st : SS} {o : Oper} {Kf : SV → SS → Prop} {ob : SObj} {y : SV} (h : Kf y ⟨st.sl, (st.nx, ob) :: st.hp, st.nx + 1, st.fx⟩)
    (hr : ∀ ρ F a w, (∀ ρ', Ag st.nx ρ ρ' → Base ρ' F st a w) → HpOk ρ F st.hp st.nx st.fx w → ∃ cs T, (∀ ρ', Ag st.nx ρ ρ' → ObjOk ρ' ob (w.alloc (.cells cs T)) w.heap.size (fun k => k = w.heap.size)) ∧
      ∃ A, (∀ ρ', ρ' st.nx = w.heap.size → den ρ' y = A) ∧ (execOp a.eval o).run P w = .ok (.value A) (w.alloc (.cells cs T))) : Stp P st o Kf := by
  intro ρ F a w hb hh
  obtain ⟨cs, T, h1, A, h2, h3⟩ := hr ρ F a w hb hh
  obtain ⟨h4, h5⟩ := hh.alloc h1
  refine ⟨y, _, _, updR ρ st.nx w.heap.size, _, _, h, .inl ?_, ?_, h4, Ag.updR ρ _, by omega, keeps_alloc _ w _, h5⟩
  · rw [h3, h2 _ (updR_same ..)]
  · intro ρ'' hr
    rw [h2 _ (updR_same ..), h2 _ (by rw [hr st.nx (by omega), updR_same])]

/-! ### Splices -/
def splice {α : Type} (l : List α) (o : Nat) (n : List α) : List α := l.take o ++ n ++ l.drop (o + n.length)
theorem splice_length {α : Type} (l : List α) (o : Nat) (n : List α) (h : o + n.length ≤ l.length) : (splice l o n).length = l.length := by
  simp [splice]; omega
theorem splice_map {α β : Type} (f : α → β) (l : List α) (o : Nat) (n : List α) : (splice l o n).map f = splice (l.map f) o (n.map f) := by
  simp [splice, List.map_take, List.map_drop]
theorem splice_cons {α : Type} (l : List α) (o : Nat) (x : α) (r : List α) (h : o < l.length) : splice (l.set o x) (o + 1) r = splice l o (x :: r) := by
  unfold splice
  have h1 : (l.set o x).take (o + 1) = l.take o ++ [x] := by
    rw [List.take_succ_eq_append_getElem (by simpa using h), List.take_set_of_le (Nat.le_refl o)]
    simp
  have h2 : (l.set o x).drop (o + 1 + r.length) = l.drop (o + (x :: r).length) := by
    rw [List.drop_set_of_lt (by omega)]
    congr 1
    simp; omega
  rw [h1, h2]
  simp
theorem splice_nil {α : Type} (l : List α) (o : Nat) : splice l o [] = l := by simp [splice]
def overS : List SV → List SV → (List SV → Prop) → Prop
  | cs, [], k => k cs
  | _ :: cs, n :: new, k => overS cs new fun l => k (n :: l)
  | [], _ :: _, _ => False
def spliceS : List SV → Nat → List SV → (List SV → Prop) → Prop
  | cs, 0, new, k => overS cs new k
  | c :: cs, o + 1, new, k => spliceS cs o new fun l => k (c :: l)
  | [], _ + 1, _, _ => False
theorem overS_elim : ∀ {cs new : List SV} {k : List SV → Prop}, overS cs new k → new.length ≤ cs.length ∧ k (splice cs 0 new)
  | cs, [], k, h => ⟨Nat.zero_le _, by rw [splice_nil]; simpa [overS] using h⟩
  | c :: cs, n :: new, k, h => by
    obtain ⟨h1, h2⟩ := overS_elim (cs := cs) (new := new) h
    exact ⟨by simpa using h1, by simpa [splice] using h2⟩
  | [], _ :: _, k, h => h.elim
theorem spliceS_elim : ∀ {cs : List SV} {o : Nat} {new : List SV} {k : List SV → Prop}, spliceS cs o new k → o + new.length ≤ cs.length ∧ k (splice cs o new)
  | cs, 0, new, k, h => by
    obtain ⟨h1, h2⟩ := overS_elim (cs := cs) (by simpa [spliceS] using h)
    exact ⟨by omega, h2⟩
  | c :: cs, o + 1, new, k, h => by
    obtain ⟨h1, h2⟩ := spliceS_elim (cs := cs) (o := o) h
    refine ⟨by simp; omega, ?_⟩
    have : splice (c :: cs) (o + 1) new = c :: splice cs o new := by
      simp [splice, Nat.add_right_comm o 1]
    rw [this]; exact h2
  | [], _ + 1, _, k, h => h.elim

/-! ### store -/
theorem addr_add_at (b o i : Nat) : (⟨b, o, none⟩ : Addr).add i = ⟨b, o + i, none⟩ := add_at b o i
theorem run_storeCells_row {P : Program} {g : Nat} {e : TypeId} {fz : Nat × Nat} : ∀ (news : List Value) (o i : Nat) (cur : List Value) (w : World), w.heap[g]? = some (.cells cur.toArray e fz) → o + i + news.length ≤ cur.length →
    (∀ j, j < cur.length → ¬ (fz.1 ≤ j ∧ j < fz.2)) → (∀ u ∈ news, u.oneCell' = true) →
    ∃ w', (storeCells ⟨g, o, none⟩ news i).run P w = .ok () w' ∧ w'.heap[g]? = some (.cells (splice cur (o + i) news).toArray e fz) ∧ Keeps (fun k => k = g) w w'
  | [], o, i, cur, w, hg, hl, hf, h1 => ⟨w, by simp [storeCells], by rw [splice_nil]; exact hg, Keeps.refl _ _⟩
  | x :: r, o, i, cur, w, hg, hl, hf, h1 => by
    have hlt : o + i < cur.length := by simp at hl; omega
    have hc : w.cell? ((⟨g, o, none⟩ : Addr).add i) = some cur[o + i] := by
      rw [add_at, cell_of_row w g _ _ e fz hg]; simp [hlt]
    have hfz : w.frozen? ((⟨g, o, none⟩ : Addr).add i) = false := by
      rw [add_at]
      have := hf (o + i) hlt
      simp only [World.frozen?, hg]
      simp only [Bool.and_eq_false_iff, decide_eq_false_iff_not]
      by_cases hh : fz.1 ≤ o + i
      · exact .inr (fun h => this ⟨hh, h⟩)
      · exact .inl hh
    have hx := h1 x (List.mem_cons_self ..)
    have hst := run_store P w ((⟨g, o, none⟩ : Addr).add i) x .plain hx
    rw [hc] at hst
    simp only [hfz] at hst
    have hg' : (w.setCell ((⟨g, o, none⟩ : Addr).add i) x).heap[g]? = some (.cells (cur.set (o + i) x).toArray e fz) := by
      rw [add_at]
      simp only [World.setCell, Array.getElem?_modify, if_true, hg]
      simp
    obtain ⟨w', h2, h3, h4⟩ := run_storeCells_row r o (i + 1) (cur.set (o + i) x) _ hg' (by simp at hl ⊢; omega) (by simpa using hf) (fun u hu => h1 u (List.mem_cons_of_mem _ hu))
    refine ⟨w', ?_, ?_, ?_⟩
    · simp only [storeCells, Sem.run_bind]
      rw [hst]
      exact h2
    · rw [h3]
      congr 2
      have := splice_cons cur (o + i) x r hlt
      rw [← this]; rfl
    · have hk1 : Keeps (fun k => k = g) w (w.setCell ((⟨g, o, none⟩ : Addr).add i) x) := ⟨rfl, rfl, rfl, by simp, fun k _ hk => by
        rw [add_at]
        exact heap_setCell_other w _ k x (fun e => hk e)⟩
      exact hk1.trans h4 (fun j hj => .inl hj)
def oneK (x : SV) (k : Prop) : Prop :=
  match x with
  | .agg _ => False
  | .tup _ => False
  | .v (.agg _) => False
  | .v (.tuple _) => False
  | .v (.bool _) => k
  | .v (.int _ _) => k
  | .v (.string _) => k
  | .v (.pointer _) => k
  | .v (.slice _ _ _) => k
  | .v (.map _) => k
  | .v (.iface _ _) => k
  | .v .nilIface => k
  | .v .nilFunc => k
  | .v (.func _ _ _) => k
  | .v _ => False
  | _ => k
theorem oneK_elim {x : SV} {k : Prop} (h : oneK x k) : k ∧ ∀ ρ, (den ρ x).oneCell' = true := by
  unfold oneK at h
  split at h <;> first | exact h.elim | exact ⟨h, fun _ => rfl⟩ | skip
  rename_i h1 h2 h3 h4 h5 h6 h7 h8 h9 h10 h11 h12 h13 h14 h15
  refine ⟨h, fun ρ => ?_⟩
  cases x <;> first | rfl | simp_all
def onesK : List SV → Prop → Prop
  | [], k => k
  | x :: r, k => oneK x (onesK r k)
theorem onesK_elim : ∀ {l : List SV} {k : Prop}, onesK l k → k ∧ ∀ ρ, ∀ u ∈ denL ρ l, u.oneCell' = true
  | [], k, h => ⟨h, fun ρ u hu => by simp at hu⟩
  | x :: r, k, h => by
    obtain ⟨h1, h2⟩ := oneK_elim h
    obtain ⟨h3, h4⟩ := onesK_elim h1
    refine ⟨h3, fun ρ u hu => ?_⟩
    rcases List.mem_cons.1 hu with rfl | hu
    · exact h2 ρ
    · exact h4 ρ u hu
/-- The cells of a value. -/
def cellsK (x : SV) (k : List SV → Prop) : Prop :=
  match x with
  | .agg cs => onesK cs (k cs)
  | .v (.agg ⟨l⟩) => onesK (l.map SV.v) (k (l.map SV.v))
  | x => oneK x (k [x])
theorem cellsK_elim {x : SV} {k : List SV → Prop} (h : cellsK x k) : ∃ l, k l ∧ (∀ ρ, (den ρ x).cells.toList = denL ρ l) ∧ ∀ ρ, ∀ u ∈ denL ρ l, u.oneCell' = true := by
  unfold cellsK at h
  split at h
  · rename_i cs
    obtain ⟨h1, h2⟩ := onesK_elim h
    exact ⟨cs, h1, fun ρ => by simp [den, Value.cells], h2⟩
  · rename_i l
    obtain ⟨h1, h2⟩ := onesK_elim h
    exact ⟨l.map SV.v, h1, fun ρ => by simp [den, Value.cells, denL_mapv], h2⟩
  · obtain ⟨h1, h2⟩ := oneK_elim h
    refine ⟨_, h1, fun ρ => ?_, fun ρ u hu => by simp at hu; rw [hu]; exact h2 ρ⟩
    have h3 := h2 ρ
    simp only [denL_cons, denL_nil]
    generalize den ρ x = y at h3
    cases y <;> first | rfl | (simp [Value.oneCell'] at h3)
/-- A symbolic value that says itself what it is. -/
def setOK (r : Nat) (o : SObj) : List (Nat × SObj) → (List (Nat × SObj) → Prop) → Prop
  | [], k => k []
  | (r', x) :: l, k => match Nat.beq r r' with
    | true => setOK r o l fun l => k ((r, o) :: l)
    | false => setOK r o l fun l => k ((r', x) :: l)
theorem setOK_elim {r : Nat} {o : SObj} : ∀ {hp : List (Nat × SObj)} {k : List (Nat × SObj) → Prop}, setOK r o hp k → ∃ hp', k hp' ∧ ∀ j x, (j, x) ∈ hp' → (j ≠ r ∧ (j, x) ∈ hp) ∨ (j = r ∧ x = o ∧ ∃ y, (r, y) ∈ hp)
  | [], k, h => ⟨[], h, fun j x hm => by cases hm⟩
  | (r', y) :: l, k, h => by
    unfold setOK at h
    split at h
    · rename_i he
      have : r = r' := Nat.eq_of_beq_eq_true he
      subst this
      obtain ⟨l', h1, h2⟩ := setOK_elim h
      refine ⟨_, h1, fun j x hm => ?_⟩
      rcases List.mem_cons.1 hm with e | hm
      · cases e; exact .inr ⟨rfl, rfl, y, List.mem_cons_self ..⟩
      · exact (h2 j x hm).imp (fun h => ⟨h.1, List.mem_cons_of_mem _ h.2⟩) (fun h => ⟨h.1, h.2.1, h.2.2.imp fun _ h => List.mem_cons_of_mem _ h⟩)
    · rename_i hne
      obtain ⟨l', h1, h2⟩ := setOK_elim h
      refine ⟨_, h1, fun j x hm => ?_⟩
      rcases List.mem_cons.1 hm with e | hm
      · cases e; exact .inl ⟨fun e => by subst e; simp at hne, List.mem_cons_self ..⟩
      · exact (h2 j x hm).imp (fun h => ⟨h.1, List.mem_cons_of_mem _ h.2⟩) (fun h => ⟨h.1, h.2.1, h.2.2.imp fun _ h => List.mem_cons_of_mem _ h⟩)
def withO (r : Nat) (o : SObj) (st : SS) (k : SS → Prop) : Prop :=
  match st with
  | ⟨sl, hp, nx, fx⟩ => setOK r o hp fun hp => k ⟨sl, hp, nx, fx⟩
/-- An operation that turns one region, in its own blocks. -/
theorem Stp.upd {P : Program} {st : SS} {o : Oper} {Kf : SV → SS → Prop} {r : Nat} {ob ob' : SObj} {y : SV} (hm : (r, ob) ∈ st.hp) (h : withO r ob' st (Kf y))
    (hr : ∀ ρ F a w, (∀ ρ', Ag st.nx ρ ρ' → Base ρ' F st a w) → HpOk ρ F st.hp st.nx st.fx w → ∃ w', Keeps (F r) w w' ∧ (∀ ρ', Ag st.nx ρ ρ' → ObjOk ρ' ob' w' (ρ' r) (F r)) ∧
      (∀ ρ', Ag st.nx ρ ρ' → den ρ' y = den ρ y) ∧ ((execOp a.eval o).run P w = .ok (.value (den ρ y)) w' ∨ (o.dst = none ∧ (execOp a.eval o).run P w = .ok .skip w'))) : Stp P st o Kf := by
  intro ρ F a w hb hh
  obtain ⟨w', h1, h2, h3, h4⟩ := hr ρ F a w hb hh
  obtain ⟨sl, hp, nx, fx⟩ := st
  obtain ⟨hp', h5, h6⟩ := setOK_elim h
  obtain ⟨h7, h8⟩ := hh.upd h6 h1 ⟨_, hm⟩ h2
  exact ⟨y, hp', nx, ρ, F, w', h5, h4, h3, h7, Ag.refl _ _, Nat.le_refl _, h1.mono fun k hk => ⟨r, ob, hm, hk⟩, fun k hk => .inl (h8 k hk)⟩
def aggOk (a : Array Value) (n : Nat) : Prop := a.size = n ∧ ∀ u ∈ a.toList, u.oneCell' = true
/-- A whole struct, or array, laid into a region's cells. -/
def storeAggK (st : SS) (r o n : Nat) (a : Array Value) (k : SS → Prop) : Prop :=
  objK r st.hp fun ob => match ob with
    | .cells cs U => aggOk a n ∧ (o = 0 ∧ cs.length = n) ∧ withO r (.row a.toList U) st k
    | .row xs U => aggOk a n ∧ (o + n ≤ xs.length) ∧ withO r (.row (splice xs o a.toList) U) st k
    | _ => False
def storeK (tt : List (Option TI)) (st : SS) (T : TypeId) (p x : SV) (k : SS → Prop) : Prop :=
  tyK tt T fun ti => match x with
    | .v (.agg a) => (match p with
      | .p r o => storeAggK st r o ti.size a k
      | .q r o => storeAggK st r o ti.size a k
      | _ => False)
    | x => cellsK x fun l => match Nat.beq l.length ti.size with
      | true => (match p with
        | .p r o => objK r st.hp fun ob => (match ob with
          | .cells cs U => spliceS cs o l fun cs => withO r (.cells cs U) st k
          | .row xs U => plainsK l fun vs => (o + vs.length ≤ xs.length) ∧ withO r (.row (splice xs o vs) U) st k
          | _ => False)
        | .q r o => objK r st.hp fun ob => (match ob with
          | .row xs U => plainsK l fun vs => (o + vs.length ≤ xs.length) ∧ withO r (.row (splice xs o vs) U) st k
          | .cells cs U => (o + l.length ≤ cs.length) ∧ withO r (.cells (splice cs o l) U) st k
          | _ => False)
        | _ => False)
      | false => False
theorem cellsAt_store {P : Program} {w : World} {b o : Nat} {cs news : List Value} {U : TypeId} (h : CellsAt w b cs U) (hl : o + news.length ≤ cs.length) (h1 : ∀ u ∈ news, u.oneCell' = true) :
    ∃ w', (storeCells ⟨b, o, none⟩ news).run P w = .ok () w' ∧ CellsAt w' b (splice cs o news) U ∧ Keeps (fun k => k = b) w w' := by
  obtain ⟨fz, h2, h3⟩ := h
  obtain ⟨w', h4, h5, h6⟩ := run_storeCells_row (P := P) news o 0 cs w h2 (by omega) (fun j hj hh => by omega) h1
  exact ⟨w', h4, ⟨fz, h5, by rw [splice_length _ _ _ (by omega)]; exact h3⟩, h6⟩
theorem storeK_elim {P : Program} {tt : List (Option TI)} (ht : TOk P tt) {st : SS} {T : TypeId} {p x : SV} {k : SS → Prop} (h : storeK tt st T p x k) {o : Oper} {X Y : Operand} (ho : o.op = .store T X Y) (hd : o.dst = none)
    (hX : ∀ ρ F a w, Base ρ F st a w → a.eval X = den ρ p) (hY : ∀ ρ F a w, Base ρ F st a w → a.eval Y = den ρ x) : Stp P st o (fun _ => k) := by
  obtain ⟨ti, hti, h0⟩ := tyK_elim h
  clear h
  have hT := tyFacts (ht T ti hti)
  split at h0
  · rename_i ag
    have main : ∀ (r o' : Nat), (∀ ρ, den ρ p = .pointer (some ⟨ρ r, o', none⟩)) → storeAggK st r o' ti.size ag k → Stp P st o (fun _ => k) := by
      intro r o' hp hk
      have run : ∀ ρ F a w w', Base ρ F st a w → (storeCells ⟨ρ r, o', none⟩ ag.toList).run P w = .ok () w' → ag.size = ti.size → (execOp a.eval o).run P w = .ok .skip w' := by
        intro ρ F a w w' hb hs hsz
        simp only [execOp, ho, Instr.storeAt, hX ρ F a w hb, hY ρ F a w hb, hp, den, Value.cells, Instr.sureAddr, storeVar, Sem.run_bind, Sem.run_pure, Result.andThen_ok, hT.run_sizeOf, hsz, ne_eq, not_true_eq_false, if_false, hs]
      unfold storeAggK at hk
      obtain ⟨ob, hm, h1⟩ := objK_elim hk
      have go : ∀ (xs : List Value) (U : TypeId) (ys : List Value), (∀ ρ w b F, ObjOk ρ ob w b F → (∀ k, F k ↔ k = b) ∧ ∃ cs, cs.length = xs.length ∧ CellsAt w b cs U ∧ splice cs o' ag.toList = ys) → aggOk ag ti.size → o' + ti.size ≤ xs.length → withO r (.row ys U) st k → Stp P st o (fun _ => k) := by
        intro xs U ys hob hag hle hw
        refine Stp.upd (y := .b true) (ob' := .row ys U) hm hw fun ρ F a w hb hh => ?_
        have hobj := (hb ρ (Ag.refl _ _)).obj r _ hm
        obtain ⟨hF, cs, hl, hc, hys⟩ := hob _ _ _ _ hobj
        have hlen : ag.toList.length = ti.size := by rw [Array.length_toList]; exact hag.1
        obtain ⟨w', h5, h6, h7⟩ := cellsAt_store (P := P) (news := ag.toList) (o := o') hc (by rw [hl, hlen]; exact hle) hag.2
        refine ⟨w', h7.mono fun k hk => (hF k).2 hk, fun ρ' hr => ?_, fun _ _ => rfl, .inr ⟨hd, run ρ F a w w' (hb ρ (Ag.refl _ _)) h5 hag.1⟩⟩
        have hrr : ρ' r = ρ r := hr r (hh.shape.lt r _ hm)
        rw [hrr]
        rw [hys] at h6
        exact ⟨hF, h6⟩
      split at h1
      · rename_i cs U
        obtain ⟨hag, ⟨rfl, hlen⟩, hw⟩ := h1
        have hl2 : ag.toList.length = ti.size := by rw [Array.length_toList]; exact hag.1
        refine go (ag.toList) U ag.toList (fun ρ w b F hob => ⟨hob.1, denL ρ cs, by rw [denL_length, hlen, hl2], hob.2, ?_⟩) hag (by rw [hl2]; omega) hw
        simp only [splice, List.take_zero, List.nil_append, Nat.zero_add]
        rw [List.drop_of_length_le (by rw [denL_length, hlen, hl2]; exact Nat.le_refl _), List.append_nil]
      · rename_i xs U
        obtain ⟨hag, hle, hw⟩ := h1
        exact go xs U _ (fun ρ w b F hob => ⟨hob.1, xs, rfl, hob.2, rfl⟩) hag hle hw
      · exact h1.elim
    split at h0
    · exact main _ _ (fun _ => rfl) h0
    · exact main _ _ (fun _ => rfl) h0
    · exact h0.elim
  rename_i hnotagg
  have h1 := h0
  clear h0
  obtain ⟨l, h2, h3, h4⟩ := cellsK_elim h1
  clear h1
  split at h2
  · rename_i hlen
    have hlen : l.length = ti.size := Nat.eq_of_beq_eq_true hlen
    have run : ∀ ρ F a w (ad : Addr) w', Base ρ F st a w → den ρ p = .pointer (some ad) → (storeCells ad (denL ρ l)).run P w = .ok () w' → (execOp a.eval o).run P w = .ok .skip w' := by
      intro ρ F a w ad w' hb hp hs
      have hsz : (den ρ x).cells.size = ti.size := by
        rw [← hlen, ← denL_length ρ l, ← h3 ρ, Array.length_toList]
      simp only [execOp, ho, Instr.storeAt, hX ρ F a w hb, hY ρ F a w hb, hp, Instr.sureAddr, storeVar, Sem.run_bind, Sem.run_pure, Result.andThen_ok, hT.run_sizeOf, hsz, ne_eq, not_true_eq_false, if_false, h3 ρ, hs]
    have cellsC : ∀ (r o' : Nat) (cs : List SV) (U : TypeId), (r, SObj.cells cs U) ∈ st.hp → (∀ ρ, den ρ p = .pointer (some ⟨ρ r, o', none⟩)) → o' + l.length ≤ cs.length → withO r (.cells (splice cs o' l) U) st k → Stp P st o (fun _ => k) := by
      intro r o' cs U hm hp hle hw
      refine Stp.upd (y := .b true) (ob' := .cells (splice cs o' l) U) hm hw fun ρ F a w hb hh => ?_
      have hobj := (hb ρ (Ag.refl _ _)).obj r _ hm
      obtain ⟨w', h5, h6, h7⟩ := cellsAt_store (P := P) (news := denL ρ l) (o := o') hobj.2 (by simpa using hle) (h4 ρ)
      refine ⟨w', h7.mono fun k hk => (hobj.1 k).2 hk, fun ρ' hr => ?_, fun _ _ => rfl, .inr ⟨hd, run ρ F a w _ w' (hb ρ (Ag.refl _ _)) (hp ρ) h5⟩⟩
      have hobj' := (hb ρ' hr).obj r _ hm
      have hrr : ρ' r = ρ r := hr r (hh.shape.lt r _ hm)
      refine ⟨hobj'.1, ?_⟩
      rw [hrr]
      have he : denL ρ' (splice cs o' l) = splice (denL ρ cs) o' (denL ρ l) := by
        have e1 : denL ρ' cs = denL ρ cs := by
          obtain ⟨fz, e1, _⟩ := hobj'.2
          obtain ⟨fz', e2, _⟩ := hobj.2
          rw [hrr, e2] at e1
          simp only [Option.some.injEq, Obj.cells.injEq] at e1
          have := congrArg Array.toList e1.1
          simpa using this.symm
        have e2 : denL ρ' l = denL ρ l := by
          rw [← h3 ρ', ← h3 ρ, ← hY ρ' F a w (hb ρ' hr), ← hY ρ F a w (hb ρ (Ag.refl _ _))]
        rw [denL_eq, splice_map, ← denL_eq, ← denL_eq, e1, e2]
      rw [he]
      exact h6
    have rowC : ∀ (r o' : Nat) (xs vs : List Value) (U : TypeId), (r, SObj.row xs U) ∈ st.hp → (∀ ρ, den ρ p = .pointer (some ⟨ρ r, o', none⟩)) → (∀ ρ, denL ρ l = vs) → o' + vs.length ≤ xs.length → withO r (.row (splice xs o' vs) U) st k → Stp P st o (fun _ => k) := by
      intro r o' xs vs U hm hp hv hle hw
      refine Stp.upd (y := .b true) (ob' := .row (splice xs o' vs) U) hm hw fun ρ F a w hb hh => ?_
      have hobj := (hb ρ (Ag.refl _ _)).obj r _ hm
      obtain ⟨w', h5, h6, h7⟩ := cellsAt_store (P := P) (news := denL ρ l) (o := o') hobj.2 (by rw [hv ρ]; exact hle) (h4 ρ)
      refine ⟨w', h7.mono fun k hk => (hobj.1 k).2 hk, fun ρ' hr => ?_, fun _ _ => rfl, .inr ⟨hd, run ρ F a w _ w' (hb ρ (Ag.refl _ _)) (hp ρ) h5⟩⟩
      have hobj' := (hb ρ' hr).obj r _ hm
      have hrr : ρ' r = ρ r := hr r (hh.shape.lt r _ hm)
      refine ⟨hobj'.1, ?_⟩
      rw [hrr]
      rw [hv ρ] at h6
      exact h6
    split at h2
    · obtain ⟨ob, h5, h6⟩ := objK_elim h2
      split at h6
      · obtain ⟨h7, h8⟩ := spliceS_elim h6
        exact cellsC _ _ _ _ h5 (fun ρ => rfl) h7 h8
      · obtain ⟨vs, ⟨h7, h8⟩, h9⟩ := plainsK_elim h6
        exact rowC _ _ _ _ _ h5 (fun ρ => rfl) h9 h7 h8
      · exact h6.elim
    · obtain ⟨ob, h5, h6⟩ := objK_elim h2
      split at h6
      · obtain ⟨vs, ⟨h7, h8⟩, h9⟩ := plainsK_elim h6
        exact rowC _ _ _ _ _ h5 (fun ρ => rfl) h9 h7 h8
      · exact cellsC _ _ _ _ h5 (fun ρ => rfl) h6.1 h6.2
      · exact h6.elim
    · exact h2.elim
  · exact h2.elim
end Go.Proofs.YtekgjjanikicnaaDoor.Sx

namespace Go.Proofs.YtekgjjanikicnaaDoor.Sx
open Go
set_option linter.unusedVariables false
set_option linter.unusedSimpArgs false

/-! ### parts laid into cells -/
theorem foldl_splice : ∀ (n : List Value) (o s : Nat) (c : Array Value), o + s + n.length ≤ c.size →
    (n.zipIdx s).foldl (fun (cs : Array Value) (x : Value × Nat) => cs.setIfInBounds (o + x.2) x.1) c = (splice c.toList (o + s) n).toArray
  | [], o, s, c, h => by simp [splice_nil]
  | x :: r, o, s, c, h => by
    simp only [List.zipIdx_cons, List.foldl_cons]
    rw [foldl_splice r o (s + 1) _ (by simp at h ⊢; omega)]
    have hlt : o + s < c.toList.length := by simp at h ⊢; omega
    rw [← splice_cons c.toList (o + s) x r hlt, Array.toList_setIfInBounds]
    rfl
theorem fill_cons (place : Nat → Option (Nat × Nat)) (cells : List Value) (i : Nat) (v : Value) (rest : List (Nat × Value)) (off size : Nat) (hp : place i = some (off, size)) (hs : v.cells.size = size) (hl : off + size ≤ cells.length) :
    Instr.fill place cells.toArray ((i, v) :: rest) = Instr.fill place (splice cells off v.cells.toList).toArray rest := by
  simp only [Instr.fill, hp]
  have hl' : off + v.cells.toList.length ≤ cells.length := by rw [Array.length_toList]; omega
  rw [if_neg (by simp [hs]; omega)]
  congr 1
  rw [← Array.foldl_toList, Array.toList_zipIdx]
  have := foldl_splice v.cells.toList off 0 cells.toArray (by simpa using hl')
  simpa using this
def fillK (st : SS) (place : Nat → (Nat → Nat → Prop) → Prop) : List (Nat × Operand) → List SV → (List SV → Prop) → Prop
  | [], cells, k => k cells
  | (i, x) :: r, cells, k => evK st x fun v => cellsK v fun l => place i fun off size => match Nat.beq l.length size with
    | true => spliceS cells off l fun cells => fillK st place r cells k
    | false => False
theorem fillK_elim {st : SS} {place : Nat → (Nat → Nat → Prop) → Prop} {pl : Nat → Option (Nat × Nat)} (hpl : ∀ i k, place i k → ∃ off size, pl i = some (off, size) ∧ k off size) :
    ∀ {parts : List (Nat × Operand)} {cells : List SV} {k : List SV → Prop}, fillK st place parts cells k →
    ∃ l, k l ∧ l.length = cells.length ∧ ∀ ρ F a w, Base ρ F st a w → Instr.fill pl (denL ρ cells).toArray (parts.map fun (i, x) => (i, a.eval x)) = some (denL ρ l).toArray
  | [], cells, k, h => ⟨cells, h, rfl, fun _ _ _ _ _ => rfl⟩
  | (i, x) :: r, cells, k, h => by
    obtain ⟨v, h1, h2⟩ := evK_elim h
    obtain ⟨l, h3, h4, _⟩ := cellsK_elim h1
    obtain ⟨off, size, h5, h6⟩ := hpl _ _ h3
    split at h6
    · rename_i hb
      have hlen : l.length = size := Nat.eq_of_beq_eq_true hb
      obtain ⟨h7, h8⟩ := spliceS_elim h6
      obtain ⟨l', h9, h10, h11⟩ := fillK_elim hpl h8
      refine ⟨l', h9, by rw [h10, splice_length _ _ _ h7], fun ρ F a w hb => ?_⟩
      have hv : a.eval x = den ρ v := h2 ρ F a w hb
      simp only [List.map_cons]
      rw [fill_cons pl (denL ρ cells) i _ _ off size h5]
      · rw [hv, h4 ρ, denL_eq, denL_eq, ← splice_map, ← denL_eq]
        exact h11 ρ F a w hb
      · rw [hv, ← Array.length_toList, h4 ρ, denL_length, hlen]
      · rw [denL_length, ← hlen]; exact h7
    · exact h6.elim
/-- The places of a struct's fields. -/
def placesK (tt : List (Option TI)) : List Field → (List (Nat × Nat) → Prop) → Prop
  | [], k => k []
  | f :: r, k => tyK tt f.type fun fi => placesK tt r fun l => k ((f.offset, fi.size) :: l)
theorem placesK_elim {P : Program} {tt : List (Option TI)} (ht : TOk P tt) : ∀ {fs : List Field} {k : List (Nat × Nat) → Prop}, placesK tt fs k →
    ∃ l, k l ∧ ∀ w, (fs.mapM fun f => do pure (f.offset, ← sizeOf f.type) : Sem (List (Nat × Nat))).run P w = .ok l w
  | [], k, h => ⟨[], h, fun w => rfl⟩
  | f :: r, k, h => by
    obtain ⟨fi, h1, h2⟩ := tyK_elim h
    have hT := tyFacts (ht _ fi h1)
    obtain ⟨l, h3, h4⟩ := placesK_elim ht h2
    refine ⟨_, h3, fun w => ?_⟩
    simp only [List.mapM_cons, Sem.run_bind, hT.run_sizeOf, Result.andThen_ok, Sem.run_pure]
    rw [h4 w]
    rfl
def buildK (tt : List (Option TI)) (st : SS) (T : TypeId) (parts : List (Nat × Operand)) (k : SV → Prop) : Prop :=
  tyK tt T fun ti => match ti.und with
    | .struct ⟨fs⟩ => placesK tt fs fun pl => fillK st (fun i k => nthK pl i fun p => k p.1 p.2) parts ti.zero fun l => k (.agg l)
    | .array _ e => tyK tt e fun ei => fillK st (fun i k => forceN (i * ei.size) fun o => k o ei.size) parts ti.zero fun l => k (.agg l)
    | _ => False
theorem zero_den {P : Program} {T : TypeId} {ti : TI} (hT : TyFacts P T ti) (w : World) : ∃ z : Value, (zeroValue T).run P w = .ok z w ∧ ∀ ρ, z.cells.toList = denL ρ ti.zero := by
  obtain ⟨z, h1, h2⟩ := hT.run_zero w
  exact ⟨z, h1, fun ρ => by rw [← h2, denL_ofV]⟩
theorem map_parts (parts : Array (Nat × Operand)) (f : Operand → Value) : (parts.map fun (i, x) => (i, f x)).toList = parts.toList.map fun (i, x) => (i, f x) := by simp
theorem buildK_elim {P : Program} {tt : List (Option TI)} (ht : TOk P tt) {st : SS} {T : TypeId} {parts : Array (Nat × Operand)} {k : SV → Prop} (h : buildK tt st T parts.toList k) :
    ∃ y, k y ∧ ∀ ρ F a w, Base ρ F st a w → (Instr.build T (parts.map fun (i, x) => (i, a.eval x))).run P w = .ok (den ρ y) w := by
  obtain ⟨ti, hti, h1⟩ := tyK_elim h
  clear h
  have hT := tyFacts (ht T ti hti)
  split at h1
  · rename_i fs hd
    obtain ⟨pl, h2, h3⟩ := placesK_elim ht h1
    obtain ⟨l, h4, h5, h6⟩ := fillK_elim (pl := fun i => pl.toArray[i]?) (fun i k hk => by
      obtain ⟨p, h7, h8⟩ := nthK_elim hk
      exact ⟨p.1, p.2, by simpa using h7, h8⟩) h2
    refine ⟨_, h4, fun ρ F a w hb => ?_⟩
    obtain ⟨z, h7, h8⟩ := zero_den hT w
    have h9 := h6 ρ F a w hb
    rw [← h8 ρ, Array.toArray_toList] at h9
    have hm : (fs.toArray.mapM fun f => do pure (f.offset, ← sizeOf f.type) : Sem (Array (Nat × Nat))).run P w = .ok pl.toArray w := by
      rw [List.mapM_toArray]
      simp only [Sem.run_map, h3 w, Result.andThen_ok]
    have hu : (underlying T).run P w = .ok (.struct ⟨fs⟩) w := by rw [← hd]; exact hT.run_underlying w
    simp only [Instr.build, Sem.run_bind, h7, Result.andThen_ok, hu]
    erw [hm]
    simp only [Result.andThen_ok, map_parts, h9, Sem.run_pure, den]
  · rename_i n e hd
    obtain ⟨ei, hei, h2⟩ := tyK_elim h1
    have hE := tyFacts (ht _ ei hei)
    obtain ⟨l, h4, h5, h6⟩ := fillK_elim (pl := fun i => some (i * ei.size, ei.size)) (fun i k hk => ⟨_, _, rfl, forceN_elim (k := fun o => k o ei.size) hk⟩) h2
    refine ⟨_, h4, fun ρ F a w hb => ?_⟩
    obtain ⟨z, h7, h8⟩ := zero_den hT w
    have h9 := h6 ρ F a w hb
    rw [← h8 ρ, Array.toArray_toList] at h9
    simp only [Instr.build, Sem.run_bind, h7, Result.andThen_ok, hT.run_underlying, hd, hE.run_sizeOf, map_parts, h9, Sem.run_pure, den]
  · exact h1.elim

/-! ### a slice that is written out -/
def repS (zs : List SV) : Nat → (List SV → Prop) → Prop
  | 0, k => k []
  | n + 1, k => repS zs n fun l => appS zs l k
where
  appS : List SV → List SV → (List SV → Prop) → Prop
  | [], l, k => k l
  | x :: r, l, k => appS r l fun m => k (x :: m)
theorem appS_elim : ∀ {a b : List SV} {k : List SV → Prop}, repS.appS a b k → k (a ++ b)
  | [], b, k, h => h
  | x :: r, b, k, h => by have := appS_elim (a := r) h; simpa using this
theorem repS_elim {zs : List SV} : ∀ {n : Nat} {k : List SV → Prop}, repS zs n k → k (List.replicate n zs).flatten
  | 0, k, h => by simpa [repS] using h
  | n + 1, k, h => by
    have h1 := repS_elim (zs := zs) (n := n) (k := fun l => repS.appS zs l k) h
    have h2 := appS_elim h1
    simpa [List.replicate_succ] using h2
theorem flatten_rep_get {α : Type} [Inhabited α] (z : Array α) (n : Nat) : ((Array.range (n * z.size)).map (fun i => z[i % z.size]!)).toList = (List.replicate n z.toList).flatten := by
  induction n with
  | zero => simp
  | succ n ih =>
    have hs : Array.range ((n + 1) * z.size) = Array.range (n * z.size) ++ (Array.range z.size).map (fun i => n * z.size + i) := by
      rw [Nat.succ_mul, Array.range_add]
    rw [hs, Array.map_append, Array.toList_append, ih, List.replicate_succ']
    simp only [List.flatten_append, List.flatten_cons, List.flatten_nil, List.append_nil]
    congr 1
    apply List.ext_getElem?
    intro i
    by_cases hi : i < z.size
    · simp [hi, Nat.mod_eq_of_lt]
    · simp [hi]
def buildSliceK (tt : List (Option TI)) (st : SS) (T : TypeId) (len : Nat) (parts : List (Nat × Operand)) (k : SV → SS → Prop) : Prop :=
  tyK tt T fun ti => match ti.und with
    | .slice e => tyK tt e fun ei => (match Nat.ble (len * ei.size) 16777216, Nat.beq ei.zero.length ei.size with
      | true, true => repS ei.zero len fun z => fillK st (fun i k => forceN (i * ei.size) fun o => k o ei.size) parts z fun l => newK (.cells l e) st fun r st' => k (.s r 0 len len) st'
      | _, _ => False)
    | _ => False
theorem buildSliceK_elim {P : Program} {tt : List (Option TI)} (ht : TOk P tt) {st : SS} {T : TypeId} {len : Nat} {parts : Array (Nat × Operand)} {k : SV → SS → Prop} (h : buildSliceK tt st T len parts.toList k) {o : Oper} (ho : o.op = .buildSlice T len parts) : Stp P st o k := by
  obtain ⟨ti, hti, h1⟩ := tyK_elim h
  clear h
  have hT := tyFacts (ht T ti hti)
  split at h1
  · rename_i e hd
    obtain ⟨ei, hei, h2⟩ := tyK_elim h1
    clear h1
    have hE := tyFacts (ht _ ei hei)
    split at h2
    · rename_i hle hbq
      have hle : len * ei.size ≤ 16777216 := Nat.le_of_ble_eq_true hle
      have hbq : ei.zero.length = ei.size := Nat.eq_of_beq_eq_true hbq
      have h3 := repS_elim h2
      obtain ⟨l, h4, h5, h6⟩ := fillK_elim (pl := fun i => some (i * ei.size, ei.size)) (fun i k hk => ⟨_, _, rfl, forceN_elim (k := fun o => k o ei.size) hk⟩) h3
      have h7 := newK_elim h4
      refine Stp.alloc h7 fun ρ F a w hb hh => ?_
      obtain ⟨z, h8, h9⟩ := zero_den hE w
      have hzs : z.cells.size = ei.size := by rw [← Array.length_toList, h9 ρ, denL_length, hbq]
      have hfill : ∀ ρ', Ag st.nx ρ ρ' → Instr.fill (fun i => some (i * ei.size, ei.size)) ((Array.range (len * ei.size)).map (fun i => z.cells[i % z.cells.size]!)) (parts.toList.map fun (i, x) => (i, a.eval x)) = some (denL ρ' l).toArray := by
        intro ρ' hr
        have h10 := h6 ρ' F a w (hb ρ' hr)
        have e1 : (denL ρ' (List.replicate len ei.zero).flatten) = ((Array.range (len * ei.size)).map (fun i => z.cells[i % z.cells.size]!)).toList := by
          rw [← hzs, flatten_rep_get, h9 ρ', denL_eq, List.map_flatten, List.map_replicate, ← denL_eq]
        rw [e1, Array.toArray_toList] at h10
        exact h10
      have hsame : ∀ ρ', Ag st.nx ρ ρ' → denL ρ' l = denL ρ l := by
        intro ρ' hr
        have h11 := hfill ρ' hr
        rw [hfill ρ (Ag.refl _ _)] at h11
        simpa using h11.symm
      refine ⟨(denL ρ l).toArray, e, fun ρ' hr => ⟨fun k => Iff.rfl, by rw [hsame ρ' hr]; exact cellsAt_alloc w _ e⟩, .slice (some ⟨w.heap.size, 0, none⟩) len len, fun ρ' hr => by simp [den, hr], ?_⟩
      have hu : (underlying T).run P w = .ok (.slice e) w := by rw [← hd]; exact hT.run_underlying w
      have hgt : ¬ len * ei.size > 2 ^ 24 := by omega
      simp only [execOp, ho, Instr.buildSlice, Sem.run_bind, hu, Result.andThen_ok, hE.run_sizeOf, hgt, if_false, map_parts]
      by_cases h0 : len * ei.size = 0
      · have hf := hfill ρ (Ag.refl _ _)
        simp only [h0, if_true] at hf ⊢
        simp only [Sem.run_bind, Sem.run_pure, Result.andThen_ok]
        have e2 : ((Array.range 0).map fun x => (#[] : Array Value)[x % (#[] : Array Value).size]!) = ((Array.range 0).map (fun i => z.cells[i % z.cells.size]!)) := by simp
        rw [e2, hf]
        simp [newRow]
      · have hf := hfill ρ (Ag.refl _ _)
        simp only [h0, if_false, Sem.run_bind, h8, Result.andThen_ok, Sem.run_pure]
        rw [hf]
        simp [newRow]
    · exact h2.elim
  · exact h1.elim
end Go.Proofs.YtekgjjanikicnaaDoor.Sx

namespace Go.Proofs.YtekgjjanikicnaaDoor.Sx
open Go
set_option linter.unusedVariables false
set_option linter.unusedSimpArgs false

theorem keeps_drew (U : Nat → Prop) (w : World) : Keeps U w w.drew := ⟨rfl, rfl, rfl, Nat.le_refl _, fun _ _ _ => rfl⟩
theorem HpOk.drew {ρ : Nat → Nat} {F : Nat → Nat → Prop} {hp : List (Nat × SObj)} {nx : Nat} {fx : List Fact} {w : World} (h : HpOk ρ F hp nx fx w) : HpOk ρ F hp nx fx w.drew :=
  ⟨fun ρ' hr r o hm => (h.obj ρ' hr r o hm).loc fun _ _ => rfl, ⟨h.shape.lt, h.shape.dis, h.shape.bnd, fun f hf => f.mono (h.shape.fact f hf) (keeps_drew _ w) fun _ hk => .inl hk⟩⟩
theorem Base.drew {ρ : Nat → Nat} {F : Nat → Nat → Prop} {st : SS} {a : Act} {w : World} (h : Base ρ F st a w) : Base ρ F st a w.drew :=
  ⟨h.slot, fun r o hm => (h.obj r o hm).loc fun _ _ => rfl⟩

/-! ### make -/
/-- n times the cells zs. -/
def repRow (zs : List Value) (n : Nat) : List Value :=
  match zs with
  | [z] => List.replicate n z
  | zs => (List.replicate n zs).flatten
theorem rep_one (zs : List Value) (n : Nat) : repRow zs n = (List.replicate n zs).flatten := by
  unfold repRow
  split
  · induction n with
    | zero => rfl
    | succ n ih => rw [List.replicate_succ, List.replicate_succ, List.flatten_cons, ← ih]; rfl
  · rfl
theorem repRow_one (z : Value) (n : Nat) : repRow [z] n = List.replicate n z := rfl
def makeSliceK (tt : List (Option TI)) (st : SS) (T : TypeId) (len cap : Operand) (k : SV → SS → Prop) : Prop :=
  tyK tt T fun ti => match ti.und with
    | .slice e => tyK tt e fun ei => (match Nat.beq ei.zero.length ei.size with
      | true => forceN ei.bytes fun eb => plainsK ei.zero fun zs => evK st len fun l => intK l fun _ l kl => evK st cap fun c => intK c fun _ c kc => leK kl l 140737488355328 fun l => leK kc c 140737488355328 fun c => (l ≤ c ∧ eb * c ≤ 281474976710656) ∧
        newK (.row (repRow zs c) e) st fun r st' => k (.s r 0 l c) st'
      | false => False)
    | _ => False
theorem makeSliceK_elim {P : Program} {tt : List (Option TI)} (ht : TOk P tt) {st : SS} {T : TypeId} {len cap : Operand} {k : SV → SS → Prop} (h : makeSliceK tt st T len cap k) {o : Oper} (ho : o.op = .makeSlice T len cap) : Stp P st o k := by
  obtain ⟨ti, hti, h1⟩ := tyK_elim h
  clear h
  have hT := tyFacts (ht T ti hti)
  split at h1
  · rename_i e hd
    obtain ⟨ei, hei, h2⟩ := tyK_elim h1
    clear h1
    have hE := tyFacts (ht _ ei hei)
    split at h2
    · rename_i hbq
      have hbq : ei.zero.length = ei.size := Nat.eq_of_beq_eq_true hbq
      obtain ⟨zs, h3, hzs⟩ := plainsK_elim (forceN_elim h2)
      obtain ⟨lv, h4, hl⟩ := evK_elim h3
      obtain ⟨_, l, kl, h5, hl'⟩ := intK_elim h4
      obtain ⟨cv, h6, hc⟩ := evK_elim h5
      obtain ⟨_, c, kc, h6', hc'⟩ := intK_elim h6
      obtain ⟨⟨h7, hll⟩, h6'⟩ := leK_elim h6'
      obtain ⟨⟨hc0, h9⟩, ⟨h8', h10'⟩, h11⟩ := leK_elim h6'
      have h8 : l ≤ c := by omega
      have h10 : (ei.bytes : Int) * c ≤ 281474976710656 := by
        have e1 : ((ei.bytes * c.toNat : Nat) : Int) = (ei.bytes : Int) * c := by
          rw [Int.natCast_mul, Int.toNat_of_nonneg hc0]
        rw [← e1]
        have h10'' : ei.bytes * c.toNat ≤ 281474976710656 := h10'
        generalize ei.bytes * c.toNat = z at h10''
        omega
      have h12 : k (.s st.nx 0 l.toNat c.toNat) ⟨st.sl, (st.nx, .row (List.replicate c.toNat zs).flatten e) :: st.hp, st.nx + 1, st.fx⟩ := by
        have h13 := newK_elim h11
        rw [rep_one] at h13
        exact h13
      clear h11
      refine Stp.alloc h12 fun ρ F a w hb hh => ?_
      refine ⟨(List.replicate c.toNat zs).flatten.toArray, e, fun ρ' hr => ⟨fun k => Iff.rfl, cellsAt_alloc w _ e⟩, .slice (some ⟨w.heap.size, 0, none⟩) l.toNat c.toNat, fun ρ' hr => by simp [den, hr], ?_⟩
      have hu : (underlying T).run P w = .ok (.slice e) w := by rw [← hd]; exact hT.run_underlying w
      obtain ⟨i, z, hi, hi1, hi2, hi3, hi4⟩ := hE.info
      have hzc : z.cells.toList = zs := by rw [← hzs id, ← hi4, denL_ofV]
      have hzsz : z.cells.size = ei.size := by rw [← Array.length_toList, hzc, ← hzs id, denL_length, hbq]
      have hti' : (typeInfo e).run P w = .ok i w := by simp [typeInfo, hi]
      have hb0 := hb ρ (Ag.refl _ _)
      have wl : IntKind.i64.wrap l = l := wrap_i64_of l (by omega) (by omega)
      have wc : IntKind.i64.wrap c = c := wrap_i64_of c (by omega) (by omega)
      have hcell : ((Array.range (c.toNat * ei.size)).map fun x => z.cells[x % z.cells.size]!) = (List.replicate c.toNat zs).flatten.toArray := by
        apply Array.ext'
        rw [← hzsz, flatten_rep_get, hzc]
      have ng : ¬ ((i.bytes : Int) * c > 2 ^ 48) := by rw [hi2]; omega
      have nl : ¬ l > c := by omega
      simp only [execOp, ho, Instr.makeSlice, Sem.run_bind, hu, Result.andThen_ok, asInt, hl ρ F a w hb0, hl' ρ, hc ρ F a w hb0, hc' ρ, asIntOf, Sem.run_pure, hti', wl, wc]
      have nc0 : ¬ c < 0 := by omega
      have nl0 : ¬ l < 0 := by omega
      simp only [nc0, nl0, ng, nl, decide_false, Bool.or_self, Bool.false_eq_true, if_false, Sem.run_bind, run_askRoom, Result.andThen_ok, hE.run_sizeOf]
      by_cases h0 : c.toNat * ei.size = 0
      · simp only [h0, if_true, Sem.run_bind, Sem.run_pure, Result.andThen_ok]
        have e2 : ((Array.range 0).map fun x => (#[] : Array Value)[x % (#[] : Array Value).size]!) = (List.replicate c.toNat zs).flatten.toArray := by rw [← hcell, h0]; simp
        rw [e2]
        simp [newRow]
      · have hz : (zeroValue e).run P w = .ok z w := by simp [zeroValue, typeInfo, hi, hi3]
        simp only [h0, if_false, Sem.run_bind, hz, Sem.run_pure, Result.andThen_ok]
        rw [hcell]
        simp [newRow]
    · exact h2.elim
  · exact h1.elim

/-! ### append -/
def remK (r : Nat) : List (Nat × SObj) → (List (Nat × SObj) → Prop) → Prop
  | [], k => k []
  | (r', x) :: l, k => match Nat.beq r r' with
    | true => remK r l k
    | false => remK r l fun l => k ((r', x) :: l)
theorem remK_elim {r : Nat} : ∀ {hp : List (Nat × SObj)} {k : List (Nat × SObj) → Prop}, remK r hp k → ∃ hp', k hp' ∧ ∀ j x, (j, x) ∈ hp' → j ≠ r ∧ (j, x) ∈ hp
  | [], k, h => ⟨[], h, fun j x hm => by cases hm⟩
  | (r', y) :: l, k, h => by
    unfold remK at h
    split at h
    · obtain ⟨l', h1, h2⟩ := remK_elim h
      exact ⟨l', h1, fun j x hm => ⟨(h2 j x hm).1, List.mem_cons_of_mem _ (h2 j x hm).2⟩⟩
    · rename_i hne
      obtain ⟨l', h1, h2⟩ := remK_elim h
      refine ⟨_, h1, fun j x hm => ?_⟩
      rcases List.mem_cons.1 hm with e | hm
      · cases e; exact ⟨fun e => by subst e; simp at hne, List.mem_cons_self ..⟩
      · exact ⟨(h2 j x hm).1, List.mem_cons_of_mem _ (h2 j x hm).2⟩
/-- A region goes, another comes. -/
def swapK (r : Nat) (o : SObj) (st : SS) (k : Nat → SS → Prop) : Prop :=
  match st with
  | ⟨sl, hp, nx, fx⟩ => remK r hp fun hp => forceN (nx + 1) fun n1 => k nx ⟨sl, (nx, o) :: hp, n1, fx⟩
/-- How many elements there are in what is appended, and their cells. -/
def srcK (st : SS) (x : SV) (z : Nat) (k : Nat → List Value → Prop) : Prop :=
  match x with
  | .v (.string s) => (match Nat.beq z 1 with
    | true => k s.size (s.data.toList.map bv)
    | false => False)
  | .s r o len cap => readPK st (.s r o len cap) (len * z) fun vs => k len vs
  | .v (.slice A len cap) => readPK st (.v (.slice A len cap)) (len * z) fun vs => k len vs
  | _ => False
theorem extract_all (s : ByteArray) : s.extract 0 s.size = s := by
  apply ByteArray.ext
  simp
theorem srcK_elim {P : Program} {st : SS} {x : SV} {z : Nat} {k : Nat → List Value → Prop} (h : srcK st x z k) : ∃ n vs, k n vs ∧ vs.length = n * z ∧
    ∀ ρ F a w, Base ρ F st a w → FOk st.fx w → (Builtin.lenOf (den ρ x)).run P w = .ok n w ∧ (Builtin.firstCells z n (den ρ x)).run P w = .ok vs.toArray w := by
  unfold srcK at h
  split at h
  · rename_i s
    split at h
    · rename_i hz
      have hz1 : z = 1 := Nat.eq_of_beq_eq_true hz
      subst hz1
      refine ⟨_, _, h, by simp, fun ρ F a w hb hs => ⟨by simp [Builtin.lenOf, den], ?_⟩⟩
      simp only [Builtin.firstCells, den, Sem.run_pure]
      congr 1
      rw [extract_all]
      apply Array.ext'
      simp [bv]
    · exact h.elim
  · obtain ⟨l, ⟨vs, h1, h2⟩, h3, h4⟩ := readPK_elim (P := P) h
    refine ⟨_, vs, h2, by rw [← h1 id, denL_length, h3], fun ρ F a w hb hs => ⟨by simp [Builtin.lenOf, den], ?_⟩⟩
    obtain ⟨A, L, C, h5, h6, h7⟩ := h4 ρ F a w hb hs
    simp only [den, Value.slice.injEq] at h5
    obtain ⟨rfl, rfl, rfl⟩ := h5
    simp only [den, Builtin.firstCells]
    rw [← h1 ρ]
    exact h7 _ rfl
  · obtain ⟨l, ⟨vs, h1, h2⟩, h3, h4⟩ := readPK_elim (P := P) h
    refine ⟨_, vs, h2, by rw [← h1 id, denL_length, h3], fun ρ F a w hb hs => ⟨by simp [Builtin.lenOf, den], ?_⟩⟩
    obtain ⟨A, L, C, h5, h6, h7⟩ := h4 ρ F a w hb hs
    simp only [den, Value.slice.injEq] at h5
    obtain ⟨rfl, rfl, rfl⟩ := h5
    rename_i A' _ _
    cases A' with
    | none =>
      have h9 := h6 rfl
      have h10 : vs = [] := by
        have h11 := congrArg List.length (h1 ρ)
        rw [denL_length, h3, h9] at h11
        exact List.length_eq_zero_iff.1 h11.symm
      subst h10
      simp [Builtin.firstCells, den]
    | some ad =>
      simp only [den, Builtin.firstCells]
      rw [← h1 ρ]
      exact h7 _ rfl
  · exact h.elim
def rowOfK (ob : SObj) (k : List Value → TypeId → Prop) : Prop :=
  match ob with
  | .row xs T => k xs T
  | .cells cs T => plainsK cs fun xs => k xs T
  | _ => False
theorem rowOfK_elim {ob : SObj} {k : List Value → TypeId → Prop} (h : rowOfK ob k) : ∃ xs T, k xs T ∧ ∀ ρ w b F, ObjOk ρ ob w b F → (∀ k, F k ↔ k = b) ∧ CellsAt w b xs T := by
  unfold rowOfK at h
  split at h
  · exact ⟨_, _, h, fun ρ w b F ho => ho⟩
  · obtain ⟨xs, h1, h2⟩ := plainsK_elim h
    exact ⟨xs, _, h1, fun ρ w b F ho => ⟨ho.1, by rw [← h2 ρ]; exact ho.2⟩⟩
  · exact h.elim
def notIntD : TypeDesc → Bool
  | .slice _ => true
  | .string => true
  | _ => false
def appendK (tt : List (Option TI)) (st : SS) (T X : TypeId) (s x : SV) (k : SV → SS → Prop) : Prop :=
  tyK tt T fun ti => match ti.und with
    | .slice e => tyK tt e fun ei => tyK tt X fun xi => (match notIntD xi.und && Nat.beq ei.zero.length ei.size && Nat.blt 0 ei.bytes && Nat.blt 0 ei.size with
      | true => forceN ei.size fun z => forceN ei.bytes fun eb => srcK st x z fun n vs => (match s with
          | .v (.slice none 0 0) => (n * eb ≤ 140737488355328) ∧ (n = 0 → k (.v (.slice none 0 0)) st) ∧
              (0 < n → ∀ (m : Nat) (sp : List Value), sp.length = m * z → newK (.row (vs ++ sp) e) st fun r st' => k (.s r 0 n (n + m)) st')
          | .s r 0 len cap => objK r st.hp fun ob => rowOfK ob fun xs U => (match Nat.beq U e with
            | true => ((len + n) * eb ≤ 140737488355328 ∧ len ≤ cap ∧ cap * z = xs.length ∧ (∀ u ∈ vs, u.oneCell' = true)) ∧
              ∀ (m : Nat) (sp : List Value), sp.length = m * z → swapK r (.row (xs.take (len * z) ++ vs ++ sp) e) st fun r st' => k (.s r 0 (len + n) (len + n + m)) st'
            | false => False)
          | .s r (o + 1) len cap => objK r st.hp fun ob => rowOfK ob fun xs U => (match Nat.beq U e with
            | true => ((len + n) * eb ≤ 140737488355328 ∧ len ≤ cap ∧ o + 1 + cap * z = xs.length ∧ (∀ u ∈ vs, u.oneCell' = true)) ∧
              ∀ (m : Nat) (pre sp : List Value), sp.length = m * z → swapK r (.row (pre ++ (xs.drop (o + 1)).take (len * z) ++ vs ++ sp) e) st fun r st' => k (.s r pre.length (len + n) (len + n + m)) st'
            | false => False)
          | _ => False)
      | false => False)
    | _ => False
theorem swapK_elim {r : Nat} {o : SObj} {st : SS} {k : Nat → SS → Prop} (h : swapK r o st k) : ∃ hp1, k st.nx ⟨st.sl, (st.nx, o) :: hp1, st.nx + 1, st.fx⟩ ∧ ∀ j x, (j, x) ∈ hp1 → j ≠ r ∧ (j, x) ∈ st.hp := by
  obtain ⟨sl, hp, nx, fx⟩ := st
  obtain ⟨hp1, h1, h2⟩ := remK_elim h
  exact ⟨hp1, forceN_elim (k := fun n1 => k nx ⟨sl, (nx, o) :: hp1, n1, fx⟩) h1, h2⟩
section
variable {P : Program} {T X e : TypeId} {ei : TI}
theorem run_append_any (hu : ∀ w, (underlying T).run P w = .ok (.slice e) w) {xd : TypeDesc} (hx : ∀ w, (underlying X).run P w = .ok xd w) (hno : notIntD xd = true) (hE : TyFacts P e ei) (h0 : 0 < ei.bytes)
    {A : Option Addr} {len cap n : Nat} {xv : Value} {vs : List Value} {w : World} (ty : TypeId) (hlen : (Builtin.lenOf xv).run P w = .ok n w) (hsz : (len + n) * ei.bytes ≤ 140737488355328)
    (hnew : (Builtin.firstCells ei.size n xv).run P w = .ok vs.toArray w) (hnew' : (Builtin.firstCells ei.size n xv).run P w.drew = .ok vs.toArray w.drew) {olds : List Value} (hold : cap < len + n → (Builtin.firstCells ei.size len (.slice A len cap)).run P w.drew = .ok olds.toArray w.drew) :
    (len + n ≤ cap → ∀ w', (match A with | some a => (storeCells (a.add (len * ei.size)) vs).run P w = .ok () w' | none => w' = w) → (Builtin.append_ #[T, X] ty #[.slice A len cap, xv]).run P w = .ok (.slice A (len + n) cap) w') ∧
    (cap < len + n → ∃ (m : Nat) (sp : List Value), sp.length = m * ei.zero.length ∧
      (Builtin.append_ #[T, X] ty #[.slice A len cap, xv]).run P w = .ok (.slice (some ⟨w.heap.size, 0, none⟩) (len + n) (len + n + m)) (w.drew.alloc (.cells (olds ++ vs ++ sp).toArray e))) := by
  obtain ⟨i, z, hi, hi1, hi2, hi3, hi4⟩ := hE.info
  have hb : (len + n) ≤ 140737488355328 := Nat.le_trans (Nat.le_mul_of_pos_right _ h0) hsz
  have hxd : (∃ y, xd = .slice y) ∨ xd = .string := by
    cases xd <;> first | exact .inl ⟨_, rfl⟩ | exact .inr rfl | (simp [notIntD] at hno)
  have hti : ∀ w, (typeInfo e).run P w = .ok i w := fun w => by simp [typeInfo, hi]
  refine ⟨fun hroom w' hst => ?_, fun hg => ?_⟩
  · rcases hxd with ⟨y, rfl⟩ | rfl <;>
    · simp only [Builtin.append_, List.getElem?_toArray, List.getElem?_cons_zero, List.getElem?_cons_succ, Sem.run_bind, hu, Result.andThen_ok, hE.run_sizeOf, hx, Sem.run_pure, Bool.false_eq_true, if_false, hlen, hroom, if_true, Bool.not_false, hnew]
      cases A with
      | none => simp only at hst; subst hst; rfl
      | some a => simp only at hst; simp [hst]
  · have hfit := growslice_fits (bytes := i.bytes) (show cap < len + n from hg) (by rw [hi2]; exact hsz)
    have hge := grownCap_ge w (len + n) cap e
    refine ⟨grownCap w (len + n) cap e - (len + n), (Builtin.zeroCells z.cells (grownCap w (len + n) cap e - (len + n))).toList, ?_, ?_⟩
    · rw [← hi4, List.length_map, Array.length_toList, Array.length_toList]; simp [Builtin.zeroCells]
    · have n1 : ¬ (len + n ≤ cap) := by omega
      have n2 : ¬ (((len + n : Nat) : Int) > IntKind.i64.max ∧ (False ∨ i.bytes = 0)) := by rintro ⟨_, h | h⟩; exact h; omega
      have n3 : ¬ (Builtin.nextslicecap (len + n) cap * i.bytes > 2 ^ 48) := by omega
      have hcap : grownCap w (len + n) cap e = (Question.appendCap (len + n) cap e).cut (w.tape w.drawn (.appendCap (len + n) cap e)) := rfl
      have hz : ∀ w, (zeroValue e).run P w = .ok z w := fun w => by simp [zeroValue, typeInfo, hi, hi3]
      have e1 : len + n + (grownCap w (len + n) cap e - (len + n)) = grownCap w (len + n) cap e := by omega
      rcases hxd with ⟨y, rfl⟩ | rfl <;>
      · simp only [Builtin.append_, List.getElem?_toArray, List.getElem?_cons_zero, List.getElem?_cons_succ, Sem.run_bind, hu, Result.andThen_ok, hE.run_sizeOf, hx, Sem.run_pure, Bool.false_eq_true, if_false, hlen, n1, hti, n2, n3,
          run_choose, Question.forced, run_askRoom, Bool.not_false, if_true, World.drew_eq, ← hcap]
        rw [hold hg]
        simp only [Result.andThen_ok]
        rw [hnew']
        simp only [Result.andThen_ok, hz, Sem.run_bind, newRow, run_newObj, Sem.run_pure, World.alloc_eq]
        rw [e1]
        congr 1
        congr 1
        congr 1
        apply Array.ext'
        simp
end
theorem appendK_elim {P : Program} {tt : List (Option TI)} (ht : TOk P tt) {st : SS} {T X : TypeId} {s x : SV} {k : SV → SS → Prop} (h : appendK tt st T X s x k) {o : Oper} {A B : Operand}
    (ho : o.op = .call { callee := .builtin .append, args := #[A, B], argTypes := #[T, X] })
    (hA : ∀ ρ F a w, Base ρ F st a w → a.eval A = den ρ s) (hB : ∀ ρ F a w, Base ρ F st a w → a.eval B = den ρ x) : Stp P st o k := by
  obtain ⟨ti, hti, h1⟩ := tyK_elim h
  clear h
  have hT := tyFacts (ht T ti hti)
  split at h1
  · rename_i e hd
    obtain ⟨ei, hei, h2⟩ := tyK_elim h1
    clear h1
    obtain ⟨xi, hxi, h3⟩ := tyK_elim h2
    clear h2
    have hE := tyFacts (ht _ ei hei)
    have hX := (tyFacts (ht _ xi hxi)).run_underlying
    have hu : ∀ w, (underlying T).run P w = .ok (.slice e) w := fun w => by rw [← hd]; exact hT.run_underlying w
    split at h3
    · rename_i hc
      simp only [Bool.and_eq_true, Nat.blt_eq] at hc
      obtain ⟨⟨⟨hno, hbq⟩, hby⟩, hs0⟩ := hc
      have hbq : ei.zero.length = ei.size := Nat.eq_of_beq_eq_true hbq
      replace h3 := forceN_elim h3
      replace h3 := forceN_elim h3
      obtain ⟨n, vs, h4, h5, h6⟩ := srcK_elim (P := P) h3
      clear h3
      have run : ∀ (a : Act) w, (execOp a.eval o).run P w = ((Builtin.append_ #[T, X] o.type #[a.eval A, a.eval B]).run P w).andThen fun y w' => .ok (.value y) w' := by
        intro a w
        simp only [execOp, ho, resolve, Sem.run_bind, Sem.run_pure, Result.andThen_ok, invoke, builtin]
        simp
      split at h4
      · obtain ⟨h7, h8, h9⟩ := h4
        intro ρ F a w hb hh
        have hb0 := hb ρ (Ag.refl _ _)
        obtain ⟨hlen, hnew⟩ := h6 ρ F a w hb0 hh.shape.fok
        have hnew' := (h6 ρ F a w.drew hb0.drew hh.drew.shape.fok).2
        obtain ⟨hroom, hgrow⟩ := run_append_any (P := P) (A := none) (len := 0) (cap := 0) (n := n) (xv := den ρ x) (vs := vs) (w := w) (olds := []) hu hX hno hE hby o.type hlen (by simpa using h7) hnew hnew'
          (fun _ => by simp [Builtin.firstCells])
        by_cases hn : n = 0
        · subst hn
          refine ⟨_, _, _, ρ, F, w, h8 rfl, .inl ?_, fun _ _ => rfl, hh, Ag.refl _ _, Nat.le_refl _, Keeps.refl _ _, fun k hk => .inl hk⟩
          rw [run a w, hA ρ F a w hb0, hB ρ F a w hb0]
          simp only [den]
          rw [hroom (by omega) w rfl]
          rfl
        · obtain ⟨m, sp, hsp, hr⟩ := hgrow (by omega)
          have h10 := newK_elim (h9 (by omega) m sp (by rw [hsp, hbq]))
          obtain ⟨h11, h12⟩ := hh.drew.alloc (o := .row (vs ++ sp) e) (ob := .cells (vs ++ sp).toArray e) (fun ρ' hr => ⟨fun k => Iff.rfl, cellsAt_alloc w.drew _ e⟩)
          refine ⟨_, _, _, updR ρ st.nx w.heap.size, _, w.drew.alloc (.cells (vs ++ sp).toArray e), h10, .inl ?_, ?_, h11, Ag.updR ρ _, by omega, (keeps_drew _ w).trans (keeps_alloc _ _ _) (fun j hj => .inl hj), h12⟩
          · rw [run a w, hA ρ F a w hb0, hB ρ F a w hb0]
            simp only [den]
            rw [hr]
            simp [updR_same]
          · intro ρ'' hr''
            simp only [den]
            rw [hr'' st.nx (by omega)]
      · rename_i r len cap
        obtain ⟨ob, hm, h7⟩ := objK_elim h4
        clear h4
        obtain ⟨xs, U, h8, hrow⟩ := rowOfK_elim h7
        clear h7
        split at h8
        · rename_i hU
          have hU : U = e := Nat.eq_of_beq_eq_true hU
          subst hU
          obtain ⟨⟨h9, h10, h11, h12⟩, h13⟩ := h8
          intro ρ F a w hb hh
          have hb0 := hb ρ (Ag.refl _ _)
          obtain ⟨hlen, hnew⟩ := h6 ρ F a w hb0 hh.shape.fok
          have hnew' := (h6 ρ F a w.drew hb0.drew hh.drew.shape.fok).2
          have hobj := hb0.obj r ob hm
          obtain ⟨hF, hcells⟩ := hrow _ _ _ _ hobj
          have hlz : len * ei.size ≤ xs.length := Nat.le_trans (Nat.mul_le_mul_right _ h10) (Nat.le_of_eq h11)
          obtain ⟨hroom, hgrow⟩ := run_append_any (P := P) (A := some ⟨ρ r, 0, none⟩) (len := len) (cap := cap) (n := n) (xv := den ρ x) (vs := vs) (w := w) (olds := xs.take (len * ei.size)) hu hX hno hE hby o.type hlen h9 hnew hnew'
            (fun _ => by
              simp only [Builtin.firstCells]
              exact run_cells_sub (w := w.drew) (cs := xs) (T := U) (o := 0) (hcells.loc rfl) (by simp) (by simp; omega))
          -- the old region goes
          have own_rest : ∀ hp1 : List (Nat × SObj), (∀ j y, (j, y) ∈ hp1 → j ≠ r ∧ (j, y) ∈ st.hp) → ∀ k, F r k → Own st.hp F k ∧ ¬ Own hp1 F k := by
            intro hp1 hsub k hk
            refine ⟨⟨r, ob, hm, hk⟩, ?_⟩
            rintro ⟨j, y, hj, hFj⟩
            exact hh.shape.dis j y r ob (hsub j y hj).2 hm (hsub j y hj).1 k hFj hk
          by_cases hfit : len + n ≤ cap
          · have hle : len * ei.size + vs.length ≤ xs.length := by
              rw [h5, ← Nat.add_mul]; exact Nat.le_trans (Nat.mul_le_mul_right _ hfit) (Nat.le_of_eq h11)
            obtain ⟨w', hst, hc', hk'⟩ := cellsAt_store (P := P) (o := len * ei.size) hcells hle h12
            have hs2 : splice xs (len * ei.size) vs = xs.take (len * ei.size) ++ vs ++ xs.drop ((len + n) * ei.size) := by
              unfold splice; rw [h5, ← Nat.add_mul]
            obtain ⟨hp1, h14, h15⟩ := swapK_elim (h13 (cap - (len + n)) (xs.drop ((len + n) * ei.size)) (by rw [List.length_drop, Nat.sub_mul, h11]))
            rw [hs2] at hc'
            have hkr : Keeps (F r) w w' := hk'.mono fun k hk => (hF k).2 hk
            have hnew2 := hh.new (hp1 := hp1) (fun y hy => (h15 y.1 y.2 hy).2) hkr (fun k hk => (own_rest hp1 h15 k hk).1) (fun k hk => (own_rest hp1 h15 k hk).2)
              (o := .row (xs.take (len * ei.size) ++ vs ++ xs.drop ((len + n) * ei.size)) U) (b := ρ r) (G := F r) (fun ρ' hr => ⟨hF, hc'⟩)
              (fun k hk => .inl (own_rest hp1 h15 k hk)) (fun k hk => Nat.lt_of_lt_of_le (hh.shape.bnd r ob hm k hk) hk'.size)
            refine ⟨_, _, _, _, _, w', h14, .inl ?_, ?_, hnew2, Ag.updR ρ _, by omega, hkr.mono fun k hk => ⟨r, ob, hm, hk⟩, ?_⟩
            · rw [run a w, hA ρ F a w hb0, hB ρ F a w hb0]
              simp only [den]
              rw [hroom hfit w' (by simp only; rw [add_at, Nat.zero_add]; exact hst)]
              have e1 : len + n + (cap - (len + n)) = cap := by omega
              simp [updR_same, e1]
            · intro ρ'' hr''
              simp only [den]
              rw [hr'' st.nx (by omega)]
            · intro k hk
              rcases own_new (fun j y hj => hh.shape.lt j y (h15 j y hj).2) hk with h16 | h16
              · exact .inl ⟨r, ob, hm, h16⟩
              · exact .inl (h16.mono fun y hy => (h15 y.1 y.2 hy).2)
          · obtain ⟨m, sp, hsp, hr⟩ := hgrow (by omega)
            obtain ⟨hp1, h14, h15⟩ := swapK_elim (h13 m sp (by rw [hsp, hbq]))
            have hkr : Keeps (fun _ => False) w (w.drew.alloc (.cells (xs.take (len * ei.size) ++ vs ++ sp).toArray U)) := (keeps_drew _ w).trans (keeps_alloc _ _ _) (fun j hj => .inl hj)
            have hnew2 := hh.new (hp1 := hp1) (fun y hy => (h15 y.1 y.2 hy).2) hkr (fun k hk => hk.elim) (fun k hk => hk.elim)
              (o := .row (xs.take (len * ei.size) ++ vs ++ sp) U) (b := w.heap.size) (G := fun k => k = w.heap.size) (fun ρ' hr => ⟨fun k => Iff.rfl, cellsAt_alloc w.drew _ U⟩)
              (fun k hk => .inr (Nat.le_of_eq hk.symm)) (fun k hk => by subst hk; simp)
            refine ⟨_, _, _, _, _, _, h14, .inl ?_, ?_, hnew2, Ag.updR ρ _, by omega, hkr.mono fun k hk => hk.elim, ?_⟩
            · rw [run a w, hA ρ F a w hb0, hB ρ F a w hb0]
              simp only [den]
              rw [hr]
              simp [updR_same]
            · intro ρ'' hr''
              simp only [den]
              rw [hr'' st.nx (by omega)]
            · intro k hk
              rcases own_new (fun j y hj => hh.shape.lt j y (h15 j y hj).2) hk with h16 | h16
              · exact .inr (Nat.le_of_eq h16.symm)
              · exact .inl (h16.mono fun y hy => (h15 y.1 y.2 hy).2)
        · exact h8.elim
      · rename_i r o0 len cap
        obtain ⟨ob, hm, h7⟩ := objK_elim h4
        clear h4
        obtain ⟨xs, U, h8, hrow⟩ := rowOfK_elim h7
        clear h7
        split at h8
        · rename_i hU
          have hU : U = e := Nat.eq_of_beq_eq_true hU
          subst hU
          obtain ⟨⟨h9, h10, h11, h12⟩, h13⟩ := h8
          intro ρ F a w hb hh
          have hb0 := hb ρ (Ag.refl _ _)
          obtain ⟨hlen, hnew⟩ := h6 ρ F a w hb0 hh.shape.fok
          have hnew' := (h6 ρ F a w.drew hb0.drew hh.drew.shape.fok).2
          have hobj := hb0.obj r ob hm
          obtain ⟨hF, hcells⟩ := hrow _ _ _ _ hobj
          have hlz1 : len * ei.size ≤ cap * ei.size := Nat.mul_le_mul_right _ h10
          have hlz : o0 + 1 + len * ei.size ≤ xs.length := by omega
          obtain ⟨hroom, hgrow⟩ := run_append_any (P := P) (A := some ⟨ρ r, o0 + 1, none⟩) (len := len) (cap := cap) (n := n) (xv := den ρ x) (vs := vs) (w := w) (olds := (xs.drop (o0 + 1)).take (len * ei.size)) hu hX hno hE hby o.type hlen h9 hnew hnew'
            (fun _ => by
              simp only [Builtin.firstCells]
              exact run_cells_sub (w := w.drew) (cs := xs) (T := U) (o := o0 + 1) (hcells.loc rfl) rfl (by simp; omega))
          -- the old region goes
          have own_rest : ∀ hp1 : List (Nat × SObj), (∀ j y, (j, y) ∈ hp1 → j ≠ r ∧ (j, y) ∈ st.hp) → ∀ k, F r k → Own st.hp F k ∧ ¬ Own hp1 F k := by
            intro hp1 hsub k hk
            refine ⟨⟨r, ob, hm, hk⟩, ?_⟩
            rintro ⟨j, y, hj, hFj⟩
            exact hh.shape.dis j y r ob (hsub j y hj).2 hm (hsub j y hj).1 k hFj hk
          by_cases hfit : len + n ≤ cap
          · have hcz : (len + n) * ei.size ≤ cap * ei.size := Nat.mul_le_mul_right _ hfit
            have hle : o0 + 1 + len * ei.size + vs.length ≤ xs.length := by
              rw [h5]; rw [Nat.add_mul] at hcz; omega
            obtain ⟨w', hst, hc', hk'⟩ := cellsAt_store (P := P) (o := o0 + 1 + len * ei.size) hcells hle h12
            have hs2 : splice xs (o0 + 1 + len * ei.size) vs = xs.take (o0 + 1) ++ (xs.drop (o0 + 1)).take (len * ei.size) ++ vs ++ xs.drop (o0 + 1 + (len + n) * ei.size) := by
              unfold splice; rw [h5, Nat.add_assoc (o0 + 1), ← Nat.add_mul, List.take_add]
            have hpl : (xs.take (o0 + 1)).length = o0 + 1 := by rw [List.length_take]; omega
            obtain ⟨hp1, h14, h15⟩ := swapK_elim (h13 (cap - (len + n)) (xs.take (o0 + 1)) (xs.drop (o0 + 1 + (len + n) * ei.size)) (by rw [List.length_drop, Nat.sub_mul]; omega))
            rw [hs2] at hc'
            have hkr : Keeps (F r) w w' := hk'.mono fun k hk => (hF k).2 hk
            have hnew2 := hh.new (hp1 := hp1) (fun y hy => (h15 y.1 y.2 hy).2) hkr (fun k hk => (own_rest hp1 h15 k hk).1) (fun k hk => (own_rest hp1 h15 k hk).2)
              (o := .row (xs.take (o0 + 1) ++ (xs.drop (o0 + 1)).take (len * ei.size) ++ vs ++ xs.drop (o0 + 1 + (len + n) * ei.size)) U) (b := ρ r) (G := F r) (fun ρ' hr => ⟨hF, hc'⟩)
              (fun k hk => .inl (own_rest hp1 h15 k hk)) (fun k hk => Nat.lt_of_lt_of_le (hh.shape.bnd r ob hm k hk) hk'.size)
            refine ⟨_, _, _, _, _, w', h14, .inl ?_, ?_, hnew2, Ag.updR ρ _, by omega, hkr.mono fun k hk => ⟨r, ob, hm, hk⟩, ?_⟩
            · rw [run a w, hA ρ F a w hb0, hB ρ F a w hb0]
              simp only [den]
              rw [hroom hfit w' (by simp only; rw [add_at]; exact hst)]
              have e1 : len + n + (cap - (len + n)) = cap := by omega
              simp only [updR_same, e1, hpl]
              rfl
            · intro ρ'' hr''
              simp only [den]
              rw [hr'' st.nx (by omega)]
            · intro k hk
              rcases own_new (fun j y hj => hh.shape.lt j y (h15 j y hj).2) hk with h16 | h16
              · exact .inl ⟨r, ob, hm, h16⟩
              · exact .inl (h16.mono fun y hy => (h15 y.1 y.2 hy).2)
          · obtain ⟨m, sp, hsp, hr⟩ := hgrow (by omega)
            obtain ⟨hp1, h14, h15⟩ := swapK_elim (h13 m [] sp (by rw [hsp, hbq]))
            have hkr : Keeps (fun _ => False) w (w.drew.alloc (.cells ((xs.drop (o0 + 1)).take (len * ei.size) ++ vs ++ sp).toArray U)) := (keeps_drew _ w).trans (keeps_alloc _ _ _) (fun j hj => .inl hj)
            have hnew2 := hh.new (hp1 := hp1) (fun y hy => (h15 y.1 y.2 hy).2) hkr (fun k hk => hk.elim) (fun k hk => hk.elim)
              (o := .row ([] ++ (xs.drop (o0 + 1)).take (len * ei.size) ++ vs ++ sp) U) (b := w.heap.size) (G := fun k => k = w.heap.size) (fun ρ' hr => ⟨fun k => Iff.rfl, cellsAt_alloc w.drew _ U⟩)
              (fun k hk => .inr (Nat.le_of_eq hk.symm)) (fun k hk => by subst hk; simp)
            refine ⟨_, _, _, _, _, _, h14, .inl ?_, ?_, hnew2, Ag.updR ρ _, by omega, hkr.mono fun k hk => hk.elim, ?_⟩
            · rw [run a w, hA ρ F a w hb0, hB ρ F a w hb0]
              simp only [den]
              rw [hr]
              simp [updR_same]
            · intro ρ'' hr''
              simp only [den]
              rw [hr'' st.nx (by omega)]
            · intro k hk
              rcases own_new (fun j y hj => hh.shape.lt j y (h15 j y hj).2) hk with h16 | h16
              · exact .inr (Nat.le_of_eq h16.symm)
              · exact .inl (h16.mono fun y hy => (h15 y.1 y.2 hy).2)
        · exact h8.elim
      · exact h4.elim
    · exact h3.elim
  · exact h1.elim

/-! ### copy, and the bytes of a string -/
def copyK (tt : List (Option TI)) (st : SS) (T : TypeId) (d x : SV) (k : SV → SS → Prop) : Prop :=
  tyK tt T fun ti => match ti.und with
    | .slice e => tyK tt e fun ei => forceN ei.size fun z => (match d with
      | .s r o len _ => objK r st.hp fun ob => rowOfK ob fun xs U => (match x with
        | .s r' o' n c => readPK st (.s r' o' n c) (min n len * z) fun vs => (o + vs.length ≤ xs.length ∧ (∀ u ∈ vs, u.oneCell' = true)) ∧ withO r (.row (splice xs o vs) U) st (k (.v (.int .i64 ((min n len : Nat) : Int))))
        | .v (.slice A n c) => readPK st (.v (.slice A n c)) (min n len * z) fun vs => (o + vs.length ≤ xs.length ∧ (∀ u ∈ vs, u.oneCell' = true)) ∧ withO r (.row (splice xs o vs) U) st (k (.v (.int .i64 ((min n len : Nat) : Int))))
        | _ => False)
      | _ => False)
    | _ => False
theorem copyK_elim {P : Program} {tt : List (Option TI)} (ht : TOk P tt) {st : SS} {T : TypeId} {d x : SV} {k : SV → SS → Prop} (h : copyK tt st T d x k) {o : Oper} {A B : Operand} {ats : Array TypeId} (h0 : ats[0]? = some T)
    (ho : o.op = .call { callee := .builtin .copy, args := #[A, B], argTypes := ats })
    (hA : ∀ ρ F a w, Base ρ F st a w → a.eval A = den ρ d) (hB : ∀ ρ F a w, Base ρ F st a w → a.eval B = den ρ x) : Stp P st o k := by
  obtain ⟨ti, hti, h1⟩ := tyK_elim h
  clear h
  have hT := tyFacts (ht T ti hti)
  split at h1
  · rename_i e hd
    obtain ⟨ei, hei, h2⟩ := tyK_elim h1
    clear h1
    replace h2 := forceN_elim h2
    have hE := tyFacts (ht _ ei hei)
    have hu : ∀ w, (underlying T).run P w = .ok (.slice e) w := fun w => by rw [← hd]; exact hT.run_underlying w
    split at h2
    · rename_i r od len cap
      obtain ⟨ob, hm, h3⟩ := objK_elim h2
      obtain ⟨xs, U, h4, hrow⟩ := rowOfK_elim h3
      clear h2 h3
      have run : ∀ (a : Act) w, (execOp a.eval o).run P w = ((Builtin.copy_ ats o.type #[a.eval A, a.eval B]).run P w).andThen fun y w' => .ok (.value y) w' := by
        intro a w
        simp only [execOp, ho, resolve, Sem.run_bind, Sem.run_pure, Result.andThen_ok, invoke, builtin]
        simp
      have fin : ∀ (n : Nat) (l : List SV) (vs : List Value), (∀ ρ, denL ρ l = vs) → (od + vs.length ≤ xs.length ∧ (∀ u ∈ vs, u.oneCell' = true)) → withO r (.row (splice xs od vs) U) st (k (.v (.int .i64 ((min n len : Nat) : Int)))) →
          (∀ ρ F a w, Base ρ F st a w → FOk st.fx w → ∃ A L C, den ρ x = .slice A L C ∧ L = n ∧ (A = none → min n len * ei.size = 0) ∧ ∀ ad, A = some ad → (loadCells ad (min n len * ei.size)).run P w = .ok (denL ρ l).toArray w) → (∀ ρ F a w, Base ρ F st a w → FOk st.fx w → (match den ρ x with | .slice none _ _ => vs = [] | _ => True)) → Stp P st o k := by
        intro n l vs h5 h6 h7 h8 h8'
        refine Stp.upd hm h7 fun ρ F a w hb hh => ?_
        have hb0 := hb ρ (Ag.refl _ _)
        have hobj := hb0.obj r ob hm
        obtain ⟨hF, hcells⟩ := hrow _ _ _ _ hobj
        obtain ⟨w', hst, hc', hk'⟩ := cellsAt_store (P := P) (o := od) hcells h6.1 h6.2
        refine ⟨w', hk'.mono fun k hk => (hF k).2 hk, fun ρ' hr => ?_, fun _ _ => rfl, .inl ?_⟩
        · have hobj' := (hb ρ' hr).obj r ob hm
          have hrr : ρ' r = ρ r := hr r (hh.shape.lt r _ hm)
          exact ⟨(hrow _ _ _ _ hobj').1, by rw [hrr]; exact hc'⟩
        · obtain ⟨ad, L, C, h9, hL, _, h10⟩ := h8 ρ F a w hb0 hh.shape.fok
          subst hL
          have h13 : (Builtin.firstCells ei.size (min L len) (.slice ad L C)).run P w = .ok vs.toArray w := by
            cases ad with
            | none =>
              have h14 := h8' ρ F a w hb0 hh.shape.fok
              rw [h9] at h14
              simp only [Builtin.firstCells, Sem.run_pure]
              rw [show vs = [] from h14]
            | some ad' => simp only [Builtin.firstCells]; rw [← h5 ρ]; exact h10 _ rfl
          rw [run a w, hA ρ F a w hb0, hB ρ F a w hb0, h9]
          simp only [den, Builtin.copy_, h0, List.getElem?_toArray, List.getElem?_cons_zero, List.getElem?_cons_succ, Sem.run_bind, hu, Result.andThen_ok, Builtin.lenOf, Sem.run_pure, hE.run_sizeOf]
          rw [show (Nat.min L len) = min L len from rfl, h13]
          simp only [Result.andThen_ok, hst, goInt]
      split at h4
      · obtain ⟨l, ⟨vs, h5, h6, h7⟩, h8, h9⟩ := readPK_elim (P := P) h4
        refine fin _ l vs h5 h6 h7 (fun ρ F a w hb hs => ?_) (fun ρ F a w hb hs => ?_)
        · obtain ⟨A, L, C, h10, h11, h12⟩ := h9 ρ F a w hb hs
          refine ⟨A, L, C, h10, ?_, h11, h12⟩
          simp only [den, Value.slice.injEq] at h10
          exact h10.2.1.symm
        · obtain ⟨A, L, C, h10, h11, h12⟩ := h9 ρ F a w hb hs
          rw [h10]
          cases A with
          | none =>
            have h13 := congrArg List.length (h5 ρ)
            rw [denL_length, h8, h11 rfl] at h13
            exact List.length_eq_zero_iff.1 h13.symm
          | some ad => trivial
      · obtain ⟨l, ⟨vs, h5, h6, h7⟩, h8, h9⟩ := readPK_elim (P := P) h4
        refine fin _ l vs h5 h6 h7 (fun ρ F a w hb hs => ?_) (fun ρ F a w hb hs => ?_)
        · obtain ⟨A, L, C, h10, h11, h12⟩ := h9 ρ F a w hb hs
          refine ⟨A, L, C, h10, ?_, h11, h12⟩
          simp only [den, Value.slice.injEq] at h10
          exact h10.2.1.symm
        · obtain ⟨A, L, C, h10, h11, h12⟩ := h9 ρ F a w hb hs
          rw [h10]
          cases A with
          | none =>
            have h13 := congrArg List.length (h5 ρ)
            rw [denL_length, h8, h11 rfl] at h13
            exact List.length_eq_zero_iff.1 h13.symm
          | some ad => trivial
      · exact h4.elim
    · exact h2.elim
  · exact h1.elim
def bytesK (tt : List (Option TI)) (st : SS) (src dst : TypeId) (x : SV) (k : SV → SS → Prop) : Prop :=
  tyK tt src fun si => tyK tt dst fun di => match si.und, di.und with
    | .string, .slice e => tyK tt e fun ei => (match ei.und with
      | .int .u8 => (match x with
        | .v (.string s) => ∀ (m : Nat), newK (.row (s.data.toList.map bv ++ List.replicate m (.int .u8 0)) e) st fun r st' => k (.s r 0 s.size (s.size + m)) st'
        | _ => False)
      | _ => False)
    | _, _ => False
theorem bytesK_elim {P : Program} {tt : List (Option TI)} (ht : TOk P tt) {st : SS} {src dst : TypeId} {x : SV} {k : SV → SS → Prop} (h : bytesK tt st src dst x k) {o : Oper} {A : Operand} (ho : o.op = .convert src dst A)
    (hA : ∀ ρ F a w, Base ρ F st a w → a.eval A = den ρ x) : Stp P st o k := by
  obtain ⟨si, hsi, h1⟩ := tyK_elim h
  clear h
  obtain ⟨di, hdi, h⟩ := tyK_elim h1
  clear h1
  have hS := (tyFacts (ht _ si hsi)).run_underlying
  have hD := (tyFacts (ht _ di hdi)).run_underlying
  split at h
  · rename_i e hs hd
    obtain ⟨ei, hei, h1⟩ := tyK_elim h
    clear h
    have hE := (tyFacts (ht _ ei hei)).run_underlying
    split at h1
    · rename_i he
      split at h1
      · rename_i s
        intro ρ F a w hb hh
        have hb0 := hb ρ (Ag.refl _ _)
        have hge : s.size ≤ (Question.appendCap s.size 0 e).cut (w.tape w.drawn (.appendCap s.size 0 e)) := by simp [Question.cut]
        generalize hcap : (Question.appendCap s.size 0 e).cut (w.tape w.drawn (.appendCap s.size 0 e)) = cap at hge
        have h2 := newK_elim (h1 (cap - s.size))
        let cs : List Value := s.data.toList.map bv ++ List.replicate (cap - s.size) (.int .u8 0)
        have hcl : cs.length = cap := by
          simp only [cs, List.length_append, List.length_map, Array.length_toList, List.length_replicate]
          have : s.data.size = s.size := rfl
          omega
        let w1 : World := (w.drew.alloc (.cells cs.toArray e)).freeze ⟨w.heap.size, cap, none⟩ 1
        have hw1 : w1.heap[w.heap.size]? = some (.cells cs.toArray e (cap, cap + 1)) := by
          simp only [w1, World.freeze, Nat.one_ne_zero, if_false, Array.getElem?_modify, if_true]
          rw [show (w.drew.alloc (Obj.cells cs.toArray e)).heap[w.heap.size]? = some (Obj.cells cs.toArray e) from heap_alloc_new w.drew _]
          rfl
        have hk1 : Keeps (fun _ => False) w w1 := by
          refine ⟨rfl, rfl, rfl, ?_, fun k hk _ => ?_⟩
          · simp [w1, World.freeze]
          · simp only [w1, World.freeze, Nat.one_ne_zero, if_false, Array.getElem?_modify]
            rw [if_neg (by omega)]
            exact heap_alloc_old w.drew _ k hk
        have hcell : CellsAt w1 w.heap.size cs e := ⟨(cap, cap + 1), hw1, .inr (by simp only; omega)⟩
        have hnew := hh.new (hp1 := st.hp) (fun _ hy => hy) hk1 (fun k hk => hk.elim) (fun k hk => hk.elim) (o := .row cs e) (b := w.heap.size) (G := fun k => k = w.heap.size) (fun ρ' hr => ⟨fun k => Iff.rfl, hcell⟩)
          (fun k hk => .inr (Nat.le_of_eq hk.symm)) (fun k hk => by subst hk; simp [w1, World.freeze])
        refine ⟨_, _, _, _, _, w1, h2, .inl ?_, ?_, hnew, Ag.updR ρ _, by omega, hk1.mono fun k hk => hk.elim, ?_⟩
        · simp only [execOp, ho, hA ρ F a w hb0, den, convert, Sem.run_bind, hS, hD, hs, hd, Result.andThen_ok, hE, he, Conv.stringToBytes, run_choose, Question.forced, Bool.false_eq_true, if_false, hcap]
          have hel : (s.data.map (fun b => Value.int .u8 (b.toNat : Int)) ++ Array.replicate (cap - s.size) (Value.int .u8 0)) = cs.toArray := by
            apply Array.ext'
            simp [cs, bv]
          simp only [newRow, run_newObj, Sem.run_bind, Result.andThen_ok, Sem.run_pure, World.drew_eq, World.alloc_eq]
          rw [hel]
          have hsh : (w.drew.alloc (.cells cs.toArray e)).shape? w.heap.size = some (e, cap) := by
            simp only [World.shape?]
            rw [show (w.drew.alloc (Obj.cells cs.toArray e)).heap[w.heap.size]? = some (Obj.cells cs.toArray e) from heap_alloc_new w.drew _]
            simp [hcl]
          simp only [markStringish, Sem.run_bind, run_shape, World.size_drew, hsh, Result.andThen_ok, run_freeze, updR_same]
          have e3 : s.size + (cap - s.size) = cap := by omega
          rw [e3]
        · intro ρ'' hr''
          simp only [den]
          rw [hr'' st.nx (by omega)]
        · intro k hk
          rcases own_new hh.shape.lt hk with h16 | h16
          · exact .inr (Nat.le_of_eq h16.symm)
          · exact .inl h16
      · exact h1.elim
    · exact h1.elim
  · exact h.elim
/-- A slice of bytes as the same: only the place behind the row is marked. -/
def rebytesK (tt : List (Option TI)) (st : SS) (src dst : TypeId) (x : SV) (k : SV → SS → Prop) : Prop :=
  tyK tt src fun si => tyK tt dst fun di => match si.und, di.und with
    | .slice _, .slice e => tyK tt e fun ei => (match ei.und, Nat.beq src dst with
      | .int .u8, true => (match x with
        | .s r o len cap => objK r st.hp fun ob => (match ob with
          | .cells cs T => withO r (.cells cs T) st (k (.s r o len cap))
          | .row xs T => withO r (.row xs T) st (k (.s r o len cap))
          | _ => False)
        | _ => False)
      | _, _ => False)
    | _, _ => False
theorem cellsAt_mark {w : World} {b : Nat} {cs : List Value} {T : TypeId} (h : CellsAt w b cs T) : CellsAt (w.freeze ⟨b, cs.length, none⟩ 1) b cs T ∧ Keeps (fun k => k = b) w (w.freeze ⟨b, cs.length, none⟩ 1) := by
  obtain ⟨⟨lo, hi⟩, h1, h2⟩ := h
  refine ⟨?_, ?_⟩
  · refine ⟨if lo == hi then (cs.length, cs.length + 1) else (min lo cs.length, max hi (cs.length + 1)), ?_, ?_⟩
    · simp only [World.freeze, Nat.one_ne_zero, if_false, Array.getElem?_modify, if_true, h1]
      rfl
    · right
      simp only at h2
      split
      · exact Nat.le_refl _
      · rename_i hne
        simp only [beq_iff_eq] at hne
        simp only
        omega
  · refine ⟨rfl, rfl, rfl, by simp [World.freeze], fun k hk hn => ?_⟩
    simp only [World.freeze, Nat.one_ne_zero, if_false, Array.getElem?_modify]
    rw [if_neg (Ne.symm hn)]
theorem rebytesK_elim {P : Program} {tt : List (Option TI)} (ht : TOk P tt) {st : SS} {src dst : TypeId} {x : SV} {k : SV → SS → Prop} (h : rebytesK tt st src dst x k) {o : Oper} {A : Operand} (ho : o.op = .convert src dst A)
    (hA : ∀ ρ F a w, Base ρ F st a w → a.eval A = den ρ x) : Stp P st o k := by
  obtain ⟨si, hsi, h1⟩ := tyK_elim h
  clear h
  obtain ⟨di, hdi, h⟩ := tyK_elim h1
  clear h1
  have hS := (tyFacts (ht _ si hsi)).run_underlying
  have hD := (tyFacts (ht _ di hdi)).run_underlying
  split at h
  · rename_i e' e hs hd
    obtain ⟨ei, hei, h1⟩ := tyK_elim h
    clear h
    have hE := (tyFacts (ht _ ei hei)).run_underlying
    split at h1
    · rename_i he hb
      have hsd : src = dst := Nat.eq_of_beq_eq_true hb
      subst hsd
      have hsi' : si = di := by rw [hsi] at hdi; simpa using hdi
      subst hsi'
      have hee : e' = e := by rw [hs] at hd; cases hd; rfl
      subst hee
      split at h1
      · rename_i r off len cap
        obtain ⟨ob, hm, h2⟩ := objK_elim h1
        have run : ∀ (a : Act) (w : World) (b : Nat) (cs : List Value) (T : TypeId), CellsAt w b cs T → (a.eval A = .slice (some ⟨b, off, none⟩) len cap) → (execOp a.eval o).run P w = .ok (.value (.slice (some ⟨b, off, none⟩) len cap)) (w.freeze ⟨b, cs.length, none⟩ 1) := by
          intro a w b cs T hc hx
          have hsh : w.shape? b = some (T, cs.length) := by
            obtain ⟨fz, h, _⟩ := hc
            simp [World.shape?, h]
          simp only [execOp, ho, hx, convert, Sem.run_bind, hS, hD, hs, hd, Result.andThen_ok, hE, he, beq_self_eq_true, markStringish, run_shape, hsh, run_freeze, Sem.run_pure]
        split at h2
        · rename_i cs T
          refine Stp.upd hm h2 fun ρ F a w hb hh => ?_
          have hb0 := hb ρ (Ag.refl _ _)
          have hobj := hb0.obj r _ hm
          obtain ⟨hc, hk⟩ := cellsAt_mark hobj.2
          refine ⟨_, hk.mono fun k hk' => (hobj.1 k).2 hk', fun ρ' hr => ?_, fun ρ' hr => ?_, .inl (run a w _ _ _ hobj.2 (hA ρ F a w hb0))⟩
          · have h5 := (hb ρ' hr).obj r _ hm
            refine ⟨h5.1, ?_⟩
            have h6 := (cellsAt_mark h5.2).1
            have e1 : ρ' r = ρ r := hr r (hh.shape.lt r _ hm)
            rw [denL_length] at h6 ⊢
            rw [e1] at h6 ⊢
            exact h6
          · have e1 : ρ' r = ρ r := hr r (hh.shape.lt r _ hm)
            simp only [den, e1]
        · rename_i xs T
          refine Stp.upd hm h2 fun ρ F a w hb hh => ?_
          have hb0 := hb ρ (Ag.refl _ _)
          have hobj := hb0.obj r _ hm
          obtain ⟨hc, hk⟩ := cellsAt_mark hobj.2
          refine ⟨_, hk.mono fun k hk' => (hobj.1 k).2 hk', fun ρ' hr => ?_, fun ρ' hr => ?_, .inl (run a w _ _ _ hobj.2 (hA ρ F a w hb0))⟩
          · have e1 : ρ' r = ρ r := hr r (hh.shape.lt r _ hm)
            have h5 := (hb ρ' hr).obj r _ hm
            refine ⟨h5.1, ?_⟩
            rw [e1]; exact hc
          · have e1 : ρ' r = ρ r := hr r (hh.shape.lt r _ hm)
            simp only [den, e1]
        · exact h2.elim
      · exact h1.elim
    · exact h1.elim
  · exact h.elim
end Go.Proofs.YtekgjjanikicnaaDoor.Sx
