/- A symbolic executor for the model's code, part 9: one operation, a list of operations, a function's code; calls by contract; loops by invariant. -/
import Derived.Test.YtekgjjanikicnaaSxM
import Derived.Laws.Strings
import Derived.Deep.LoopGhost
namespace Go.Proofs.Ytekgjjanikicnaa.Sx
open Go
set_option linter.unusedVariables false
set_option linter.unusedSimpArgs false

/-! ### operations that leave the world alone -/
def boolK (tt : List (Option TI)) (T : TypeId) (op : BinOp) (s : Bool) (ks : Bool) (y : SV) (k : SV → Prop) : Prop :=
  tyK tt T fun ti => match ti.und with
    | .bool => (match op with
      | .eql => (match y with | .b t => outB ks (s == t) k | .v (.bool t) => outB false (s == t) k | _ => False)
      | .neq => (match y with | .b t => outB ks (!(s == t)) k | .v (.bool t) => outB false (!(s == t)) k | _ => False)
      | _ => False)
    | _ => False
def strK (op : BinOp) (s t : ByteArray) (k : SV → Prop) : Prop :=
  match op with
  | .eql => k (.v (.bool (s.data.toList == t.data.toList)))
  | .neq => k (.v (.bool (!(s.data.toList == t.data.toList))))
  | .add => (((s.size + t.size : Nat) : Int) ≤ 9223372036854775807) ∧ k (.v (.string (s ++ t)))
  | _ => False
def binK (tt : List (Option TI)) (op : BinOp) (T : TypeId) (x y : SV) (k : SV → Prop) : Prop :=
  match op with
  | .shl => intK x fun kd a ka => intK y fun _ b kb => shiftK .shl kd a b ka kb k
  | .shr => intK x fun kd a ka => intK y fun _ b kb => shiftK .shr kd a b ka kb k
  | op => match x with
    | .k kd a => intK y fun kd' b kb => kdK kd kd' (arithK op kd a b kb k)
    | .v (.int kd a) => intK y fun kd' b _ => kdK kd kd' (arithK op kd a b false k)
    | .b s => boolK tt T op s true y k
    | .v (.bool s) => boolK tt T op s false y k
    | .v (.string s) => (match y with | .v (.string t) => strK op s t k | _ => False)
    | x => (match op with
      | .eql => eqNilK tt T x y fun t => outB true t k
      | .neq => eqNilK tt T x y fun t => outB true (!t) k
      | _ => False)
theorem guard_int {P : Program} (op : BinOp) (T : TypeId) (a b : Operand) (kd : IntKind) (n : Int) (y : Value) (w : World) : (eqGuard op T a b (.int kd n) y).run P w = .ok () w := by
  cases op <;> rfl
theorem guard_bool {P : Program} (op : BinOp) (T : TypeId) (a b : Operand) (n : Bool) (y : Value) (w : World) : (eqGuard op T a b (.bool n) y).run P w = .ok () w := by
  cases op <;> rfl
theorem guard_str {P : Program} (op : BinOp) (T : TypeId) (a b : Operand) (n : ByteArray) (y : Value) (w : World) : (eqGuard op T a b (.string n) y).run P w = .ok () w := by
  cases op <;> rfl
theorem boolK_elim {P : Program} {tt : List (Option TI)} (ht : TOk P tt) {T : TypeId} {op : BinOp} {s ks : Bool} {y : SV} {k : SV → Prop} (h : boolK tt T op s ks y k) :
    ∃ r, k r ∧ ∀ ρ w, ∃ t, den ρ y = .bool t ∧ (binOp op T (.bool s) (den ρ y)).run P w = .ok (den ρ r) w := by
  obtain ⟨ti, hti, h1⟩ := tyK_elim h
  clear h
  have hT := tyFacts (ht T ti hti)
  split at h1
  · rename_i hd
    have hu : ∀ w, (underlying T).run P w = .ok .bool w := fun w => by rw [← hd]; exact hT.run_underlying w
    have he : ∀ (t : Bool) w, (Op.equal T (.bool s) (.bool t)).run P w = .ok (s == t) w := by
      intro t w
      have : ∀ d, (Op.equalIn (d + 1) T (.bool s) (.bool t)).run P w = .ok (s == t) w := fun d => by simp [Op.equalIn, hu]
      exact this 9999
    split at h1
    · split at h1
      · obtain ⟨r, h2, h3⟩ := outB_elim h1
        exact ⟨r, h2, fun ρ w => ⟨_, rfl, by simp [binOp, den, he, h3]⟩⟩
      · obtain ⟨r, h2, h3⟩ := outB_elim h1
        exact ⟨r, h2, fun ρ w => ⟨_, rfl, by simp [binOp, den, he, h3]⟩⟩
      · exact h1.elim
    · split at h1
      · obtain ⟨r, h2, h3⟩ := outB_elim h1
        exact ⟨r, h2, fun ρ w => ⟨_, rfl, by simp [binOp, den, he, h3]⟩⟩
      · obtain ⟨r, h2, h3⟩ := outB_elim h1
        exact ⟨r, h2, fun ρ w => ⟨_, rfl, by simp [binOp, den, he, h3]⟩⟩
      · exact h1.elim
    · exact h1.elim
  · exact h1.elim
theorem strK_elim {P : Program} {T : TypeId} {op : BinOp} {s t : ByteArray} {k : SV → Prop} (h : strK op s t k) :
    ∃ r, k r ∧ ∀ ρ w, (binOp op T (.string s) (.string t)).run P w = .ok (den ρ r) w := by
  unfold strK at h
  split at h
  · exact ⟨_, h, fun ρ w => by simp [binOp, Op.stringOp, den, ByteArray.toList_eq]⟩
  · exact ⟨_, h, fun ρ w => by simp [binOp, Op.stringOp, den, ByteArray.toList_eq]⟩
  · obtain ⟨h1, h2⟩ := h
    refine ⟨_, h2, fun ρ w => ?_⟩
    have : ¬ (((s.size + t.size : Nat) : Int) > IntKind.i64.max) := by
      have : IntKind.i64.max = 9223372036854775807 := by decide
      omega
    simp only [binOp, Op.stringOp, this, if_false, Sem.run_pure, den]
  · exact h.elim
theorem binK_elim {P : Program} {tt : List (Option TI)} (ht : TOk P tt) {op : BinOp} {T : TypeId} {x y : SV} {k : SV → Prop} (h : binK tt op T x y k) :
    ∃ r, k r ∧ ∀ ρ w a b, ((do eqGuard op T a b (den ρ x) (den ρ y); binOp op T (den ρ x) (den ρ y)) : Sem Value).run P w = .ok (den ρ r) w := by
  have gi : ∀ kd (n : Int) (v : Value) w a b, (eqGuard op T a b (.int kd n) v).run P w = .ok () w := fun kd n v w a b => guard_int ..
  have gb : ∀ (n : Bool) (v : Value) w a b, (eqGuard op T a b (.bool n) v).run P w = .ok () w := fun n v w a b => guard_bool ..
  have gs : ∀ (n : ByteArray) (v : Value) w a b, (eqGuard op T a b (.string n) v).run P w = .ok () w := fun n v w a b => guard_str ..
  unfold binK at h
  split at h
  · obtain ⟨kd, a, ka, h1, h2⟩ := intK_elim h
    obtain ⟨kd', b, kb, h3, h4⟩ := intK_elim h1
    obtain ⟨r, h5, h6⟩ := shiftK_elim (P := P) (yk := kd') h3
    exact ⟨r, h5, fun ρ w A B => by simp only [h2, h4, Sem.run_bind, gi, Result.andThen_ok]; exact h6 ρ w⟩
  · obtain ⟨kd, a, ka, h1, h2⟩ := intK_elim h
    obtain ⟨kd', b, kb, h3, h4⟩ := intK_elim h1
    obtain ⟨r, h5, h6⟩ := shiftK_elim (P := P) (yk := kd') h3
    exact ⟨r, h5, fun ρ w A B => by simp only [h2, h4, Sem.run_bind, gi, Result.andThen_ok]; exact h6 ρ w⟩
  · rename_i hn1 hn2
    split at h
    · obtain ⟨kd', b, kb, h3, h4⟩ := intK_elim h
      obtain ⟨rfl, h5⟩ := kdK_elim h3
      obtain ⟨r, h6, h7⟩ := arithK_elim (P := P) (T := T) ⟨hn1, hn2⟩ h5
      exact ⟨r, h6, fun ρ w A B => by simp only [den, h4, Sem.run_bind, gi, Result.andThen_ok]; exact h7 ρ w⟩
    · obtain ⟨kd', b, kb, h3, h4⟩ := intK_elim h
      obtain ⟨rfl, h5⟩ := kdK_elim h3
      obtain ⟨r, h6, h7⟩ := arithK_elim (P := P) (T := T) ⟨hn1, hn2⟩ h5
      exact ⟨r, h6, fun ρ w A B => by simp only [den, h4, Sem.run_bind, gi, Result.andThen_ok]; exact h7 ρ w⟩
    · obtain ⟨r, h1, h2⟩ := boolK_elim (P := P) ht h
      exact ⟨r, h1, fun ρ w A B => by obtain ⟨t, h3, h4⟩ := h2 ρ w; simp only [den, Sem.run_bind, gb, Result.andThen_ok]; exact h4⟩
    · obtain ⟨r, h1, h2⟩ := boolK_elim (P := P) ht h
      exact ⟨r, h1, fun ρ w A B => by obtain ⟨t, h3, h4⟩ := h2 ρ w; simp only [den, Sem.run_bind, gb, Result.andThen_ok]; exact h4⟩
    · split at h
      · obtain ⟨r, h1, h2⟩ := strK_elim (P := P) (T := T) h
        exact ⟨r, h1, fun ρ w A B => by simp only [den, Sem.run_bind, gs, Result.andThen_ok]; exact h2 ρ w⟩
      · exact h.elim
    · split at h
      · obtain ⟨t, h1, h2⟩ := eqNilK_elim (P := P) ht h
        obtain ⟨r, h3, h4⟩ := outB_elim h1
        exact ⟨r, h3, fun ρ w A B => by obtain ⟨_, h5, h6⟩ := h2 ρ w; simp only [Sem.run_bind, h6, Result.andThen_ok, h4]; exact (h5 .eql).1 rfl⟩
      · obtain ⟨t, h1, h2⟩ := eqNilK_elim (P := P) ht h
        obtain ⟨r, h3, h4⟩ := outB_elim h1
        exact ⟨r, h3, fun ρ w A B => by obtain ⟨_, h5, h6⟩ := h2 ρ w; simp only [Sem.run_bind, h6, Result.andThen_ok, h4]; exact (h5 .neq).2 rfl⟩
      · exact h.elim
def unK (op : UnOp) (x : SV) (k : SV → Prop) : Prop :=
  match op with
  | .not => (match x with | .b t => outB true (!t) k | .v (.bool t) => k (.v (.bool (!t))) | _ => False)
  | .neg => intK x fun kd n kn => sumK kd (0 - n) kn k
  | .xor => intK x fun kd n kn => outI kn kd (bitz .xor kd (if kd.signed then -1 else kd.max) n) k
  | _ => False
theorem unK_elim {P : Program} {op : UnOp} {x : SV} {k : SV → Prop} (h : unK op x k) : ∃ r, k r ∧ ∀ ρ w, (Op.unary op (den ρ x)).run P w = .ok (den ρ r) w := by
  unfold unK at h
  split at h
  · split at h
    · obtain ⟨r, h1, h2⟩ := outB_elim h
      exact ⟨r, h1, fun ρ w => by simp [Op.unary, den, h2]⟩
    · exact ⟨_, h, fun ρ w => by simp [Op.unary, den]⟩
    · exact h.elim
  · obtain ⟨kd, n, kn, h1, h2⟩ := intK_elim h
    obtain ⟨r, h3, h4⟩ := sumK_elim h1
    exact ⟨r, h3, fun ρ w => by simp [Op.unary, Op.intArith, h2, h4]⟩
  · obtain ⟨kd, n, kn, h1, h2⟩ := intK_elim h
    obtain ⟨r, h3, h4⟩ := outI_elim h1
    exact ⟨r, h3, fun ρ w => by simp [Op.unary, Op.intBits, h2, h4, bitz]⟩
  · exact h.elim
def nilCheckK (x : SV) (k : SV → Prop) : Prop :=
  match x with
  | .p r o => k (.p r o)
  | .q r o => k (.q r o)
  | .v (.pointer (some ad)) => k (.v (.pointer (some ad)))
  | .fn (.func f) a c => k (.fn (.func f) a c)
  | _ => False
def pickK (st : SS) (c a b : Operand) (k : SV → Prop) : Prop :=
  evK st c fun c => match c with
    | .b true => evK st a k
    | .b false => evK st b k
    | .v (.bool t) => (t = true → evK st a k) ∧ (t = false → evK st b k)
    | _ => False
def arrayAtK (tt : List (Option TI)) (T : TypeId) (x : SV) (k : SV → Prop) : Prop :=
  tyK tt T fun ti => match ti.und with
    | .array n _ => (match x with
      | .s r o len _ => (n ≤ len) ∧ k (.q r o)
      | .v (.slice A len _) => (n ≤ len) ∧ ∃ ad, A = some ad ∧ k (.v (.pointer (some ad)))
      | _ => False)
    | _ => False
theorem arrayAtK_elim {P : Program} {tt : List (Option TI)} (ht : TOk P tt) {T : TypeId} {x : SV} {k : SV → Prop} (h : arrayAtK tt T x k) : ∃ y, k y ∧ ∀ ρ w, (Instr.arrayAt T (den ρ x)).run P w = .ok (den ρ y) w := by
  obtain ⟨ti, hti, h1⟩ := tyK_elim h
  clear h
  have hT := tyFacts (ht T ti hti)
  split at h1
  · rename_i n e hd
    have hu : ∀ w, (underlying T).run P w = .ok (.array n e) w := fun w => by rw [← hd]; exact hT.run_underlying w
    split at h1
    · obtain ⟨h2, h3⟩ := h1
      exact ⟨_, h3, fun ρ w => by simp [Instr.arrayAt, hu, den, Nat.not_lt.2 h2]⟩
    · obtain ⟨h2, ad, rfl, h3⟩ := h1
      exact ⟨_, h3, fun ρ w => by simp [Instr.arrayAt, hu, den, Nat.not_lt.2 h2]⟩
    · exact h1.elim
  · exact h1.elim
/-- A value of an interface type, compared with nil written out. -/
def ifaceK (tt : List (Option TI)) (op : BinOp) (T : TypeId) (x : SV) (k : SV → Prop) : Prop :=
  tyK tt T fun ti => match ti.und with
    | .interface _ => (match x with
      | .v .nilIface => (match op with | .eql => k (.b true) | .neq => k (.b false) | _ => False)
      | .v (.iface _ _) => (match op with | .eql => k (.b false) | .neq => k (.b true) | _ => False)
      | _ => False)
    | _ => False
theorem ifaceK_elim {P : Program} {tt : List (Option TI)} (ht : TOk P tt) {op : BinOp} {T : TypeId} {x : SV} {k : SV → Prop} (h : ifaceK tt op T x k) :
    ∃ r, k r ∧ ∀ ρ w a, ((do eqGuard op T a (.const .nilIface) (den ρ x) .nilIface; binOp op T (den ρ x) .nilIface) : Sem Value).run P w = .ok (den ρ r) w := by
  obtain ⟨ti, hti, h1⟩ := tyK_elim h
  clear h
  have hT := tyFacts (ht T ti hti)
  split at h1
  · rename_i ms hd
    have hu : ∀ w, (underlying T).run P w = .ok (.interface ms) w := fun w => by rw [← hd]; exact hT.run_underlying w
    have e1 : ∀ w, (Op.equal T .nilIface .nilIface).run P w = .ok true w := fun w => by
      have : ∀ d, (Op.equalIn (d + 1) T .nilIface .nilIface).run P w = .ok true w := fun d => by simp [Op.equalIn, hu]
      exact this 9999
    have e2 : ∀ w a b, (Op.equal T (.iface a b) .nilIface).run P w = .ok false w := fun w a b => by
      have : ∀ d, (Op.equalIn (d + 1) T (.iface a b) .nilIface).run P w = .ok false w := fun d => by simp [Op.equalIn, hu]
      exact this 9999
    split at h1
    · split at h1
      · exact ⟨_, h1, fun ρ w a => by cases a <;> simp [eqGuard, binOp, den, e1]⟩
      · exact ⟨_, h1, fun ρ w a => by cases a <;> simp [eqGuard, binOp, den, e1]⟩
      · exact h1.elim
    · split at h1
      · exact ⟨_, h1, fun ρ w a => by simp [eqGuard, binOp, den, e2]⟩
      · exact ⟨_, h1, fun ρ w a => by simp [eqGuard, binOp, den, e2]⟩
      · exact h1.elim
    · exact h1.elim
  · exact h1.elim
def pureK (tt : List (Option TI)) (st : SS) (op : Op) (k : SV → Prop) : Prop :=
  match op with
  | .move x => evK st x k
  | .assign x => evK st x k
  | .pick c a b => pickK st c a b k
  | .nilCheck x => evK st x fun x => nilCheckK x k
  | .binOp op T x (.const .nilIface) _ => evK st x fun x => ifaceK tt op T x k
  | .binOp op T x y _ => evK st x fun x => evK st y fun y => binK tt op T x y k
  | .unOp op _ x => evK st x fun x => unK op x k
  | .convert s d x => evK st x fun x => convK tt st s d x k
  | .slice T x lo hi none => evK st x fun x => sliceK tt st T x lo hi k
  | .fieldAddr S x f => evK st x fun x => fieldK tt S f fun o _ => moveK x o k
  | .field S x f => evK st x fun x => fieldVK tt S x f k
  | .indexAddr T x i => evK st x fun x => evK st i fun i => indexAtK tt T x i k
  | .index T x i => evK st x fun x => evK st i fun i => indexK tt T x i k
  | .load T x => evK st x fun x => loadK tt st T x k
  | .extract t i => evK st t fun t => (match t with | .tup l => nthS l i k | _ => False)
  | .build T ps => buildK tt st T ps.toList k
  | .makeFunc f ⟨a⟩ ⟨c⟩ => evLK st a fun a => evLK st c fun c => k (.fn f a c)
  | .sliceToArrayPointer T x => evK st x fun x => arrayAtK tt T x k
  | .entry it => evK st it fun it => entryK st it k
  | .lookup T m x ok => evK st m fun m => evK st x fun x => lookupK tt st T m x ok k
  | .call { callee := .builtin .len, args := ⟨[x]⟩, argTypes := ⟨[T]⟩ } => evK st x fun x => lenK tt st T x k
  | .call { callee := .builtin .cap, args := ⟨[x]⟩, argTypes := ⟨[T]⟩ } => evK st x fun x => capK tt T x k
  | .call { callee := .builtin .min, args := ⟨[x, y]⟩, argTypes := _ } => evK st x fun x => evK st y fun y => minK x y k
  | .call { callee := .builtin .max, args := ⟨[x, y]⟩, argTypes := _ } => evK st x fun x => evK st y fun y => maxK x y k
  | _ => False
theorem pureK_elim {P : Program} {tt : List (Option TI)} (ht : TOk P tt) {st : SS} {op : Op} {k : SV → Prop} (h : pureK tt st op k) {o : Oper} (ho : o.op = op) : ∃ y, k y ∧ Yl P st o y := by
  unfold pureK at h
  split at h
  · obtain ⟨y, h1, h2⟩ := evK_elim h
    exact ⟨y, h1, fun ρ F a w hb hs => by simp [execOp, ho, h2 ρ F a w hb]⟩
  · obtain ⟨y, h1, h2⟩ := evK_elim h
    exact ⟨y, h1, fun ρ F a w hb hs => by simp [execOp, ho, h2 ρ F a w hb]⟩
  · obtain ⟨c, h1, h2⟩ := evK_elim h
    have go : ∀ (t : Bool) (z : Operand), (∀ ρ, den ρ c = .bool t) → (∀ ρ F a w, Base ρ F st a w → (execOp a.eval o).run P w = .ok (.value (a.eval z)) w) → evK st z k → ∃ y, k y ∧ Yl P st o y := by
      intro t z hc hz he
      obtain ⟨y, h3, h4⟩ := evK_elim he
      exact ⟨y, h3, fun ρ F a w hb hs => by rw [hz ρ F a w hb, h4 ρ F a w hb]⟩
    have run : ∀ (t : Bool) (x y : Operand) (C : Operand), o.op = .pick C x y → (∀ ρ F a w, Base ρ F st a w → a.eval C = .bool t) → ∀ ρ F a w, Base ρ F st a w → (execOp a.eval o).run P w = .ok (.value (a.eval (if t then x else y))) w := by
      intro t x y C hop hC ρ F a w hb
      simp only [execOp, hop, hC ρ F a w hb, asBool, Sem.run_bind, Sem.run_pure, Result.andThen_ok]
      cases t <;> rfl
    split at h1
    · exact go true _ (fun ρ => rfl) (fun ρ F a w hb => run true _ _ _ ho (fun ρ F a w hb => by rw [h2 ρ F a w hb]; rfl) ρ F a w hb) h1
    · exact go false _ (fun ρ => rfl) (fun ρ F a w hb => run false _ _ _ ho (fun ρ F a w hb => by rw [h2 ρ F a w hb]; rfl) ρ F a w hb) h1
    · rename_i t
      cases t
      · exact go false _ (fun ρ => rfl) (fun ρ F a w hb => run false _ _ _ ho (fun ρ F a w hb => by rw [h2 ρ F a w hb]; rfl) ρ F a w hb) (h1.2 rfl)
      · exact go true _ (fun ρ => rfl) (fun ρ F a w hb => run true _ _ _ ho (fun ρ F a w hb => by rw [h2 ρ F a w hb]; rfl) ρ F a w hb) (h1.1 rfl)
    · exact h1.elim
  · obtain ⟨y, h1, h2⟩ := evK_elim h
    unfold nilCheckK at h1
    split at h1
    · exact ⟨_, h1, fun ρ F a w hb hs => by simp [execOp, ho, h2 ρ F a w hb, den]⟩
    · exact ⟨_, h1, fun ρ F a w hb hs => by simp [execOp, ho, h2 ρ F a w hb, den]⟩
    · exact ⟨_, h1, fun ρ F a w hb hs => by simp [execOp, ho, h2 ρ F a w hb, den]⟩
    · exact ⟨_, h1, fun ρ F a w hb hs => by simp [execOp, ho, h2 ρ F a w hb, den]⟩
    · exact h1.elim
  · obtain ⟨x, h1, h2⟩ := evK_elim h
    obtain ⟨r, h5, h6⟩ := ifaceK_elim (P := P) ht h1
    refine ⟨r, h5, fun ρ F a w hb hs => ?_⟩
    rename_i X _
    have hc : a.eval (.const .nilIface) = .nilIface := rfl
    simp only [execOp, ho, Sem.run_bind, h2 ρ F a w hb, hc]
    have := h6 ρ w X
    simp only [Sem.run_bind] at this
    rw [this]; rfl
  · obtain ⟨x, h1, h2⟩ := evK_elim h
    obtain ⟨y, h3, h4⟩ := evK_elim h1
    obtain ⟨r, h5, h6⟩ := binK_elim (P := P) ht h3
    refine ⟨r, h5, fun ρ F a w hb hs => ?_⟩
    simp only [execOp, ho, Sem.run_bind, h2 ρ F a w hb, h4 ρ F a w hb]
    have := h6 ρ w
    simp only [Sem.run_bind] at this
    rw [this]; rfl
  · obtain ⟨x, h1, h2⟩ := evK_elim h
    obtain ⟨r, h5, h6⟩ := unK_elim (P := P) h1
    exact ⟨r, h5, fun ρ F a w hb hs => by simp only [execOp, ho, Sem.run_bind, h2 ρ F a w hb, h6]; rfl⟩
  · obtain ⟨x, h1, h2⟩ := evK_elim h
    obtain ⟨r, h5, h6⟩ := convK_elim (P := P) ht h1
    exact ⟨r, h5, fun ρ F a w hb hs => by simp only [execOp, ho, Sem.run_bind, h2 ρ F a w hb, h6 ρ F a w hb hs]; rfl⟩
  · obtain ⟨x, h1, h2⟩ := evK_elim h
    obtain ⟨r, h5, h6⟩ := sliceK_elim (P := P) ht h1
    exact ⟨r, h5, fun ρ F a w hb hs => by simp only [execOp, ho, Sem.run_bind, h2 ρ F a w hb, Option.map_none, h6 ρ F a w hb]; rfl⟩
  · obtain ⟨x, h1, h2⟩ := evK_elim h
    obtain ⟨fs, fd, fi, h3, h4, h5, h6, h7⟩ := fieldK_elim (P := P) ht h1
    obtain ⟨y, h8, h9⟩ := moveK_elim h7
    refine ⟨y, h8, fun ρ F a w hb hs => ?_⟩
    obtain ⟨ad, h10, h11⟩ := h9 ρ
    simp only [execOp, ho, Sem.run_bind, h2 ρ F a w hb, h10, run_fieldAt h3 h4 h5 h6, h11]; rfl
  · obtain ⟨x, h1, h2⟩ := evK_elim h
    obtain ⟨r, h5, h6⟩ := fieldVK_elim (P := P) ht h1
    exact ⟨r, h5, fun ρ F a w hb hs => by simp only [execOp, ho, Sem.run_bind, h2 ρ F a w hb, h6]; rfl⟩
  · obtain ⟨x, h1, h2⟩ := evK_elim h
    obtain ⟨y, h3, h4⟩ := evK_elim h1
    obtain ⟨r, h5, h6⟩ := indexAtK_elim (P := P) ht h3
    exact ⟨r, h5, fun ρ F a w hb hs => by simp only [execOp, ho, Sem.run_bind, h2 ρ F a w hb, h4 ρ F a w hb, h6]; rfl⟩
  · obtain ⟨x, h1, h2⟩ := evK_elim h
    obtain ⟨y, h3, h4⟩ := evK_elim h1
    obtain ⟨r, h5, h6⟩ := indexK_elim (P := P) ht h3
    exact ⟨r, h5, fun ρ F a w hb hs => by simp only [execOp, ho, Sem.run_bind, h2 ρ F a w hb, h4 ρ F a w hb, h6]; rfl⟩
  · obtain ⟨x, h1, h2⟩ := evK_elim h
    obtain ⟨r, h5, h6⟩ := loadK_elim (P := P) ht h1
    exact ⟨r, h5, fun ρ F a w hb hs => by simp only [execOp, ho, Sem.run_bind, h2 ρ F a w hb, h6 ρ F a w hb hs]; rfl⟩
  · obtain ⟨x, h1, h2⟩ := evK_elim h
    split at h1
    · rename_i l
      obtain ⟨y, h3, h4⟩ := nthS_elim h1
      refine ⟨y, h4, fun ρ F a w hb hs => ?_⟩
      simp [execOp, ho, h2 ρ F a w hb, den, Instr.extract, denL_get, h3]
    · exact h1.elim
  · obtain ⟨r, h5, h6⟩ := buildK_elim (P := P) ht h
    exact ⟨r, h5, fun ρ F a w hb hs => by simp only [execOp, ho, Sem.run_bind]; erw [h6 ρ F a w hb]; rfl⟩
  · obtain ⟨x, h1, h2⟩ := evLK_elim h
    obtain ⟨y, h3, h4⟩ := evLK_elim h1
    refine ⟨_, h3, fun ρ F a w hb hs => ?_⟩
    simp [execOp, ho, Instr.makeFunc, den, ← h2 ρ F a w hb, ← h4 ρ F a w hb]
  · obtain ⟨x, h1, h2⟩ := evK_elim h
    obtain ⟨r, h5, h6⟩ := arrayAtK_elim (P := P) ht h1
    exact ⟨r, h5, fun ρ F a w hb hs => by simp only [execOp, ho, Sem.run_bind, h2 ρ F a w hb, h6]; rfl⟩
  · obtain ⟨x, h1, h2⟩ := evK_elim h
    obtain ⟨r, h5, h6⟩ := entryK_elim (P := P) h1
    exact ⟨r, h5, fun ρ F a w hb hs => by simp only [execOp, ho, Sem.run_bind, h2 ρ F a w hb, h6 ρ F a w hb]; rfl⟩
  · obtain ⟨m, h1, h2⟩ := evK_elim h
    obtain ⟨x, h3, h4⟩ := evK_elim h1
    obtain ⟨r, h5, h6⟩ := lookupK_elim (P := P) ht h3
    exact ⟨r, h5, fun ρ F a w hb hs => by simp only [execOp, ho, Sem.run_bind, h2 ρ F a w hb, h4 ρ F a w hb, h6 ρ F a w hb]; rfl⟩
  · obtain ⟨x, h1, h2⟩ := evK_elim h
    obtain ⟨r, h5, h6⟩ := lenK_elim (P := P) ht h1
    refine ⟨r, h5, fun ρ F a w hb hs => ?_⟩
    have := h6 ρ F a w hb o.type
    simp [execOp, ho, resolve, invoke, builtin, h2 ρ F a w hb, this]
  · obtain ⟨x, h1, h2⟩ := evK_elim h
    obtain ⟨r, h5, h6⟩ := capK_elim (P := P) ht h1
    refine ⟨r, h5, fun ρ F a w hb hs => ?_⟩
    have := h6 ρ w o.type
    simp [execOp, ho, resolve, invoke, builtin, h2 ρ F a w hb, this]
  · obtain ⟨x, h1, h2⟩ := evK_elim h
    obtain ⟨y, h3, h4⟩ := evK_elim h1
    obtain ⟨r, h5, h6⟩ := minK_elim (P := P) h3
    refine ⟨r, h5, fun ρ F a w hb hs => ?_⟩
    simp [execOp, ho, resolve, invoke, builtin, h2 ρ F a w hb, h4 ρ F a w hb, h6]
  · obtain ⟨x, h1, h2⟩ := evK_elim h
    obtain ⟨y, h3, h4⟩ := evK_elim h1
    obtain ⟨r, h5, h6⟩ := maxK_elim (P := P) h3
    refine ⟨r, h5, fun ρ F a w hb hs => ?_⟩
    simp [execOp, ho, resolve, invoke, builtin, h2 ρ F a w hb, h4 ρ F a w hb, h6]
  · exact h.elim
end Go.Proofs.Ytekgjjanikicnaa.Sx
