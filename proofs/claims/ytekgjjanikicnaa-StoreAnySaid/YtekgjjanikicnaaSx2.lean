/- A symbolic executor for the model's code, part 2: arithmetic, comparisons, strings, addresses, loads: operations that leave the world alone. -/
import Derived.Test.YtekgjjanikicnaaSx1
namespace Go.Proofs.Ytekgjjanikicnaa.Sx
open Go
set_option linter.unusedVariables false
set_option linter.unusedSimpArgs false

/-- What an operation that only computes or reads is shown to do: it leaves the world alone and yields y. -/
def Yl (P : Program) (st : SS) (o : Oper) (y : SV) : Prop :=
  ∀ ρ F a w, Base ρ F st a w → FOk st.fx w → (execOp a.eval o).run P w = .ok (.value (den ρ y)) w

/-! ### Arithmetic -/
def bitz (op : BinOp) (kd : IntKind) (x y : Int) : Int :=
  match op with
  | .and => kd.wrap (BitVec.ofInt kd.bits x &&& BitVec.ofInt kd.bits y).toNat
  | .or => kd.wrap (BitVec.ofInt kd.bits x ||| BitVec.ofInt kd.bits y).toNat
  | .xor => kd.wrap (BitVec.ofInt kd.bits x ^^^ BitVec.ofInt kd.bits y).toNat
  | _ => kd.wrap (BitVec.ofInt kd.bits x &&& ~~~(BitVec.ofInt kd.bits y)).toNat
def sumK (kd : IntKind) (z : Int) (kn : Bool) (k : SV → Prop) : Prop :=
  match kn with
  | true => forceI (kd.wrap z) fun z => k (.k kd z)
  | false => match kd with
    | .i64 => (-9223372036854775808 ≤ z ∧ z < 9223372036854775808) ∧ k (.v (.int .i64 z))
    | kd => k (.v (.int kd (kd.wrap z)))
theorem sumK_elim {kd : IntKind} {z : Int} {kn : Bool} {k : SV → Prop} (h : sumK kd z kn k) : ∃ y, k y ∧ ∀ ρ, den ρ y = .int kd (kd.wrap z) := by
  unfold sumK at h
  split at h
  · exact ⟨_, forceI_elim (k := fun n => k (.k kd n)) h, fun _ => rfl⟩
  · split at h
    · exact ⟨_, h.2, fun _ => by rw [wrap_i64_of _ h.1.1 h.1.2]; rfl⟩
    · exact ⟨_, h, fun _ => rfl⟩
/-- 2 to the power of a shift's count. -/
def pw (kd : IntKind) (y : Int) : Nat := 2 ^ (min y.toNat kd.bits)
def shiftK (op : BinOp) (kd : IntKind) (x y : Int) (kx ky : Bool) (k : SV → Prop) : Prop :=
  match ky with
  | true => match decide (0 ≤ y) with
    | true => forceN (pw kd y) fun m => match op with
      | .shl => outI kx kd (kd.wrap (x * (m : Int))) k
      | .shr => outI kx kd (x / (m : Int)) k
      | _ => False
    | false => False
  | false => 0 ≤ y ∧ match op with
      | .shl => k (.v (.int kd (kd.wrap (x * ((pw kd y : Nat) : Int)))))
      | .shr => k (.v (.int kd (x / ((pw kd y : Nat) : Int))))
      | _ => False
theorem shift_run (P : Program) (op : BinOp) (kd yk : IntKind) (x y : Int) (hy : 0 ≤ y) (w : World) (z : Int)
    (hz : (op = .shl ∧ z = kd.wrap (x * ((pw kd y : Nat) : Int))) ∨ (op = .shr ∧ z = x / ((pw kd y : Nat) : Int))) :
    (Op.shift op kd x yk y).run P w = .ok (.int kd z) w := by
  have hc : ((pw kd y : Nat) : Int) = 2 ^ (min y.toNat kd.bits) := by simp [pw]
  rcases hz with ⟨rfl, rfl⟩ | ⟨rfl, rfl⟩
  · simp only [Op.shift]; rw [if_neg (by omega), hc]; rfl
  · simp only [Op.shift]; rw [if_neg (by omega), hc, Int.fdiv_eq_ediv_of_nonneg _ (by rw [← hc]; omega)]; rfl
theorem shiftK_elim {P : Program} {op : BinOp} {kd yk : IntKind} {x y : Int} {kx ky : Bool} {k : SV → Prop} (h : shiftK op kd x y kx ky k) :
    ∃ r, k r ∧ ∀ ρ w, (Op.shift op kd x yk y).run P w = .ok (den ρ r) w := by
  unfold shiftK at h
  split at h
  · split at h
    · rename_i hd
      have hy : 0 ≤ y := of_decide_eq_true hd
      have h := forceN_elim h
      split at h
      · obtain ⟨r, h1, h2⟩ := outI_elim h
        exact ⟨r, h1, fun ρ w => by rw [h2, shift_run P _ kd yk x y hy w _ (.inl ⟨rfl, rfl⟩)]⟩
      · obtain ⟨r, h1, h2⟩ := outI_elim h
        exact ⟨r, h1, fun ρ w => by rw [h2, shift_run P _ kd yk x y hy w _ (.inr ⟨rfl, rfl⟩)]⟩
      · exact h.elim
    · exact h.elim
  · obtain ⟨hy, h⟩ := h
    split at h
    · exact ⟨_, h, fun ρ w => shift_run P _ kd yk x y hy w _ (.inl ⟨rfl, rfl⟩)⟩
    · exact ⟨_, h, fun ρ w => shift_run P _ kd yk x y hy w _ (.inr ⟨rfl, rfl⟩)⟩
    · exact h.elim
def arithK (op : BinOp) (kd : IntKind) (x y : Int) (kn : Bool) (k : SV → Prop) : Prop :=
  match op with
  | .add => sumK kd (x + y) kn k
  | .sub => sumK kd (x - y) kn k
  | .mul => sumK kd (x * y) kn k
  | .quo => limK kd fun L => (0 ≤ x ∧ x < L ∧ 0 < y) ∧ outI kn kd (x / y) k
  | .rem => (0 ≤ x ∧ 0 < y) ∧ outI kn kd (x % y) k
  | .and => outI kn kd (bitz .and kd x y) k
  | .or => outI kn kd (bitz .or kd x y) k
  | .xor => outI kn kd (bitz .xor kd x y) k
  | .andNot => outI kn kd (bitz .andNot kd x y) k
  | .eql => outB kn (decide (x = y)) k
  | .neq => outB kn (decide (x ≠ y)) k
  | .lss => outB kn (decide (x < y)) k
  | .leq => outB kn (decide (x ≤ y)) k
  | .gtr => outB kn (decide (y < x)) k
  | .geq => outB kn (decide (y ≤ x)) k
  | _ => False
theorem arithK_elim {P : Program} {op : BinOp} {kd : IntKind} {x y : Int} {kn : Bool} {k : SV → Prop} {T : TypeId} (hop : op ≠ .shl ∧ op ≠ .shr) (h : arithK op kd x y kn k) :
    ∃ r, k r ∧ ∀ ρ w, (binOp op T (.int kd x) (.int kd y)).run P w = .ok (den ρ r) w := by
  have bin : ∀ w, (binOp op T (.int kd x) (.int kd y)).run P w = (match op with
    | .add | .sub | .mul => Op.intArith op kd x y
    | .quo | .rem => Op.intDiv op kd x y
    | .and | .or | .xor | .andNot => Op.intBits op kd x y
    | _ => Op.intCmp op x y).run P w := by
    intro w
    cases op <;> simp_all [binOp]
  unfold arithK at h
  split at h
  · obtain ⟨r, h1, h2⟩ := sumK_elim h; exact ⟨r, h1, fun ρ w => by rw [bin, h2]; rfl⟩
  · obtain ⟨r, h1, h2⟩ := sumK_elim h; exact ⟨r, h1, fun ρ w => by rw [bin, h2]; rfl⟩
  · obtain ⟨r, h1, h2⟩ := sumK_elim h; exact ⟨r, h1, fun ρ w => by rw [bin, h2]; rfl⟩
  · obtain ⟨⟨h0, h1, h2⟩, h3⟩ := limK_elim (k := fun L => (0 ≤ x ∧ x < L ∧ 0 < y) ∧ outI kn kd (x / y) k) h
    obtain ⟨r, h4, h5⟩ := outI_elim h3
    refine ⟨r, h4, fun ρ w => ?_⟩
    rw [bin, h5]
    simp only [Op.intDiv]
    rw [if_neg (by omega), Int.tdiv_eq_ediv_of_nonneg h0, wrap_of_lt]
    · rfl
    · exact Int.ediv_nonneg h0 (Int.le_of_lt h2)
    · exact Int.lt_of_le_of_lt (Int.ediv_le_self _ h0) h1
  · obtain ⟨⟨h0, h2⟩, h3⟩ := h
    obtain ⟨r, h4, h5⟩ := outI_elim h3
    refine ⟨r, h4, fun ρ w => ?_⟩
    rw [bin, h5]
    simp only [Op.intDiv]
    rw [if_neg (by omega), Int.tmod_eq_emod_of_nonneg h0]
    rfl
  · obtain ⟨r, h1, h2⟩ := outI_elim h; exact ⟨r, h1, fun ρ w => by rw [bin, h2]; rfl⟩
  · obtain ⟨r, h1, h2⟩ := outI_elim h; exact ⟨r, h1, fun ρ w => by rw [bin, h2]; rfl⟩
  · obtain ⟨r, h1, h2⟩ := outI_elim h; exact ⟨r, h1, fun ρ w => by rw [bin, h2]; rfl⟩
  · obtain ⟨r, h1, h2⟩ := outI_elim h; exact ⟨r, h1, fun ρ w => by rw [bin, h2]; rfl⟩
  · obtain ⟨r, h1, h2⟩ := outB_elim h; exact ⟨r, h1, fun ρ w => by rw [bin, h2]; simp [Op.intCmp]; rw [Bool.eq_iff_iff]; simp⟩
  · obtain ⟨r, h1, h2⟩ := outB_elim h; exact ⟨r, h1, fun ρ w => by rw [bin, h2]; simp [Op.intCmp]; rw [Bool.eq_iff_iff]; simp⟩
  · obtain ⟨r, h1, h2⟩ := outB_elim h; exact ⟨r, h1, fun ρ w => by rw [bin, h2]; rfl⟩
  · obtain ⟨r, h1, h2⟩ := outB_elim h; exact ⟨r, h1, fun ρ w => by rw [bin, h2]; rfl⟩
  · obtain ⟨r, h1, h2⟩ := outB_elim h; exact ⟨r, h1, fun ρ w => by rw [bin, h2]; rfl⟩
  · obtain ⟨r, h1, h2⟩ := outB_elim h; exact ⟨r, h1, fun ρ w => by rw [bin, h2]; rfl⟩
  · exact h.elim

/-! ### Comparing -/
/-- Is it nil? -/
def nilK (x : SV) (k : Bool → Prop) : Prop :=
  match x with
  | .p _ _ => k false
  | .q _ _ => k false
  | .s _ _ _ _ => k false
  | .m _ => k false
  | .v (.pointer none) => k true
  | .v (.pointer (some _)) => k false
  | .v (.slice none _ _) => k true
  | .v (.slice (some _) _ _) => k false
  | .v (.map none) => k true
  | .v (.map (some _)) => k false
  | _ => False
inductive NilKind where | ptr | slice | map
def nilKindOf : TypeDesc → Option NilKind
  | .pointer _ => some .ptr
  | .slice _ => some .slice
  | .map _ _ => some .map
  | _ => none
def nilCell : NilKind → Value → Option Bool
  | .ptr, .pointer a => some a.isNone
  | .slice, .slice a _ _ => some a.isNone
  | .map, .map a => some a.isNone
  | _, _ => none
/-- Two values of a type that is compared with nil alone; one of them is nil. -/
def eqNilK (tt : List (Option TI)) (T : TypeId) (x y : SV) (k : Bool → Prop) : Prop :=
  tyK tt T fun ti => match ti.und with
    | .pointer _ => (match x with
      | .v (.pointer none) => (match y with
        | .v (.pointer none) => k true
        | .v (.pointer (some _)) => k false
        | .p _ _ => k false
        | .q _ _ => k false
        | _ => False)
      | .v (.pointer (some _)) => (match y with | .v (.pointer none) => k false | _ => False)
      | .p _ _ => (match y with | .v (.pointer none) => k false | _ => False)
      | .q _ _ => (match y with | .v (.pointer none) => k false | _ => False)
      | _ => False)
    | .slice _ => (match y with
      | .v (.slice none _ _) => (match x with
        | .v (.slice none _ _) => k true
        | .v (.slice (some _) _ _) => k false
        | .s _ _ _ _ => k false
        | _ => False)
      | _ => False)
    | .map _ _ => (match y with
      | .v (.map none) => (match x with
        | .v (.map none) => k true
        | .v (.map (some _)) => k false
        | .m _ => k false
        | _ => False)
      | _ => False)
    | _ => False
section
variable {P : Program} {T : TypeId} (d : Nat) (w : World)
theorem eqIn_ptr_left {e : TypeId} (hu : ∀ w, (underlying T).run P w = .ok (.pointer e) w) (b : Option Addr) : (Op.equalIn (d + 1) T (.pointer none) (.pointer b)).run P w = .ok b.isNone w := by
  simp [Op.equalIn, hu]
theorem eqIn_ptr_right {e : TypeId} (hu : ∀ w, (underlying T).run P w = .ok (.pointer e) w) (b : Option Addr) : (Op.equalIn (d + 1) T (.pointer b) (.pointer none)).run P w = .ok b.isNone w := by
  cases b <;> simp [Op.equalIn, hu]
theorem eqIn_slice_right {e : TypeId} (hu : ∀ w, (underlying T).run P w = .ok (.slice e) w) (a : Option Addr) (n c n' c' : Nat) : (Op.equalIn (d + 1) T (.slice a n c) (.slice none n' c')).run P w = .ok a.isNone w := by
  cases a <;> simp [Op.equalIn, hu]
theorem eqIn_map_right {e f : TypeId} (hu : ∀ w, (underlying T).run P w = .ok (.map e f) w) (a : Option Nat) : (Op.equalIn (d + 1) T (.map a) (.map none)).run P w = .ok a.isNone w := by
  cases a <;> simp [Op.equalIn, hu]
end
theorem eqNilK_elim {P : Program} {tt : List (Option TI)} (ht : TOk P tt) {T : TypeId} {x y : SV} {k : Bool → Prop} (h : eqNilK tt T x y k) :
    ∃ t, k t ∧ ∀ ρ w, (Op.equal T (den ρ x) (den ρ y)).run P w = .ok t w ∧ (∀ o : BinOp, (o = .eql → (binOp o T (den ρ x) (den ρ y)).run P w = .ok (.bool t) w) ∧ (o = .neq → (binOp o T (den ρ x) (den ρ y)).run P w = .ok (.bool (!t)) w)) ∧
      (∀ o a b, (eqGuard o T a b (den ρ x) (den ρ y)).run P w = .ok () w) := by
  obtain ⟨ti, hti, h⟩ := tyK_elim h
  have hf := tyFacts (ht T ti hti)
  have hu := hf.run_underlying
  have fin : ∀ (t : Bool) (X Y : Value), (∀ w, (Op.equal T X Y).run P w = .ok t w) → (∃ a b, X = .pointer a ∧ Y = .pointer b) ∨ (∃ a n c a' n' c', X = .slice a n c ∧ Y = .slice a' n' c') ∨ (∃ a b, X = .map a ∧ Y = .map b) →
      ∀ w, (Op.equal T X Y).run P w = .ok t w ∧ (∀ o : BinOp, (o = .eql → (binOp o T X Y).run P w = .ok (.bool t) w) ∧ (o = .neq → (binOp o T X Y).run P w = .ok (.bool (!t)) w)) ∧ (∀ o a b, (eqGuard o T a b X Y).run P w = .ok () w) := by
    intro t X Y he hs w
    refine ⟨he w, fun o => ⟨fun ho => ?_, fun ho => ?_⟩, fun o a b => ?_⟩
    · subst ho
      rcases hs with ⟨a, b, rfl, rfl⟩ | ⟨a, n, c, a', n', c', rfl, rfl⟩ | ⟨a, b, rfl, rfl⟩ <;> simp [binOp, he w]
    · subst ho
      rcases hs with ⟨a, b, rfl, rfl⟩ | ⟨a, n, c, a', n', c', rfl, rfl⟩ | ⟨a, b, rfl, rfl⟩ <;> simp [binOp, he w]
    · rcases hs with ⟨a, b, rfl, rfl⟩ | ⟨a, n, c, a', n', c', rfl, rfl⟩ | ⟨a, b, rfl, rfl⟩ <;> (simp only [eqGuard]; split <;> rfl)
  split at h
  · rename_i e hd
    have hu' : ∀ w, (underlying T).run P w = .ok (.pointer e) w := fun w => by rw [← hd]; exact hu w
    repeat' (split at h)
    all_goals first
      | exact h.elim
      | (refine ⟨_, h, fun ρ w => fin _ _ _ (fun w => ?_) (.inl ⟨_, _, rfl, rfl⟩) w⟩; first | exact eqIn_ptr_left 9999 w hu' _ | exact eqIn_ptr_right 9999 w hu' _)
  · rename_i e hd
    have hu' : ∀ w, (underlying T).run P w = .ok (.slice e) w := fun w => by rw [← hd]; exact hu w
    repeat' (split at h)
    all_goals first
      | exact h.elim
      | (refine ⟨_, h, fun ρ w => fin _ _ _ (fun w => ?_) (.inr (.inl ⟨_, _, _, _, _, _, rfl, rfl⟩)) w⟩; exact eqIn_slice_right 9999 w hu' _ _ _ _ _)
  · rename_i e f hd
    have hu' : ∀ w, (underlying T).run P w = .ok (.map e f) w := fun w => by rw [← hd]; exact hu w
    repeat' (split at h)
    all_goals first
      | exact h.elim
      | (refine ⟨_, h, fun ρ w => fin _ _ _ (fun w => ?_) (.inr (.inr ⟨_, _, rfl, rfl⟩)) w⟩; exact eqIn_map_right 9999 w hu' _)
  · exact h.elim
end Go.Proofs.Ytekgjjanikicnaa.Sx
