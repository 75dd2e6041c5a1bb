/- A symbolic executor for the model's code, part 4: slicing, conversions, lengths, building values; all operations that leave the world alone, in one. -/
import Derived.Test.YtekgjjanikicnaaSx3
namespace Go.Proofs.Ytekgjjanikicnaa.Sx
open Go
set_option linter.unusedVariables false
set_option linter.unusedSimpArgs false

/-! ### slicing -/
def upK (st : SS) (hi : Option Operand) (len cap : Nat) (k : Nat → Prop) : Prop :=
  match hi with
  | none => k len
  | some x => evK st x fun v => intK v fun _ i kn => leK kn i cap k
def loK (st : SS) (lo : Option Operand) (h : Nat) (k : Option Nat → Prop) : Prop :=
  match lo with
  | none => k none
  | some x => evK st x fun v => intK v fun _ i kn => leK kn i h fun n => k (some n)
theorem run_sliceBound {P : Program} {i : Int} {kd : IntKind} {y : Nat} {c : BoundsCode} (h : 0 ≤ i ∧ i ≤ (y : Int)) (w : World) : (Instr.sliceBound (.int kd i) y c).run P w = .ok i.toNat w := by
  simp [Instr.sliceBound, asIntOf, h]
theorem upK_elim {P : Program} {st : SS} {hi : Option Operand} {len cap : Nat} {k : Nat → Prop} (h : upK st hi len cap k) :
    ∃ n, k n ∧ (hi = none ∧ n = len ∨ ∃ x, hi = some x ∧ ∀ ρ F a w, Base ρ F st a w → ∀ c, (Instr.sliceBound (a.eval x) cap c).run P w = .ok n w) := by
  unfold upK at h
  split at h
  · exact ⟨_, h, .inl ⟨rfl, rfl⟩⟩
  · rename_i x
    obtain ⟨y, h1, h2⟩ := evK_elim h
    obtain ⟨kd, i, kn, h3, h5⟩ := intK_elim h1
    obtain ⟨h3, h4⟩ := leK_elim h3
    refine ⟨_, h4, .inr ⟨x, rfl, fun ρ F a w hb c => ?_⟩⟩
    rw [h2 ρ F a w hb, h5]
    exact run_sliceBound h3 w
theorem loK_elim {P : Program} {st : SS} {lo : Option Operand} {h' : Nat} {k : Option Nat → Prop} (h : loK st lo h' k) :
    ∃ n, k n ∧ (lo = none ∧ n = none ∨ ∃ x m, lo = some x ∧ n = some m ∧ ∀ ρ F a w, Base ρ F st a w → ∀ c, (Instr.sliceBound (a.eval x) h' c).run P w = .ok m w) := by
  unfold loK at h
  split at h
  · exact ⟨_, h, .inl ⟨rfl, rfl⟩⟩
  · rename_i x
    obtain ⟨y, h1, h2⟩ := evK_elim h
    obtain ⟨kd, i, kn, h3, h5⟩ := intK_elim h1
    obtain ⟨h3, h4⟩ := leK_elim h3
    refine ⟨_, h4, .inr ⟨x, _, rfl, rfl, fun ρ F a w hb c => ?_⟩⟩
    rw [h2 ρ F a w hb, h5]
    exact run_sliceBound h3 w
def bndK (st : SS) (lo hi : Option Operand) (len cap : Nat) (k : Option Nat → Nat → Prop) : Prop :=
  upK st hi len cap fun h => loK st lo h fun l => k l h
theorem bndK_elim {P : Program} {st : SS} {lo hi : Option Operand} {len cap : Nat} {k : Option Nat → Nat → Prop} (h : bndK st lo hi len cap k) :
    ∃ l n, k l n ∧ ∀ ρ F a w, Base ρ F st a w → ∀ b, (Instr.sliceBounds b len cap (lo.map a.eval) (hi.map a.eval) none).run P w = .ok (l.getD 0, n, cap) w := by
  obtain ⟨n, h1, h2⟩ := upK_elim (P := P) h
  obtain ⟨l, h3, h4⟩ := loK_elim (P := P) h1
  refine ⟨l, n, h3, fun ρ F a w hb b => ?_⟩
  rcases h2 with ⟨rfl, rfl⟩ | ⟨x, rfl, h2⟩ <;> rcases h4 with ⟨rfl, rfl⟩ | ⟨y, m, rfl, rfl, h4⟩
  · simp [Instr.sliceBounds]
  · simp [Instr.sliceBounds, h4 ρ F a w hb]
  · simp [Instr.sliceBounds, h2 ρ F a w hb]
  · simp [Instr.sliceBounds, h2 ρ F a w hb, h4 ρ F a w hb]
/-- Where a slice begins that is cut from l on. -/
def offs (cap l o z : Nat) : Nat := if cap = l then o else o + l * z
def cutK (r o cap z : Nat) (l : Option Nat) (h : Nat) (k : SV → Prop) : Prop :=
  match l with
  | none => k (.s r o h cap)
  | some l => k (.s r (offs cap l o z) (h - l) (cap - l))
theorem cutK_elim {r o cap z h : Nat} {l : Option Nat} {k : SV → Prop} (hk : cutK r o cap z l h k) :
    ∃ y, k y ∧ ∀ ρ, den ρ y = .slice (some (if cap = l.getD 0 then ⟨ρ r, o, none⟩ else (⟨ρ r, o, none⟩ : Addr).add (l.getD 0 * z))) (h - l.getD 0) (cap - l.getD 0) := by
  cases l with
  | none => refine ⟨_, hk, fun ρ => ?_⟩; simp [den, add_at]
  | some l => refine ⟨_, hk, fun ρ => ?_⟩; simp only [den, Option.getD_some, add_at, offs]; split <;> rfl
def sliceK (tt : List (Option TI)) (st : SS) (T : TypeId) (x : SV) (lo hi : Option Operand) (k : SV → Prop) : Prop :=
  tyK tt T fun ti => match ti.und with
    | .array n e => tyK tt e fun ei => forceN ei.size fun z => (match x with
      | .p r o => bndK st lo hi n n fun l h => cutK r o n z l h k
      | .q r o => bndK st lo hi n n fun l h => cutK r o n z l h k
      | _ => False)
    | .slice e => tyK tt e fun ei => forceN ei.size fun z => (match x with
      | .s r o len cap => bndK st lo hi len cap fun l h => cutK r o cap z l h k
      | .v (.slice A len cap) => bndK st lo hi len cap fun l h => (match l with
        | none => k (.v (.slice A h cap))
        | some l => k (.v (.slice (A.map fun ad => if cap = l then ad else ad.add (l * z)) (h - l) (cap - l))))
      | _ => False)
    | .string => (match x with
      | .v (.string s) => bndK st lo hi s.size s.size fun l h => k (.v (.string (s.extract (l.getD 0) h)))
      | _ => False)
    | _ => False
theorem sliceK_elim {P : Program} {tt : List (Option TI)} (ht : TOk P tt) {st : SS} {T : TypeId} {x : SV} {lo hi : Option Operand} {k : SV → Prop} (h : sliceK tt st T x lo hi k) :
    ∃ y, k y ∧ ∀ ρ F a w, Base ρ F st a w → (Instr.sliceAt T (den ρ x) (lo.map a.eval) (hi.map a.eval) none).run P w = .ok (den ρ y) w := by
  obtain ⟨ti, hti, h1⟩ := tyK_elim h
  clear h
  have hT := tyFacts (ht T ti hti)
  split at h1
  · rename_i n e hd
    have hu : ∀ w, (underlying T).run P w = .ok (.array n e) w := fun w => by rw [← hd]; exact hT.run_underlying w
    obtain ⟨ei, hei, h⟩ := tyK_elim h1
    clear h1
    have hE := tyFacts (ht e ei hei)
    replace h := forceN_elim h
    have fin : ∀ (r o : Nat), bndK st lo hi n n (fun l h => cutK r o n ei.size l h k) → ∃ y, k y ∧ ∀ ρ F a w, Base ρ F st a w → (Instr.sliceAt T (.pointer (some ⟨ρ r, o, none⟩)) (lo.map a.eval) (hi.map a.eval) none).run P w = .ok (den ρ y) w := by
      intro r o hb
      obtain ⟨l, h, h1, h2⟩ := bndK_elim (P := P) hb
      obtain ⟨y, h3, h4⟩ := cutK_elim h1
      refine ⟨y, h3, fun ρ F a w hb => ?_⟩
      simp [Instr.sliceAt, hu, Instr.sureAddr, h2 ρ F a w hb, hE.run_sizeOf, h4]
    split at h
    · exact fin _ _ h
    · exact fin _ _ h
    · exact h.elim
  · rename_i e hd
    have hu : ∀ w, (underlying T).run P w = .ok (.slice e) w := fun w => by rw [← hd]; exact hT.run_underlying w
    obtain ⟨ei, hei, h⟩ := tyK_elim h1
    clear h1
    have hE := tyFacts (ht e ei hei)
    replace h := forceN_elim h
    split at h
    · obtain ⟨l, n, h1, h2⟩ := bndK_elim (P := P) h
      obtain ⟨y, h3, h4⟩ := cutK_elim h1
      refine ⟨y, h3, fun ρ F a w hb => ?_⟩
      simp only [Instr.sliceAt, Instr.slice, den, Sem.run_bind, hu, Result.andThen_ok, h2 ρ F a w hb, hE.run_sizeOf, Sem.run_pure, h4]
      congr 2
      split <;> simp_all
    · obtain ⟨l, n, h1, h2⟩ := bndK_elim (P := P) h
      rename_i A len cap
      cases l with
      | none =>
        refine ⟨_, h1, fun ρ F a w hb => ?_⟩
        cases A <;> simp only [Instr.sliceAt, Instr.slice, den, Sem.run_bind, hu, Result.andThen_ok, h2 ρ F a w hb, hE.run_sizeOf, Sem.run_pure] <;> simp [Addr.add]
      | some l =>
        refine ⟨_, h1, fun ρ F a w hb => ?_⟩
        cases A
        · simp only [Instr.sliceAt, Instr.slice, den, Sem.run_bind, hu, Result.andThen_ok, h2 ρ F a w hb, hE.run_sizeOf, Sem.run_pure, Option.getD_some, Option.map_none]
          simp
        · simp only [Instr.sliceAt, Instr.slice, den, Sem.run_bind, hu, Result.andThen_ok, h2 ρ F a w hb, hE.run_sizeOf, Sem.run_pure, Option.getD_some, Option.map_some]
          congr 2
          split <;> simp_all
    · exact h.elim
  · rename_i hd
    have hu : ∀ w, (underlying T).run P w = .ok .string w := fun w => by rw [← hd]; exact hT.run_underlying w
    split at h1
    · obtain ⟨l, n, h3, h2⟩ := bndK_elim (P := P) h1
      refine ⟨_, h3, fun ρ F a w hb => ?_⟩
      simp [Instr.sliceAt, Instr.slice, den, hu, h2 ρ F a w hb]
    · exact h1.elim
  · exact h1.elim

/-! ### conversions -/
def bv (b : UInt8) : Value := .int .u8 (b.toNat : Int)
def toIntK (kd : IntKind) (n : Int) (kn : Bool) (k : SV → Prop) : Prop :=
  match kn with
  | true => forceI (kd.wrap n) fun n => k (.k kd n)
  | false => match kd with
    | .i64 => (-9223372036854775808 ≤ n ∧ n < 9223372036854775808) ∧ k (.v (.int .i64 n))
    | kd => k (.v (.int kd (kd.wrap n)))
theorem toIntK_elim {kd : IntKind} {n : Int} {kn : Bool} {k : SV → Prop} (h : toIntK kd n kn k) : ∃ y, k y ∧ ∀ ρ, den ρ y = .int kd (kd.wrap n) := sumK_elim h
def convK (tt : List (Option TI)) (st : SS) (src dst : TypeId) (x : SV) (k : SV → Prop) : Prop :=
  tyK tt src fun si => tyK tt dst fun di => match di.und with
    | .int kd => intK x fun _ n kn => toIntK kd n kn k
    | .string => (match si.und with
      | .string => (match x with
        | .v (.string s) => k (.v (.string s))
        | _ => False)
      | .int _ => intK x fun _ n _ => (0 ≤ n ∧ n < 128) ∧ k (.v (.string ⟨#[UInt8.ofNat n.toNat]⟩))
      | .slice e => tyK tt e fun ei => (match ei.und with
        | .int .u8 => (match x with
          | .s r o len cap => readPK st (.s r o len cap) len fun l => ∃ bs : List UInt8, l = bs.map bv ∧ k (.v (.string ⟨bs.toArray⟩))
          | .v (.slice A len cap) => readPK st (.v (.slice A len cap)) len fun l => ∃ bs : List UInt8, l = bs.map bv ∧ k (.v (.string ⟨bs.toArray⟩))
          | _ => False)
        | _ => False)
      | _ => False)
    | _ => False
theorem bytes_back (bs : List UInt8) : bs.map bv = (bs.map fun b => (b.toNat : Int)).map (Value.int .u8) := by simp [bv, Function.comp_def]
theorem run_toString {P : Program} {w : World} {ad : Addr} {len cap : Nat} {bs : List UInt8} (h : (loadCells ad len).run P w = .ok (bs.map bv).toArray w) :
    (Conv.bytesToString (.slice (some ad) len cap)).run P w = .ok (.string ⟨bs.toArray⟩) w := by
  rw [bytes_back] at h
  rw [run_bytesToString w ad len cap _ h]
  congr 2
  rw [foldl_push_bytes]
  congr 1
  have h0 : ByteArray.empty.data = #[] := rfl
  rw [h0]
  simp [Function.comp_def]
theorem encode_small {n : Int} (h0 : 0 ≤ n) (h1 : n < 128) : Utf8.encode n = ⟨#[UInt8.ofNat n.toNat]⟩ := by
  obtain ⟨k, rfl⟩ := Int.eq_ofNat_of_zero_le h0
  have hk : k < 128 := by omega
  have all : ∀ k : Fin 128, Utf8.encode (k.1 : Int) = ⟨#[UInt8.ofNat ((k.1 : Int)).toNat]⟩ := by decide
  exact all ⟨k, hk⟩
theorem convK_elim {P : Program} {tt : List (Option TI)} (ht : TOk P tt) {st : SS} {src dst : TypeId} {x : SV} {k : SV → Prop} (h : convK tt st src dst x k) :
    ∃ y, k y ∧ ∀ ρ F a w, Base ρ F st a w → FOk st.fx w → (convert src dst (den ρ x)).run P w = .ok (den ρ y) w := by
  obtain ⟨si, hsi, h1⟩ := tyK_elim h
  clear h
  obtain ⟨di, hdi, h⟩ := tyK_elim h1
  clear h1
  have hS := (tyFacts (ht _ si hsi)).run_underlying
  have hD := (tyFacts (ht _ di hdi)).run_underlying
  split at h
  · rename_i kd hd
    obtain ⟨_, n, kn, h1, h2⟩ := intK_elim h
    obtain ⟨y, h3, h4⟩ := toIntK_elim h1
    refine ⟨y, h3, fun ρ F a w hb hs => ?_⟩
    simp only [convert, Sem.run_bind, hS, hD, Result.andThen_ok, h2, h4, hd]
    rfl
  · rename_i hd
    split at h
    · rename_i hs
      split at h
      · refine ⟨_, h, fun ρ F a w hb hs' => ?_⟩
        simp only [convert, Sem.run_bind, hS, hD, Result.andThen_ok, hs, hd, den]
        rfl
      · exact h.elim
    · obtain ⟨_, n, kn, h1, h2⟩ := intK_elim h
      obtain ⟨⟨h3, h4⟩, h5⟩ := h1
      refine ⟨_, h5, fun ρ F a w hb hs' => ?_⟩
      simp only [convert, Sem.run_bind, hS, hD, Result.andThen_ok, h2, hd, den, Conv.intToString]
      rw [encode_small h3 h4]
      rfl
    · rename_i e hs
      obtain ⟨ei, hei, h1⟩ := tyK_elim h
      clear h
      have hE := (tyFacts (ht _ ei hei)).run_underlying
      split at h1
      · rename_i he
        have fin : ∀ (ad : Addr) (len cap : Nat) (bs : List UInt8) (w : World), (loadCells ad len).run P w = .ok (bs.map bv).toArray w → (convert src dst (.slice (some ad) len cap)).run P w = .ok (.string ⟨bs.toArray⟩) w := by
          intro ad len cap bs w hl
          simp only [convert, Sem.run_bind, hS, hD, Result.andThen_ok, hs, hd, hE, he]
          exact run_toString hl
        split at h1
        · obtain ⟨l, ⟨_, h2, bs, rfl, h3⟩, h4, h5⟩ := readPK_elim (P := P) h1
          refine ⟨_, h3, fun ρ F a w hb hs' => ?_⟩
          obtain ⟨A, L, C, h6, h7, h8⟩ := h5 ρ F a w hb hs'
          simp only [den, Value.slice.injEq] at h6
          obtain ⟨rfl, rfl, rfl⟩ := h6
          exact fin _ _ _ _ _ (by rw [← h2 ρ]; exact h8 _ rfl)
        · obtain ⟨l, ⟨_, h2, bs, rfl, h3⟩, h4, h5⟩ := readPK_elim (P := P) h1
          refine ⟨_, h3, fun ρ F a w hb hs' => ?_⟩
          obtain ⟨A, L, C, h6, h7, h8⟩ := h5 ρ F a w hb hs'
          simp only [den, Value.slice.injEq] at h6
          obtain ⟨rfl, rfl, rfl⟩ := h6
          rename_i A' _ _
          cases A' with
          | none =>
            have h9 := h7 rfl
            subst h9
            have h10 : bs = [] := by
              have h11 := congrArg List.length (h2 ρ)
              rw [denL_length, h4, List.length_map] at h11
              exact List.length_eq_zero_iff.1 h11.symm
            subst h10
            simp only [convert, Sem.run_bind, hS, hD, Result.andThen_ok, hs, hd, hE, he, den, Conv.bytesToString]
            rfl
          | some ad => exact fin _ _ _ _ _ (by rw [← h2 ρ]; exact h8 _ rfl)
        · exact h1.elim
      · exact h1.elim
    · exact h.elim
  · exact h.elim

/-! ### lengths, the smaller and the greater -/
def lenK (tt : List (Option TI)) (st : SS) (T : TypeId) (x : SV) (k : SV → Prop) : Prop :=
  tyK tt T fun ti => match ti.und with
    | .string => (match x with
      | .v (.string s) => k (.v (.int .i64 (s.size : Int)))
      | _ => False)
    | .slice _ => (match x with
      | .s _ _ len _ => k (.v (.int .i64 (len : Int)))
      | .v (.slice _ len _) => k (.v (.int .i64 (len : Int)))
      | _ => False)
    | .array n _ => k (.k .i64 (n : Int))
    | .pointer b => tyK tt b fun bi => (match bi.und with
      | .array n _ => k (.k .i64 (n : Int))
      | _ => False)
    | .map _ _ => (match x with
      | .m r => objK r st.hp fun ob => (match ob with
        | .map es _ => k (.v (.int .i64 (es.size : Int)))
        | _ => False)
      | _ => False)
    | _ => False
theorem lenK_elim {P : Program} {tt : List (Option TI)} (ht : TOk P tt) {st : SS} {T : TypeId} {x : SV} {k : SV → Prop} (h : lenK tt st T x k) :
    ∃ y, k y ∧ ∀ ρ F a w, Base ρ F st a w → ∀ ty, (Builtin.len_ #[T] ty #[den ρ x]).run P w = .ok (den ρ y) w := by
  obtain ⟨ti, hti, h1⟩ := tyK_elim h
  clear h
  have hT := tyFacts (ht T ti hti)
  have hu := hT.run_underlying
  split at h1
  · rename_i hd
    split at h1
    · exact ⟨_, h1, fun ρ F a w hb ty => by simp [Builtin.len_, hu, hd, den, goInt]⟩
    · exact h1.elim
  · rename_i e hd
    split at h1
    · exact ⟨_, h1, fun ρ F a w hb ty => by simp [Builtin.len_, hu, hd, den, goInt]⟩
    · exact ⟨_, h1, fun ρ F a w hb ty => by simp [Builtin.len_, hu, hd, den, goInt]⟩
    · exact h1.elim
  · rename_i n e hd
    exact ⟨_, h1, fun ρ F a w hb ty => by simp [Builtin.len_, hu, hd, den, goInt]⟩
  · rename_i b hd
    obtain ⟨bi, hbi, h⟩ := tyK_elim h1
    have hB := (tyFacts (ht _ bi hbi)).run_underlying
    split at h
    · rename_i n e he
      exact ⟨_, h, fun ρ F a w hb ty => by simp [Builtin.len_, hu, hd, den, goInt, hB, he]⟩
    · exact h.elim
  · rename_i kt e hd
    split at h1
    · rename_i r
      obtain ⟨ob, h2, h3⟩ := objK_elim h1
      split at h3
      · refine ⟨_, h3, fun ρ F a w hb ty => ?_⟩
        have ho := (hb.obj _ _ h2).2
        simp [Builtin.len_, hu, hd, den, goInt, getObj, Sem.run, ho]
      · exact h3.elim
    · exact h1.elim
  · exact h1.elim
def capK (tt : List (Option TI)) (T : TypeId) (x : SV) (k : SV → Prop) : Prop :=
  tyK tt T fun ti => match ti.und with
    | .slice _ => (match x with
      | .s _ _ _ cap => k (.v (.int .i64 (cap : Int)))
      | .v (.slice _ _ cap) => k (.v (.int .i64 (cap : Int)))
      | _ => False)
    | _ => False
theorem capK_elim {P : Program} {tt : List (Option TI)} (ht : TOk P tt) {T : TypeId} {x : SV} {k : SV → Prop} (h : capK tt T x k) :
    ∃ y, k y ∧ ∀ ρ w ty, (Builtin.cap_ #[T] ty #[den ρ x]).run P w = .ok (den ρ y) w := by
  obtain ⟨ti, hti, h1⟩ := tyK_elim h
  clear h
  have hT := tyFacts (ht T ti hti)
  have hu := hT.run_underlying
  split at h1
  · rename_i e hd
    split at h1
    · exact ⟨_, h1, fun ρ w ty => by simp [Builtin.cap_, hu, hd, den, goInt]⟩
    · exact ⟨_, h1, fun ρ w ty => by simp [Builtin.cap_, hu, hd, den, goInt]⟩
    · exact h1.elim
  · exact h1.elim
def minK (x y : SV) (k : SV → Prop) : Prop :=
  intK x fun kd a kx => intK y fun _ b ky => outI (kx && ky) kd (if b < a then b else a) k
theorem minK_elim {P : Program} {x y : SV} {k : SV → Prop} (h : minK x y k) : ∃ z, k z ∧ ∀ ρ w ts ty, (Builtin.min_ ts ty #[den ρ x, den ρ y]).run P w = .ok (den ρ z) w := by
  obtain ⟨kd, a, kx, h1, h2⟩ := intK_elim h
  obtain ⟨_, b, ky, h3, h4⟩ := intK_elim h1
  obtain ⟨z, h5, h6⟩ := outI_elim h3
  exact ⟨z, h5, fun ρ w ts ty => by simp [Builtin.min_, Builtin.min2, h2, h4, h6]⟩
def maxK (x y : SV) (k : SV → Prop) : Prop :=
  intK x fun kd a kx => intK y fun _ b ky => outI (kx && ky) kd (if a < b then b else a) k
theorem maxK_elim {P : Program} {x y : SV} {k : SV → Prop} (h : maxK x y k) : ∃ z, k z ∧ ∀ ρ w ts ty, (Builtin.max_ ts ty #[den ρ x, den ρ y]).run P w = .ok (den ρ z) w := by
  obtain ⟨kd, a, kx, h1, h2⟩ := intK_elim h
  obtain ⟨_, b, ky, h3, h4⟩ := intK_elim h1
  obtain ⟨z, h5, h6⟩ := outI_elim h3
  exact ⟨z, h5, fun ρ w ts ty => by simp [Builtin.max_, Builtin.max2, h2, h4, h6, GT.gt]⟩
end Go.Proofs.Ytekgjjanikicnaa.Sx
