/- What the text laws' callees do, part 1: names; the library's builder of strings. -/
import Derived.Test.YtekgjjanikicnaaDoorSxG
import Derived.Test.YtekgjjanikicnaaDoorTT
import Derived.Lib.UnsafeStr
import Derived.Lib.Builder
import Derived.NoCompiler
import Derived.BigRegion
import Derived.WalkKit
import Derived.Laws.Externs
namespace Go.Proofs.YtekgjjanikicnaaDoor.Sx
open Go
set_option maxRecDepth 100000
set_option linter.unusedSimpArgs false
set_option linter.unusedVariables false

/-! ### Names -/
def nameSign (c : UInt8) : Bool := (65 ≤ c.toNat && c.toNat ≤ 90) || (97 ≤ c.toNat && c.toNat ≤ 122) || (48 ≤ c.toNat && c.toNat ≤ 57) || c.toNat == 46 || c.toNat == 45 || c.toNat == 47
def nameOk (bs : List UInt8) : Bool := bs.all nameSign && decide (1 ≤ bs.length ∧ bs.length ≤ 40)
theorem sbyte_get {s : ByteArray} {i : Nat} (hi : i < s.size) : s.data.toList[i]? = some (sbyte s i) := by
  have hl : i < s.data.toList.length := by simpa using hi
  simp only [sbyte, List.getD_eq_getElem?_getD, List.getElem?_eq_getElem hl, Option.getD_some]
theorem take_succ_of {α : Type} {l : List α} {i : Nat} {x : α} (h : l[i]? = some x) : l.take (i + 1) = l.take i ++ [x] := by
  obtain ⟨hl, rfl⟩ := List.getElem?_eq_some_iff.1 h
  exact List.take_succ_eq_append_getElem hl
theorem sbyte_take {s : ByteArray} {i : Nat} (hi : i < s.size) (p : UInt8 → Bool) (ha : (s.data.toList.take i).all p = true) (hb : p (sbyte s i) = true) : (s.data.toList.take (i + 1)).all p = true := by
  rw [take_succ_of (sbyte_get hi), List.all_append, ha]
  simp [hb]
theorem all_false {s : ByteArray} {i : Nat} (hi : i < s.size) (p : UInt8 → Bool) (hb : p (sbyte s i) = false) : s.data.toList.all p = false := by
  rw [List.all_eq_false]
  exact ⟨_, List.mem_of_getElem? (sbyte_get hi), by simp [hb]⟩
theorem tName (s : ByteArray) (hs : s.size < 9223372036854775808) : Tri Tryd.prog 51 [.v (.string s)] [] 0 [] (RetE (α := Unit) 0 (fun _ => True) (fun _ => .v (.bool (nameOk s.data.toList))) (fun _ => []) 0 (fun _ => [])) := by
  refine Tri.one ?_
  refine Tri.of_code tok Tryd.func51 rfl rfl rfl (by decide) rfl (Nat.le_of_ble_eq_true rfl) ?_
  conv => whnf
  refine loop_by tok (α := Nat) (fun i => ⟨[(0, .v (.string s)), (2, .b false), (6, .v (.int .i64 s.size)), (7, .v (.int .i64 i))], [], 0, []⟩) (fun i => i ≤ s.size ∧ (s.data.toList.take i).all nameSign = true) (fun i => s.size - i) 0 [] (by simp) ⟨rfl, ?_, trivial, fun f hf => hf⟩ ?_
  · exact ⟨fun _ _ _ => rfl, fun _ _ _ => rfl, fun _ _ _ => rfl, fun _ _ _ => rfl, trivial⟩
  · rintro i ⟨hi, ha⟩
    conv => whnf
    repeat' ((first | refine And.intro (by repeat' first | exact trivial | refine And.intro rfl ?_) (And.intro (by first | exact fun _ h => h | exact fun _ => List.mem_cons_of_mem _ | exact fun _ => List.mem_append_right _) ?_) | (refine And.intro (fun h => ?_) (fun h => ?_) <;> (try simp only [n1, n2, n3, n4, n5, n6] at h) <;> first | (exfalso; omega) | (cases h; done) | skip) | refine And.intro (by omega) ?_ | refine Exists.intro _ (And.intro (by first | exact And.intro rfl rfl | exact Pl.den (by repeat constructor) | with_reducible rfl | exact cast_succ _ | assumption | exact (Int.toNat_of_nonneg (by omega)).symm | rfl) ?_) | refine hD _ _ ?_ | refine hL _ _ ?_ | (intro h; (try simp only [n1, n2, n3, n4, n5, n6] at h); first | (exfalso; omega) | (cases h; done) | skip)) <;> (conv => whnf))
    all_goals (try simp only [Int.toNat_natCast] at *)
    all_goals first
      | (refine ⟨i + 1, [], ⟨⟨by omega, sbyte_take (by omega) _ ha ?_⟩, by omega⟩, rfl, ⟨fun _ _ _ => rfl, fun _ _ _ => rfl, fun _ _ _ => rfl, fun _ _ _ => rfl, trivial⟩, trivial, fun f hf => hf⟩
         simp only [nameSign, Bool.or_eq_true, Bool.and_eq_true, decide_eq_true_eq, beq_iff_eq]; omega)
      | (refine Ret.none rfl (fun ρ => ?_) (fun g h => h)
         have hf : nameSign (sbyte s i) = false := by
           rw [← Bool.not_eq_true]
           simp only [nameSign, Bool.or_eq_true, Bool.and_eq_true, decide_eq_true_eq, beq_iff_eq]; omega
         simp only [nameOk, all_false (by omega) _ hf]; rfl)
      | (refine Ret.none rfl (fun ρ => ?_) (fun g h => h)
         obtain rfl : i = s.size := by omega
         rw [List.take_of_length_le (by simp)] at ha
         simp only [den, nameOk, ha, Bool.true_and]
         congr 1
         rw [Bool.eq_iff_iff]
         simp; omega)

/-! ### The builder -/
theorem CellsAt.shape {w : World} {b : Nat} {cs : List Value} {T : TypeId} (h : CellsAt w b cs T) : w.shape? b = some (T, cs.length) := by
  obtain ⟨fz, h, _⟩ := h
  simp [World.shape?, h]
theorem CellsAt.frozen {w : World} {b : Nat} {cs : List Value} {T : TypeId} (h : CellsAt w b cs T) {o : Nat} (ho : o < cs.length) : w.frozen? ⟨b, o, none⟩ = false := by
  obtain ⟨fz, h, hf⟩ := h
  simp [World.frozen?, h]
  omega
theorem cellsAt_setCell {w : World} {b o : Nat} {cs : List Value} {T : TypeId} (h : CellsAt w b cs T) (v : Value) : CellsAt (w.setCell ⟨b, o, none⟩ v) b (cs.set o v) T := by
  obtain ⟨fz, h, hf⟩ := h
  refine ⟨fz, ?_, by simpa using hf⟩
  simp [World.setCell, Array.getElem?_modify, h]
theorem keeps_setCell (w : World) (b o : Nat) (v : Value) : Keeps (fun k => k = b) w (w.setCell ⟨b, o, none⟩ v) := by
  refine ⟨rfl, rfl, rfl, by simp [World.setCell], fun k hk hn => ?_⟩
  simp only [World.setCell, Array.getElem?_modify]
  rw [if_neg (Ne.symm hn)]
set_option maxHeartbeats 1000000 in
theorem cCopyFresh (b : Nat) (w : World) (h0 : w.cell? ⟨b, 0, none⟩ = some (.pointer none)) (hsh : w.shape? b = some (138, 2)) (hf0 : w.frozen? ⟨b, 0, none⟩ = false) :
    Calls Tryd.prog 141 #[.pointer (some ⟨b, 0, none⟩)] w fun e w' => e = .returned (.tuple #[]) ∧ w' = w.setCell ⟨b, 0, none⟩ (.pointer (some ⟨b, 0, none⟩)) := by
  obtain ⟨j, z, hj, hjs, _⟩ := (tyFacts (tok 138 _ rfl)).info
  go_enter Tryd.func141, Tryd.ntmps141
  go_wp2
  rw [Lib.run_to_unsafe w ⟨b, 0, none⟩ Tryd.underlying136 Tryd.underlying189 hj (by rw [hjs]; decide) hsh (Nat.zero_lt_succ 1)]
  simp only [Result.andThen]
  rw [Oper.upon_value]
  go_wp2
  rw [run_callFunc_extern Tryd.func167 (by kernel_rfl) (by kernel_rfl) (by kernel_rfl) (e := Extern.AbiNoEscape.same) (by kernel_rfl)]
  rw [Lib.run_noEscape]
  simp only [Result.andThen]
  rw [Oper.upon_value]
  go_wp2
  rw [Lib.run_from_unsafe w ⟨b, 0, none⟩ Tryd.underlying189 Tryd.underlying136 hj hsh (by kernel_rfl)]
  simp only [Result.andThen]
  rw [Oper.upon_value]
  go_wp2
  go_end0
  exact ⟨rfl, rfl⟩
set_option maxHeartbeats 1000000 in
theorem cCopyUsed (b : Nat) (w : World) (h0 : w.cell? ⟨b, 0, none⟩ = some (.pointer (some ⟨b, 0, none⟩))) :
    Calls Tryd.prog 141 #[.pointer (some ⟨b, 0, none⟩)] w fun e w' => e = .returned (.tuple #[]) ∧ w' = w := by
  obtain ⟨j, z, hj, hjs, _⟩ := (tyFacts (tok 138 _ rfl)).info
  go_enter Tryd.func141, Tryd.ntmps141
  go_wp2
  rw [Lib.run_neq_ptr_same w _ Tryd.underlying136 hj]
  go_wp2
  go_end0
  exact ⟨rfl, rfl⟩
theorem tCopyFresh : Tri Tryd.prog 141 [.p 0 0] [(0, .cells [.v (.pointer none), .v (.slice none 0 0)] 138)] 1 [] (RetE (α := Unit) 1 (fun _ => True) (fun _ => .tup []) (fun _ => [(0, .cells [.p 0 0, .v (.slice none 0 0)] 138)]) 1 (fun _ => [])) := by
  refine ⟨trivial, fun ρ F w hh hrob => .inl ⟨by simp [callFunc, Tryd.func141, Tryd.f141], ?_⟩⟩
  have ho := hh.obj ρ (Ag.refl _ _) 0 _ (List.mem_singleton.2 rfl)
  have hc := ho.2
  simp only [denL_cons, denL_nil, den] at hc
  refine (cCopyFresh (ρ 0) w (by rw [hc.cell]; rfl) hc.shape (hc.frozen (Nat.zero_lt_succ _))).mono fun e w' ⟨he, hw⟩ => ?_
  subst hw
  have hk := keeps_setCell w (ρ 0) 0 (.pointer (some ⟨ρ 0, 0, none⟩))
  have hup := hh.upd (r0 := 0) (o := .cells [.p 0 0, .v (.slice none 0 0)] 138) (hp1 := [(0, .cells [.p 0 0, .v (.slice none 0 0)] 138)]) (fun r o hm => by
    obtain ⟨rfl, rfl⟩ := Prod.mk.inj (List.mem_singleton.1 hm)
    exact .inr ⟨rfl, rfl, _, List.mem_singleton.2 rfl⟩) (hk.mono fun k hk' => (ho.1 k).2 hk') ⟨_, List.mem_singleton.2 rfl⟩ (fun ρ' hr => by
      have h2 := hh.obj ρ' hr 0 _ (List.mem_singleton.2 rfl)
      refine ⟨h2.1, ?_⟩
      have h3 := h2.2
      simp only [denL_cons, denL_nil, den] at h3
      have h3 := cellsAt_setCell (o := 0) h3 (.pointer (some ⟨ρ 0, 0, none⟩))
      have e0 : ρ' 0 = ρ 0 := hr 0 (by decide)
      rw [e0] at h3 ⊢
      simpa only [denL_cons, denL_nil, den, e0, List.set] using h3)
  refine ⟨.tup [], [(0, .cells [.p 0 0, .v (.slice none 0 0)] 138)], 1, [], ρ, F, ⟨(), trivial, Ret.mk [0] _ (Fold.refl _) rfl (fun _ _ _ => rfl) ⟨OSub.ren rfl rfl, trivial⟩ (fun _ h => h)⟩, he, fun _ _ => rfl, hup.1, Ag.refl _ _, Nat.le_refl _, hk.mono fun k hk' => ⟨0, _, List.mem_singleton.2 rfl, (ho.1 k).2 hk'⟩, fun k hk' => .inl (hup.2 k hk'), fun f hf => .inl hf⟩
theorem tCopyUsed (n : Nat) (xs : List Value) : Tri Tryd.prog 141 [.p 0 0] [(0, .cells [.p 0 0, .s 1 0 n xs.length] 138), (1, .row xs 5)] 2 [] (RetE (α := Unit) 2 (fun _ => True) (fun _ => .tup []) (fun _ => [(0, .cells [.p 0 0, .s 1 0 n xs.length] 138), (1, .row xs 5)]) 2 (fun _ => [])) := by
  refine ⟨trivial, fun ρ F w hh hrob => .inl ⟨by simp [callFunc, Tryd.func141, Tryd.f141], ?_⟩⟩
  have ho := hh.obj ρ (Ag.refl _ _) 0 _ (List.mem_cons_self ..)
  have hc := ho.2
  simp only [denL_cons, denL_nil, den] at hc
  refine (cCopyUsed (ρ 0) w (by rw [hc.cell]; rfl)).mono fun e w' ⟨he, hw⟩ => ?_
  subst hw
  refine ⟨.tup [], [(0, .cells [.p 0 0, .s 1 0 n xs.length] 138), (1, .row xs 5)], 2, [], ρ, F, ⟨(), trivial, Ret.mk [0, 1] _ (Fold.refl _) rfl (fun _ _ _ => rfl) ⟨OSub.ren rfl rfl, OSub.ren rfl rfl, trivial⟩ (fun _ h => h)⟩, he, fun _ _ => rfl, hh, Ag.refl _ _, Nat.le_refl _, Keeps.refl _ _, fun k hk' => .inl hk', fun f hf => .inl hf⟩
end Go.Proofs.YtekgjjanikicnaaDoor.Sx
