/- strconv.FormatUint of ten. -/
import Derived.Test.YtekgjjanikicnaaDoorGu1
namespace Go.Proofs.YtekgjjanikicnaaDoor.Sx
open Go Go.RowKit
set_option maxRecDepth 100000
set_option linter.unusedSimpArgs false
set_option linter.unusedVariables false
/-- A number's digits, and what stands behind them. -/
def fmtRow (u : Nat) : List Value := (Lib.decDigits u).map bv ++ List.replicate (24 - Lib.nDigits u) (.int .u8 0)
theorem decDigits_len (u : Nat) : (Lib.decDigits u).length = Lib.nDigits u := Lib.decDigits_length u
theorem frozen_cellsAt {w : World} {b : Nat} {cs : List Value} {T : TypeId} (h : CellsAt w b cs T) (j : Nat) (hj : j < cs.length) : w.frozen? ⟨b, j, none⟩ = false := by
  obtain ⟨fz, h1, h2⟩ := h
  simp only [World.frozen?, h1]
  rcases h2 with h2 | h2
  · simp [h2]
  · simp; omega
theorem put_row (N u : Nat) (dk : Array UInt8) (h24 : Lib.nDigits u ≤ N) (hdk : dk.size = Lib.nDigits u) (hI : ∀ k, k < Lib.nDigits u → dk[k]! = Lib.dg u (Lib.nDigits u - 1 - k)) :
    Sort.putCells (fun (b : UInt8) => Value.int .u8 (b.toNat : Int)) 0 dk (List.replicate N (Value.int .u8 0)).toArray = ((Lib.decDigits u).map bv ++ List.replicate (N - Lib.nDigits u) (Value.int .u8 0)).toArray := by
  apply Array.ext_getElem?
  intro k
  unfold Sort.putCells
  rw [Array.getElem?_mapIdx, List.getElem?_toArray, List.getElem?_toArray, List.getElem?_replicate]
  by_cases hk : k < Lib.nDigits u
  · rw [if_pos (show k < N by omega), List.getElem?_append_left (by simp [decDigits_len]; exact hk), Option.map_some, if_pos (by omega), List.getElem?_map, Lib.decDigits_eq, List.getElem?_map, List.getElem?_range hk, Nat.sub_zero, hI k hk]
    rfl
  · rw [List.getElem?_append_right (by simp [decDigits_len]; omega), List.getElem?_replicate, List.length_map, decDigits_len]
    by_cases hk2 : k < N
    · rw [if_pos hk2, if_pos (by omega), Option.map_some, if_neg (by omega)]
    · rw [if_neg hk2, if_neg (by omega)]; rfl
theorem putRow_heap {w : World} {b off : Nat} {d : Array UInt8} {c : Array Value} {T : TypeId} {fz : Nat × Nat} {enc : UInt8 → Value} (hb : w.heap[b]? = some (.cells c T fz)) (n : Nat) :
    ((Sort.putRow enc w b off d).drewN n).heap[b]? = some (.cells (Sort.putCells enc off d c) T fz) := by
  simp [World.drewN, Sort.putRow, Sort.mapBlock, Array.getElem?_modify, hb, Sort.onCells]
theorem putRow_keeps {w : World} {b off : Nat} {d : Array UInt8} {enc : UInt8 → Value} (n : Nat) : Keeps (fun k => k = b) w ((Sort.putRow enc w b off d).drewN n) := by
  refine ⟨rfl, rfl, rfl, by simp [World.drewN, Sort.putRow, Sort.mapBlock], fun k hk hn => ?_⟩
  simp only [World.drewN, Sort.putRow, Sort.mapBlock, Array.getElem?_modify]
  rw [if_neg (Ne.symm hn)]
theorem tFmt (fx : List Fact) (u : Nat) (h24 : Lib.nDigits u ≤ 24) (h2 : u < 18446744073709551616) : Tri Tryd.prog 149 [.s 0 0 (Lib.nDigits u) 24, .v (.int .u64 (u : Int))] [(0, .cells (List.replicate 24 (.k .u8 0)) 173)] 1 fx
    (Ret 1 (.tup []) [(0, .row (fmtRow u) 173)] 1 []) :=
  ⟨trivial, fun ρ F w hh hrob => .inl ⟨(Go.Proofs.enters_of Tryd.func149 (by kernel_rfl) rfl) _ w, by
    obtain ⟨hF, hc⟩ := hh.obj ρ (Ag.refl _ _) 0 _ (List.mem_singleton.2 rfl)
    have hz : denL ρ (List.replicate 24 (.k .u8 0)) = List.replicate 24 (.int .u8 0) := rfl
    rw [hz] at hc
    have hsz : (Array.replicate (Lib.nDigits u) (0 : UInt8)).size = Lib.nDigits u := by simp
    have hH : Sort.Holds (fun (b : UInt8) => Value.int .u8 (b.toNat : Int)) w (ρ 0) 0 (Array.replicate (Lib.nDigits u) (0 : UInt8)) := by
      intro j hj
      rw [hsz] at hj
      refine ⟨?_, ?_⟩
      · rw [hc.cell, Nat.zero_add]
        rw [List.getElem?_replicate, if_pos (by omega)]
        rw [getElem!_pos _ j (by rw [hsz]; exact hj)]
        simp
      · rw [Nat.zero_add]; exact frozen_cellsAt hc j (by simp; omega)
    have K := Any.internal_strconv_formatBase10 Tryd.lays285 (ρ 0) 0 24 u (Array.replicate (Lib.nDigits u) (0 : UInt8)) w hH (by rw [hsz]; exact Lib.lt_pow_nDigits u) h2 (by rw [hsz]; omega)
    rw [hsz] at K
    refine K.mono ?_
    rintro e w' ⟨he, n, v', dk, hw, hI⟩
    obtain ⟨fz, hb, hfz⟩ := hc
    have hdk : dk.size = Lib.nDigits u := hI.size
    have hlt : ρ 0 < w.heap.size := by
      rcases Nat.lt_or_ge (ρ 0) w.heap.size with h | h
      · exact h
      · rw [Array.getElem?_eq_none h] at hb; cases hb
    have hC : CellsAt w' (ρ 0) (fmtRow u) 173 := by
      refine ⟨fz, ?_, ?_⟩
      · rw [hw, putRow_heap hb n, put_row 24 u dk h24 hdk fun k hk => hI.done k (Nat.zero_le _) hk]
        rfl
      · rcases hfz with h | h
        · exact .inl h
        · right; simp [fmtRow, decDigits_len] at h ⊢; omega
    have hK : Keeps (fun k => k = ρ 0) w w' := by rw [hw]; exact putRow_keeps n
    have hsub : ∀ k, Own [(0, SObj.row (fmtRow u) 173)] F k → Own [(0, SObj.cells (List.replicate 24 (.k .u8 0)) 173)] F k := by
      rintro k ⟨r, o, hm, hk⟩
      cases List.mem_singleton.1 hm
      exact ⟨0, _, List.mem_singleton.2 rfl, hk⟩
    have hK2 : Keeps (Own [(0, SObj.cells (List.replicate 24 (.k .u8 0)) 173)] F) w w' := hK.mono fun k hk => ⟨0, _, List.mem_singleton.2 rfl, (hF k).2 hk⟩
    refine ⟨.tup [], [(0, .row (fmtRow u) 173)], 1, [], ρ, F, ?_, by rw [he]; rfl, fun _ _ => rfl, ⟨?_, ?_⟩, Ag.refl _ _, Nat.le_refl _, hK2, fun k hk => .inl (hsub k hk), fun f hf => by cases hf⟩
    · exact Ret.mk [0] _ (Fold.refl _) rfl (fun _ _ _ => rfl) ⟨OSub.row rfl, trivial⟩ (fun g hg => by cases hg)
    · intro ρ' hag r o hm
      cases List.mem_singleton.1 hm
      exact ⟨fun k => by rw [hag 0 (by omega)]; exact hF k, by rw [hag 0 (by omega)]; exact hC⟩
    · refine ⟨fun r o hm => ?_, fun r o r' o' hm hm' hne => ?_, fun r o hm k hk => ?_, fun f hf => by cases hf⟩
      · cases List.mem_singleton.1 hm; omega
      · cases List.mem_singleton.1 hm; cases List.mem_singleton.1 hm'; exact absurd rfl hne
      · cases List.mem_singleton.1 hm
        rw [(hF k).1 hk]
        exact Nat.lt_of_lt_of_le hlt hK.size⟩⟩
theorem nDigits_le (u : Nat) (h : u < 18446744073709551616) : Lib.nDigits u ≤ 20 := by
  have h1 : ∀ k u, u < 10 ^ (k + 1) → Lib.nDigits u ≤ k + 1 := by
    intro k
    induction k with
    | zero => intro u h; rw [Lib.nDigits_small (by omega)]; omega
    | succ k ih =>
      intro u h
      by_cases h10 : u < 10
      · rw [Lib.nDigits_small h10]; omega
      · rw [Lib.nDigits_big h10]
        have := ih (u / 10) (by rw [Nat.pow_succ] at h; omega)
        omega
  exact h1 19 u (by omega)
theorem fmt_take (u : Nat) : List.take (Lib.nDigits u) (List.drop 0 (fmtRow u)) = (Lib.decDigits u).map bv ∧ ((Lib.decDigits u).map bv).length = Lib.nDigits u := by
  refine ⟨?_, by rw [List.length_map, decDigits_len]⟩
  rw [List.drop_zero, fmtRow, List.take_append_of_le_length (by rw [List.length_map, decDigits_len]; exact Nat.le_refl _), List.take_of_length_le (by rw [List.length_map, decDigits_len]; exact Nat.le_refl _)]
theorem tFU (fx : List Fact) (hg : gTab ∈ fx) (x : Nat) (h2 : x < 18446744073709551616) : Tri Tryd.prog 125 [.v (.int .u64 (x : Int)), .k .i64 10] [] 0 fx (Ret 0 (.v (.string ⟨(Lib.decDigits x).toArray⟩)) [] 0 []) := by
  refine Tri.of_code tok Tryd.func125 rfl rfl rfl (by decide) rfl (Nat.le_of_ble_eq_true rfl) ?_
  conv => whnf
  repeat' ((first | refine And.intro (by repeat' first | exact trivial | refine And.intro rfl ?_) (And.intro (by first | exact fun _ h => h | exact fun _ => List.mem_cons_of_mem _ | exact fun _ => List.mem_append_right _) ?_) | (refine And.intro (fun h => ?_) (fun h => ?_) <;> (try simp only [n1, n2, n3, n4, n5, n6] at h) <;> first | (exfalso; omega) | (cases h; done) | skip) | refine And.intro (by omega) ?_ | refine Exists.intro _ (And.intro (by first | exact And.intro rfl rfl | exact Pl.den (by repeat constructor) | with_reducible rfl | exact cast_succ _ | assumption | exact (Int.toNat_of_nonneg (by omega)).symm | rfl) ?_) | refine hD _ _ ?_ | refine hL _ _ ?_ | (intro h; (try simp only [n1, n2, n3, n4, n5, n6] at h); first | (exfalso; omega) | (cases h; done) | skip)) <;> (conv => whnf))
  · refine Tri.use (tSmall _ x (by omega)) [] rfl (fun _ _ _ => rfl) trivial (fun f hf => by first | exact hf | cases hf) (fun u hu => ?_)
    conv => whnf
    repeat' ((first | refine And.intro (by repeat' first | exact trivial | refine And.intro rfl ?_) (And.intro (by first | exact fun _ h => h | exact fun _ => List.mem_cons_of_mem _ | exact fun _ => List.mem_append_right _) ?_) | (refine And.intro (fun h => ?_) (fun h => ?_) <;> (try simp only [n1, n2, n3, n4, n5, n6] at h) <;> first | (exfalso; omega) | (cases h; done) | skip) | refine And.intro (by omega) ?_ | refine Exists.intro _ (And.intro (by first | exact And.intro rfl rfl | exact Pl.den (by repeat constructor) | with_reducible rfl | exact cast_succ _ | assumption | exact (Int.toNat_of_nonneg (by omega)).symm | rfl) ?_) | refine hD _ _ ?_ | refine hL _ _ ?_ | (intro h; (try simp only [n1, n2, n3, n4, n5, n6] at h); first | (exfalso; omega) | (cases h; done) | skip)) <;> (conv => whnf))
    exact Ret.noneS rfl (fun _ _ => rfl) (fun g hg => by cases hg)
  · have hn : Lib.nDigits x ≤ 20 := nDigits_le x h2
    have hn24 : Lib.nDigits x ≤ 24 := by omega
    refine Tri.use (tNumDigits _ hg x (by omega) (by omega)) [] rfl (fun _ _ _ => rfl) trivial (fun f hf => by first | exact hf | cases hf) (fun u hu => ?_)
    conv => whnf
    repeat' ((first | (refine And.intro hn24 ?_) | refine And.intro (by repeat' first | exact trivial | refine And.intro rfl ?_) (And.intro (by first | exact fun _ h => h | exact fun _ => List.mem_cons_of_mem _ | exact fun _ => List.mem_append_right _) ?_) | (refine And.intro (fun h => ?_) (fun h => ?_) <;> (try simp only [n1, n2, n3, n4, n5, n6] at h) <;> first | (exfalso; omega) | (cases h; done) | skip) | refine And.intro (by omega) ?_ | refine Exists.intro _ (And.intro (by first | exact And.intro rfl rfl | exact Pl.den (by repeat constructor) | with_reducible rfl | exact cast_succ _ | assumption | exact (Int.toNat_of_nonneg (by omega)).symm | rfl) ?_) | refine hD _ _ ?_ | refine hL _ _ ?_ | (intro h; (try simp only [n1, n2, n3, n4, n5, n6] at h); first | (exfalso; omega) | (cases h; done) | skip)) <;> (conv => whnf))
    refine Tri.use (tFmt fx x hn24 h2).one [0] rfl (args_ren rfl rfl) ⟨OSub.ren rfl rfl, trivial⟩ (fun f hf => by first | exact hf | cases hf | simp_all) (fun u hu => ?_)
    conv => whnf
    repeat' ((first | (refine Exists.intro ((Lib.decDigits x).map bv) (And.intro (fmt_take x) ?_)) | (refine Exists.intro (Lib.decDigits x) (And.intro rfl ?_)) | refine And.intro (by repeat' first | exact trivial | refine And.intro rfl ?_) (And.intro (by first | exact fun _ h => h | exact fun _ => List.mem_cons_of_mem _ | exact fun _ => List.mem_append_right _) ?_) | (refine And.intro (fun h => ?_) (fun h => ?_) <;> (try simp only [n1, n2, n3, n4, n5, n6] at h) <;> first | (exfalso; omega) | (cases h; done) | skip) | refine And.intro (by omega) ?_ | refine Exists.intro _ (And.intro (by first | exact And.intro rfl rfl | exact Pl.den (by repeat constructor) | with_reducible rfl | exact cast_succ _ | assumption | exact (Int.toNat_of_nonneg (by omega)).symm | rfl) ?_) | refine hD _ _ ?_ | refine hL _ _ ?_ | (intro h; (try simp only [n1, n2, n3, n4, n5, n6] at h); first | (exfalso; omega) | (cases h; done) | skip)) <;> (conv => whnf))
    exact Ret.noneS rfl (fun _ _ => rfl) (fun g hg => by cases hg)
end Go.Proofs.YtekgjjanikicnaaDoor.Sx
