/- strconv's inner functions as contracts of the executor: out of the shelf's. -/
import Derived.Test.YtekgjjanikicnaaDoorSxS
import Derived.Test.YtekgjjanikicnaaDoorSxG
import Derived.Test.YtekgjjanikicnaaDoorSxT
import Derived.Test.YtekgjjanikicnaaDoorTT
import Derived.Test.YtekgjjanikicnaaDoorGu0
namespace Go.Proofs.YtekgjjanikicnaaDoor.Sx
open Go Go.RowKit
set_option maxRecDepth 100000
set_option linter.unusedSimpArgs false
set_option linter.unusedVariables false

/-- A contract of the shelf, of a function that turns nothing that was there. -/
theorem Tri.shelf {P : Program} {n : Nat} {args : List SV} {vs : List Value} {fx : List Fact} {α : Type} {pr : α → Prop} {v : α → SV} (hargs : ∀ ρ, denL ρ args = vs) (hv : ∀ a ρ ρ', den ρ' (v a) = den ρ (v a))
    (hen : ∀ (xs : Array Value) (w : World), (callFunc n xs).run P w = .ok (.enter n xs) w)
    (h : ∀ w, FOk fx w → Calls P n vs.toArray w (fun e w' => (∃ a, pr a ∧ e = .returned (den (fun _ => 0) (v a))) ∧ Below w.heap.size w w')) : Tri P n args [] 0 fx (RetE 0 pr v (fun _ => []) 0 (fun _ => [])) :=
  ⟨trivial, fun ρ F w hh hrob => .inl ⟨hen _ w, by
    rw [hargs ρ]
    refine (h w hh.shape.fok).mono ?_
    rintro e w' ⟨⟨a, ha, he⟩, hb⟩
    exact ⟨v a, [], 0, [], ρ, F, ⟨a, ha, Ret.noneS rfl (fun ρ1 ρ2 => hv a ρ1 ρ2) (fun _ h => h)⟩, by rw [he, hv a ρ], fun ρ2 _ => hv a ρ ρ2,
      ⟨fun _ _ r o hm => (by cases hm), fun r o hm => (by cases hm), fun r o r' o' hm => (by cases hm), fun r o hm => (by cases hm), fun f hf => (by cases hf)⟩, Ag.refl _ _, Nat.le_refl _,
      ⟨hb.os, hb.tape, hb.output, hb.size, fun k hk _ => hb.block k hk⟩, fun k ⟨r, o, hm, _⟩ => (by cases hm), fun f hf => (by cases hf)⟩⟩⟩

/-- The table of powers of ten, and the two errors' variables. -/
def gTab : Fact where
  G := fun k => k = 5
  φ := fun w => Lib.TabIs Tryd.prog w "internal/strconv.uint64pow10" .u64 Lib.pow10Tab
  loc := fun {w w'} h hk => by
    have hg : Tryd.prog.globalNamed "internal/strconv.uint64pow10" = some 5 := Tryd.lays284.m17
    unfold Lib.TabIs World.var? at h ⊢
    rw [hg] at h ⊢
    simp only [Option.bind_some] at h ⊢
    rw [hk 5 rfl]; exact h
def gErr : Fact where
  G := fun k => k = 6 ∨ k = 7
  φ := fun w => ∀ g, g = 6 ∨ g = 7 → ∃ ev, w.cell? ⟨g, 0, none⟩ = some ev ∧ (ev = .nilIface ∨ ∃ te pe, ev = .iface te pe)
  loc := fun {w w'} h hk g hg => by
    obtain ⟨ev, h1, h2⟩ := h g hg
    exact ⟨ev, by rw [World.cell?_of_block (w := w) (hk g hg)]; exact h1, h2⟩

/-! ### What needs no region -/
theorem tSmall (fx : List Fact) (i : Nat) (h : i < 100) : Tri Tryd.prog 147 [.v (.int .i64 (i : Int))] [] 0 fx (RetE (α := Unit) 0 (fun _ => True) (fun _ => .v (.string ⟨(Lib.decDigits i).toArray⟩)) (fun _ => []) 0 (fun _ => [])) :=
  Tri.shelf (vs := [.int .i64 (i : Int)]) (fun _ => rfl) (fun _ _ _ => rfl) (Go.Proofs.enters_of Tryd.func147 (by kernel_rfl) rfl) fun w _ => (Any.internal_strconv_small Tryd.lays283 i h w).mono fun e w' ⟨he, hw⟩ => ⟨⟨(), trivial, he⟩, hw ▸ Below.refl _ _⟩
theorem tNumDigits (fx : List Fact) (hg : gTab ∈ fx) (u : Nat) (h1 : 1 ≤ u) (h2 : u < 18446744073709551616) : Tri Tryd.prog 148 [.v (.int .u64 (u : Int))] [] 0 fx (RetE (α := Unit) 0 (fun _ => True) (fun _ => .v (.int .i64 (Lib.nDigits u : Nat))) (fun _ => []) 0 (fun _ => [])) :=
  Tri.shelf (vs := [.int .u64 (u : Int)]) (fun _ => rfl) (fun _ _ _ => rfl) (Go.Proofs.enters_of Tryd.func148 (by kernel_rfl) rfl) fun w hw => (Any.internal_strconv_numDigits Tryd.lays284 u h1 h2 w (hw _ hg)).mono fun e w' ⟨he, hw⟩ => ⟨⟨(), trivial, he⟩, hw ▸ Below.refl _ _⟩
/-- What strconv.ParseUint answers, and whether it has an error. -/
def puS (N : Nat) : Lib.NumEnd Nat → SV
  | .ok u => .tup [.v (.int .u64 (u : Int)), .v .nilIface]
  | .range => .tup [.v (.int .u64 18446744073709551615), .v (.iface 180 (.pointer (some ⟨N, 0, none⟩)))]
  | _ => .tup [.v (.int .u64 0), .v (.iface 180 (.pointer (some ⟨N, 0, none⟩)))]
theorem tParse (fx : List Fact) (hg : gErr ∈ fx) (s : ByteArray) (hs : s.size ≤ 281474976710656) : Tri Tryd.prog 93 [.v (.string s), .k .i64 10, .k .i64 64] [] 0 fx
    (RetE (α := Nat) 0 (fun _ => True) (fun N => puS N (Lib.parseUintB 64 s.data.toList)) (fun _ => []) 0 (fun _ => [])) :=
  Tri.shelf (vs := [.string s, .int .i64 10, .int .i64 64]) (fun _ => rfl) (fun N _ _ => by unfold puS; split <;> rfl) (Go.Proofs.enters_of Tryd.func93 (by kernel_rfl) rfl) fun w hw => by
    obtain ⟨e6, h6, h6'⟩ := hw _ hg 6 (.inl rfl)
    obtain ⟨e7, h7, h7'⟩ := hw _ hg 7 (.inr rfl)
    rcases hp : Lib.parseUintB 64 s.data.toList with u | _ | _
    · refine (Any.strconv_ParseUint_10_at64_ok Tryd.laysPu14 s (by omega) u hp w).mono fun e w' ⟨he, hb⟩ => ⟨⟨0, trivial, by rw [he]; rfl⟩, ?_⟩
      rcases hb with hb | hb <;> rw [hb]
      · exact Below.refl _ _
      · exact Lib.bytesWorld_below _ _ _
    · refine (Any.strconv_ParseUint_10_at64_syntax Tryd.laysPu14 s hs hp e6 w h6 h6').mono fun e w' ⟨N, he, _, _, hb⟩ => ⟨⟨N, trivial, by rw [he]; rfl⟩, hb⟩
    · refine (Any.strconv_ParseUint_10_at64_range Tryd.laysPu14 s hs hp e7 w h7 h7').mono fun e w' ⟨N, he, _, _, hb⟩ => ⟨⟨N, trivial, by rw [he]; rfl⟩, hb⟩
end Go.Proofs.YtekgjjanikicnaaDoor.Sx
