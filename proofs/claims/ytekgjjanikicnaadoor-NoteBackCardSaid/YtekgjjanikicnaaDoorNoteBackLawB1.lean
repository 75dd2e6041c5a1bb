/- Lemmas of this proof, part 1: 15 texts joined. -/
import Derived.Test.YtekgjjanikicnaaDoorProg
import Derived.Ground.NamesProg
import Derived.Shelf.Strings.Split
import Derived.Shelf.Strconv.Itoa1
import Derived.Shelf.Strconv.Itoa2
import Derived.Shelf.Pu.ParseUintPublic10
import Derived.Test.YtekgjjanikicnaaDoorSxS
import Derived.Test.YtekgjjanikicnaaDoorSxG
import Derived.Test.YtekgjjanikicnaaDoorSxT
import Derived.Test.YtekgjjanikicnaaDoorTT
import Derived.Lib.ParseIntBCases
import Derived.Lib.UnsafeStr
import Derived.Lib.Builder
import Derived.NoCompiler
import Derived.BigRegion
import Derived.WalkKit
import Derived.Laws.Externs
import Derived.Test.YtekgjjanikicnaaDoorSxN
import Derived.Lib.Strings
import Derived.Lib.Bytealg
import Derived.Lib.Slices
import Derived.Lib.Walk
namespace Go.Proofs
open Go.Shelf
def Tryd.lays146_ren : Go.Shelf.Ren := ⟨fun | 146 => 94 | 221 => 128 | 268 => 157 | 138 => 158 | 143 => 159 | 195 => 178 | 197 => 179 | 218 => 180 | 219 => 181 | 260 => 190 | 217 => 161 | 225 => 191 | 224 => 192 | 267 => 193 | 266 => 183 | 314 => 196 | n => n, fun | 9 => 9 | 31 => 123 | 3 => 3 | 4 => 4 | 0 => 0 | 105 => 204 | 21 => 21 | 5 => 5 | 46 => 116 | 119 => 216 | 139 => 219 | 138 => 218 | 146 => 220 | 51 => 70 | n => n, fun | 1 => 8 | 3 => 11 | 4 => 12 | n => n⟩
theorem Tryd.lays146 : Go.Proofs.Lays.n146 Tryd.prog Tryd.lays146_ren := {
  mixed := by kernel_rfl
  f138 := Tryd.func158.trans (congrArg some (by kernel_rfl))
  f143 := Tryd.func159.trans (congrArg some (by kernel_rfl))
  f146 := Tryd.func94.trans (congrArg some (by kernel_rfl))
  f195 := Tryd.func178.trans (congrArg some (by kernel_rfl))
  f197 := Tryd.func179.trans (congrArg some (by kernel_rfl))
  f217 := Tryd.func161.trans (congrArg some (by kernel_rfl))
  f218 := Tryd.func180.trans (congrArg some (by kernel_rfl))
  f219 := Tryd.func181.trans (congrArg some (by kernel_rfl))
  f221 := Tryd.func128.trans (congrArg some (by kernel_rfl))
  f224 := Tryd.func192.trans (congrArg some (by kernel_rfl))
  f225 := Tryd.func191.trans (congrArg some (by kernel_rfl))
  f260 := Tryd.func190.trans (congrArg some (by kernel_rfl))
  f266 := Tryd.func183.trans (congrArg some (by kernel_rfl))
  f267 := Tryd.func193.trans (congrArg some (by kernel_rfl))
  f268 := Tryd.func157.trans (congrArg some (by kernel_rfl))
  f314 := Tryd.func196.trans (congrArg some (by kernel_rfl))
  t0 := Tryd.underlying0
  a0 := Tryd.isAgg0
  z0 := Tryd.sizeOf0
  v0 := Tryd.zeroValue0
  t3 := Tryd.underlying3
  a3 := Tryd.isAgg3
  z3 := Tryd.sizeOf3
  v3 := Tryd.zeroValue3
  t4 := Tryd.underlying4
  a4 := Tryd.isAgg4
  z4 := Tryd.sizeOf4
  v4 := Tryd.zeroValue4
  t5 := Tryd.underlying5
  a5 := Tryd.isAgg5
  z5 := Tryd.sizeOf5
  v5 := Tryd.zeroValue5
  t9 := Tryd.underlying9
  a9 := Tryd.isAgg9
  z9 := Tryd.sizeOf9
  v9 := Tryd.zeroValue9
  t21 := Tryd.underlying21
  a21 := Tryd.isAgg21
  z21 := Tryd.sizeOf21
  v21 := Tryd.zeroValue21
  t31 := Tryd.underlying123
  a31 := Tryd.isAgg123
  z31 := Tryd.sizeOf123
  v31 := Tryd.zeroValue123
  t46 := Tryd.underlying116
  a46 := Tryd.isAgg116
  z46 := Tryd.sizeOf116
  v46 := Tryd.zeroValue116
  t51 := Tryd.underlying70
  a51 := Tryd.isAgg70
  z51 := Tryd.sizeOf70
  v51 := Tryd.zeroValue70
  t105 := Tryd.underlying204
  a105 := Tryd.isAgg204
  z105 := Tryd.sizeOf204
  v105 := Tryd.zeroValue204
  t119 := Tryd.underlying216
  a119 := Tryd.isAgg216
  z119 := Tryd.sizeOf216
  t138 := Tryd.underlying218
  a138 := Tryd.isAgg218
  z138 := Tryd.sizeOf218
  v138 := Tryd.zeroValue218
  t139 := Tryd.underlying219
  a139 := Tryd.isAgg219
  z139 := Tryd.sizeOf219
  v139 := Tryd.zeroValue219
  t146 := Tryd.underlying220
  a146 := Tryd.isAgg220
  z146 := Tryd.sizeOf220
  v146 := Tryd.zeroValue220
  g1 := by kernel_rfl
  g3 := by kernel_rfl
  g4 := by kernel_rfl }
end Go.Proofs

namespace Go.Proofs
open Go.Shelf
def Tryd.lays284_ren : Go.Shelf.Ren := ⟨fun | 284 => 148 | 129 => 171 | 317 => 170 | 318 => 172 | n => n, fun | 53 => 22 | 3 => 3 | 212 => 195 | 0 => 0 | 4 => 4 | 46 => 116 | 5 => 5 | 9 => 9 | n => n, fun | 17 => 5 | n => n⟩
theorem Tryd.lays284 : Go.Proofs.LaysM.n284 Tryd.prog Tryd.lays284_ren := {
  mixed := by kernel_rfl
  f129 := Tryd.func171.trans (congrArg some (by kernel_rfl))
  f284 := Tryd.func148.trans (congrArg some (by kernel_rfl))
  f317 := Tryd.func170.trans (congrArg some (by kernel_rfl))
  f318 := Tryd.func172.trans (congrArg some (by kernel_rfl))
  t0 := Tryd.underlying0
  a0 := Tryd.isAgg0
  z0 := Tryd.sizeOf0
  v0 := Tryd.zeroValue0
  t3 := Tryd.underlying3
  a3 := Tryd.isAgg3
  z3 := Tryd.sizeOf3
  v3 := Tryd.zeroValue3
  t4 := Tryd.underlying4
  a4 := Tryd.isAgg4
  z4 := Tryd.sizeOf4
  v4 := Tryd.zeroValue4
  t5 := Tryd.underlying5
  a5 := Tryd.isAgg5
  z5 := Tryd.sizeOf5
  v5 := Tryd.zeroValue5
  t9 := Tryd.underlying9
  a9 := Tryd.isAgg9
  z9 := Tryd.sizeOf9
  v9 := Tryd.zeroValue9
  t46 := Tryd.underlying116
  a46 := Tryd.isAgg116
  z46 := Tryd.sizeOf116
  v46 := Tryd.zeroValue116
  t53 := Tryd.underlying22
  a53 := Tryd.isAgg22
  z53 := Tryd.sizeOf22
  v53 := Tryd.zeroValue22
  t212 := Tryd.underlying195
  a212 := Tryd.isAgg195
  z212 := Tryd.sizeOf195
  v212 := Tryd.zeroValue195
  g17 := by kernel_rfl
  i0 := by kernel_rfl
  i3 := by kernel_rfl
  i4 := by kernel_rfl
  i5 := by kernel_rfl
  i9 := by kernel_rfl
  i46 := by kernel_rfl
  i53 := by kernel_rfl
  i212 := by kernel_rfl
  m17 := by kernel_rfl }
def Tryd.lays283_ren : Go.Shelf.Ren := ⟨fun | 283 => 147 | n => n, fun | 3 => 3 | 9 => 9 | 4 => 4 | n => n, fun | n => n⟩
theorem Tryd.lays283 : Go.Proofs.Lays.n283 Tryd.prog Tryd.lays283_ren := {
  mixed := by kernel_rfl
  f283 := Tryd.func147.trans (congrArg some (by kernel_rfl))
  t3 := Tryd.underlying3
  a3 := Tryd.isAgg3
  z3 := Tryd.sizeOf3
  v3 := Tryd.zeroValue3
  t4 := Tryd.underlying4
  a4 := Tryd.isAgg4
  z4 := Tryd.sizeOf4
  v4 := Tryd.zeroValue4
  t9 := Tryd.underlying9
  a9 := Tryd.isAgg9
  z9 := Tryd.sizeOf9
  v9 := Tryd.zeroValue9 }
def Tryd.lays285_ren : Go.Shelf.Ren := ⟨fun | 285 => 149 | n => n, fun | 37 => 61 | 53 => 22 | 3 => 3 | 4 => 4 | 51 => 70 | 9 => 9 | 5 => 5 | 0 => 0 | n => n, fun | n => n⟩
theorem Tryd.lays285 : Go.Proofs.Lays.n285 Tryd.prog Tryd.lays285_ren := {
  mixed := by kernel_rfl
  f285 := Tryd.func149.trans (congrArg some (by kernel_rfl))
  t0 := Tryd.underlying0
  a0 := Tryd.isAgg0
  z0 := Tryd.sizeOf0
  v0 := Tryd.zeroValue0
  t3 := Tryd.underlying3
  a3 := Tryd.isAgg3
  z3 := Tryd.sizeOf3
  v3 := Tryd.zeroValue3
  t4 := Tryd.underlying4
  a4 := Tryd.isAgg4
  z4 := Tryd.sizeOf4
  v4 := Tryd.zeroValue4
  t5 := Tryd.underlying5
  a5 := Tryd.isAgg5
  z5 := Tryd.sizeOf5
  v5 := Tryd.zeroValue5
  t9 := Tryd.underlying9
  a9 := Tryd.isAgg9
  z9 := Tryd.sizeOf9
  v9 := Tryd.zeroValue9
  t37 := Tryd.underlying61
  a37 := Tryd.isAgg61
  z37 := Tryd.sizeOf61
  v37 := Tryd.zeroValue61
  t51 := Tryd.underlying70
  a51 := Tryd.isAgg70
  z51 := Tryd.sizeOf70
  v51 := Tryd.zeroValue70
  t53 := Tryd.underlying22
  a53 := Tryd.isAgg22
  z53 := Tryd.sizeOf22
  v53 := Tryd.zeroValue22 }
def Tryd.laysPu14_ren : Go.Shelf.Ren := ⟨fun | 14 => 93 | 16 => 126 | 17 => 127 | 19 => 151 | 20 => 152 | 21 => 153 | 22 => 154 | 23 => 155 | 24 => 156 | 25 => 175 | 27 => 177 | 26 => 176 | 28 => 189 | 29 => 195 | 30 => 147 | 31 => 148 | 32 => 149 | 33 => 150 | 35 => 171 | 34 => 170 | 36 => 172 | 37 => 173 | 38 => 174 | 39 => 187 | 40 => 188 | n => n, fun | 9 => 9 | 3 => 3 | 22 => 22 | 24 => 120 | 25 => 121 | 4 => 4 | 34 => 178 | 5 => 5 | 36 => 116 | 37 => 61 | 0 => 0 | 39 => 180 | 21 => 21 | 44 => 201 | 47 => 165 | 50 => 212 | 48 => 210 | 2 => 2 | 52 => 173 | 55 => 176 | 59 => 195 | 60 => 70 | 20 => 20 | 61 => 196 | 65 => 44 | 66 => 214 | 67 => 140 | n => n, fun | 0 => 6 | 1 => 7 | 2 => 5 | 3 => 9 | 4 => 10 | n => n⟩
theorem Tryd.laysPu14 : Go.Proofs.LaysPu.n14 Tryd.prog Tryd.laysPu14_ren := {
  mixed := by kernel_rfl
  f14 := Tryd.func93.trans (congrArg some (by kernel_rfl))
  f16 := Tryd.func126.trans (congrArg some (by kernel_rfl))
  f17 := Tryd.func127.trans (congrArg some (by kernel_rfl))
  f19 := Tryd.func151.trans (congrArg some (by kernel_rfl))
  f20 := Tryd.func152.trans (congrArg some (by kernel_rfl))
  f21 := Tryd.func153.trans (congrArg some (by kernel_rfl))
  f22 := Tryd.func154.trans (congrArg some (by kernel_rfl))
  f23 := Tryd.func155.trans (congrArg some (by kernel_rfl))
  f24 := Tryd.func156.trans (congrArg some (by kernel_rfl))
  f25 := Tryd.func175.trans (congrArg some (by kernel_rfl))
  f26 := Tryd.func176.trans (congrArg some (by kernel_rfl))
  f27 := Tryd.func177.trans (congrArg some (by kernel_rfl))
  f28 := Tryd.func189.trans (congrArg some (by kernel_rfl))
  f29 := Tryd.func195.trans (congrArg some (by kernel_rfl))
  f30 := Tryd.func147.trans (congrArg some (by kernel_rfl))
  f31 := Tryd.func148.trans (congrArg some (by kernel_rfl))
  f32 := Tryd.func149.trans (congrArg some (by kernel_rfl))
  f33 := Tryd.func150.trans (congrArg some (by kernel_rfl))
  f34 := Tryd.func170.trans (congrArg some (by kernel_rfl))
  f35 := Tryd.func171.trans (congrArg some (by kernel_rfl))
  f36 := Tryd.func172.trans (congrArg some (by kernel_rfl))
  f37 := Tryd.func173.trans (congrArg some (by kernel_rfl))
  f38 := Tryd.func174.trans (congrArg some (by kernel_rfl))
  f39 := Tryd.func187.trans (congrArg some (by kernel_rfl))
  f40 := Tryd.func188.trans (congrArg some (by kernel_rfl))
  t0 := Tryd.underlying0
  a0 := Tryd.isAgg0
  z0 := Tryd.sizeOf0
  v0 := Tryd.zeroValue0
  i0 := by kernel_rfl
  t2 := Tryd.underlying2
  a2 := Tryd.isAgg2
  z2 := Tryd.sizeOf2
  v2 := Tryd.zeroValue2
  i2 := by kernel_rfl
  t3 := Tryd.underlying3
  a3 := Tryd.isAgg3
  z3 := Tryd.sizeOf3
  v3 := Tryd.zeroValue3
  i3 := by kernel_rfl
  t4 := Tryd.underlying4
  a4 := Tryd.isAgg4
  z4 := Tryd.sizeOf4
  v4 := Tryd.zeroValue4
  i4 := by kernel_rfl
  t5 := Tryd.underlying5
  a5 := Tryd.isAgg5
  z5 := Tryd.sizeOf5
  v5 := Tryd.zeroValue5
  i5 := by kernel_rfl
  t9 := Tryd.underlying9
  a9 := Tryd.isAgg9
  z9 := Tryd.sizeOf9
  v9 := Tryd.zeroValue9
  i9 := by kernel_rfl
  t20 := Tryd.underlying20
  a20 := Tryd.isAgg20
  z20 := Tryd.sizeOf20
  v20 := Tryd.zeroValue20
  i20 := by kernel_rfl
  t21 := Tryd.underlying21
  a21 := Tryd.isAgg21
  z21 := Tryd.sizeOf21
  v21 := Tryd.zeroValue21
  i21 := by kernel_rfl
  t22 := Tryd.underlying22
  a22 := Tryd.isAgg22
  z22 := Tryd.sizeOf22
  v22 := Tryd.zeroValue22
  i22 := by kernel_rfl
  t24 := Tryd.underlying120
  a24 := Tryd.isAgg120
  z24 := Tryd.sizeOf120
  v24 := Tryd.zeroValue120
  i24 := by kernel_rfl
  t25 := Tryd.underlying121
  a25 := Tryd.isAgg121
  z25 := Tryd.sizeOf121
  v25 := Tryd.zeroValue121
  i25 := by kernel_rfl
  t34 := Tryd.underlying178
  a34 := Tryd.isAgg178
  z34 := Tryd.sizeOf178
  v34 := Tryd.zeroValue178
  i34 := by kernel_rfl
  c34 := by kernel_rfl
  t36 := Tryd.underlying116
  a36 := Tryd.isAgg116
  z36 := Tryd.sizeOf116
  v36 := Tryd.zeroValue116
  i36 := by kernel_rfl
  t37 := Tryd.underlying61
  a37 := Tryd.isAgg61
  z37 := Tryd.sizeOf61
  v37 := Tryd.zeroValue61
  i37 := by kernel_rfl
  t39 := Tryd.underlying180
  a39 := Tryd.isAgg180
  z39 := Tryd.sizeOf180
  v39 := Tryd.zeroValue180
  i39 := by kernel_rfl
  t44 := Tryd.underlying201
  a44 := Tryd.isAgg201
  z44 := Tryd.sizeOf201
  v44 := Tryd.zeroValue201
  i44 := by kernel_rfl
  t47 := Tryd.underlying165
  a47 := Tryd.isAgg165
  z47 := Tryd.sizeOf165
  v47 := Tryd.zeroValue165
  i47 := by kernel_rfl
  t48 := Tryd.underlying210
  a48 := Tryd.isAgg210
  z48 := Tryd.sizeOf210
  v48 := Tryd.zeroValue210
  i48 := by kernel_rfl
  t50 := Tryd.underlying212
  a50 := Tryd.isAgg212
  z50 := Tryd.sizeOf212
  v50 := Tryd.zeroValue212
  i50 := by kernel_rfl
  t52 := Tryd.underlying173
  a52 := Tryd.isAgg173
  z52 := Tryd.sizeOf173
  v52 := Tryd.zeroValue173
  i52 := by kernel_rfl
  t55 := Tryd.underlying176
  a55 := Tryd.isAgg176
  z55 := Tryd.sizeOf176
  v55 := Tryd.zeroValue176
  i55 := by kernel_rfl
  t59 := Tryd.underlying195
  a59 := Tryd.isAgg195
  z59 := Tryd.sizeOf195
  v59 := Tryd.zeroValue195
  i59 := by kernel_rfl
  t60 := Tryd.underlying70
  a60 := Tryd.isAgg70
  z60 := Tryd.sizeOf70
  v60 := Tryd.zeroValue70
  i60 := by kernel_rfl
  t61 := Tryd.underlying196
  a61 := Tryd.isAgg196
  z61 := Tryd.sizeOf196
  t65 := Tryd.underlying44
  a65 := Tryd.isAgg44
  z65 := Tryd.sizeOf44
  v65 := Tryd.zeroValue44
  i65 := by kernel_rfl
  t66 := Tryd.underlying214
  a66 := Tryd.isAgg214
  z66 := Tryd.sizeOf214
  v66 := Tryd.zeroValue214
  i66 := by kernel_rfl
  t67 := Tryd.underlying140
  a67 := Tryd.isAgg140
  z67 := Tryd.sizeOf140
  v67 := Tryd.zeroValue140
  i67 := by kernel_rfl
  g0 := by kernel_rfl
  m0 := by kernel_rfl
  g1 := by kernel_rfl
  m1 := by kernel_rfl
  g2 := by kernel_rfl
  m2 := by kernel_rfl
  g3 := by kernel_rfl
  m3 := by kernel_rfl
  g4 := by kernel_rfl
  m4 := by kernel_rfl }
end Go.Proofs

namespace Go.Proofs.YtekgjjanikicnaaDoor.Sx
open Go Go.RowKit
set_option maxRecDepth 100000
set_option linter.unusedSimpArgs false
set_option linter.unusedVariables false

/-- A contract of the shelf, of a function that turns nothing that was there. -/
theorem Tri.shelf {P : Program} {n : Nat} {args : List SV} {vs : List Value} {fx : List Fact} {α : Type} {pr : α → Prop} {v : α → SV} (hargs : ∀ ρ, denL ρ args = vs) (hv : ∀ a ρ ρ', den ρ' (v a) = den ρ (v a))
    (hen : ∀ (xs : Array Value) (w : World), (callFunc n xs).run P w = .ok (.enter n xs) w)
    (h : ∀ w, FOk fx w → Calls P n vs.toArray w (fun e w' => (∃ a, pr a ∧ e = .returned (den (fun _ => 0) (v a))) ∧ Below w.heap.size w w')) : Tri P n args [] 0 fx (RetE 0 pr v (fun _ => []) 0 (fun _ => [])) :=
  ⟨trivial, fun ρ F w hh hrob => .inl ⟨hen _ w, by
    rw [hargs ρ]
    refine (h w hh.shape.fok).mono ?_
    rintro e w' ⟨⟨a, ha, he⟩, hb⟩
    exact ⟨v a, [], 0, [], ρ, F, ⟨a, ha, Ret.noneS rfl (fun ρ1 ρ2 => hv a ρ1 ρ2) (fun _ h => h)⟩, by rw [he, hv a ρ], fun ρ2 _ => hv a ρ ρ2,
      ⟨fun _ _ r o hm => (by cases hm), fun r o hm => (by cases hm), fun r o r' o' hm => (by cases hm), fun r o hm => (by cases hm), fun f hf => (by cases hf)⟩, Ag.refl _ _, Nat.le_refl _,
      ⟨hb.os, hb.tape, hb.output, hb.size, fun k hk _ => hb.block k hk⟩, fun k ⟨r, o, hm, _⟩ => (by cases hm), fun f hf => (by cases hf)⟩⟩⟩

/-- The table of powers of ten, and the two errors' variables. -/
def gTab : Fact where
  G := fun k => k = 5
  φ := fun w => Lib.TabIs Tryd.prog w "internal/strconv.uint64pow10" .u64 Lib.pow10Tab
  loc := fun {w w'} h hk => by
    have hg : Tryd.prog.globalNamed "internal/strconv.uint64pow10" = some 5 := Tryd.lays284.m17
    unfold Lib.TabIs World.var? at h ⊢
    rw [hg] at h ⊢
    simp only [Option.bind_some] at h ⊢
    rw [hk 5 rfl]; exact h
def gErr : Fact where
  G := fun k => k = 6 ∨ k = 7
  φ := fun w => ∀ g, g = 6 ∨ g = 7 → ∃ ev, w.cell? ⟨g, 0, none⟩ = some ev ∧ (ev = .nilIface ∨ ∃ te pe, ev = .iface te pe)
  loc := fun {w w'} h hk g hg => by
    obtain ⟨ev, h1, h2⟩ := h g hg
    exact ⟨ev, by rw [World.cell?_of_block (w := w) (hk g hg)]; exact h1, h2⟩

/-! ### What needs no region -/
theorem tSmall (fx : List Fact) (i : Nat) (h : i < 100) : Tri Tryd.prog 147 [.v (.int .i64 (i : Int))] [] 0 fx (RetE (α := Unit) 0 (fun _ => True) (fun _ => .v (.string ⟨(Lib.decDigits i).toArray⟩)) (fun _ => []) 0 (fun _ => [])) :=
  Tri.shelf (vs := [.int .i64 (i : Int)]) (fun _ => rfl) (fun _ _ _ => rfl) (Go.Proofs.enters_of Tryd.func147 (by kernel_rfl) rfl) fun w _ => (Any.internal_strconv_small Tryd.lays283 i h w).mono fun e w' ⟨he, hw⟩ => ⟨⟨(), trivial, he⟩, hw ▸ Below.refl _ _⟩
theorem tNumDigits (fx : List Fact) (hg : gTab ∈ fx) (u : Nat) (h1 : 1 ≤ u) (h2 : u < 18446744073709551616) : Tri Tryd.prog 148 [.v (.int .u64 (u : Int))] [] 0 fx (RetE (α := Unit) 0 (fun _ => True) (fun _ => .v (.int .i64 (Lib.nDigits u : Nat))) (fun _ => []) 0 (fun _ => [])) :=
  Tri.shelf (vs := [.int .u64 (u : Int)]) (fun _ => rfl) (fun _ _ _ => rfl) (Go.Proofs.enters_of Tryd.func148 (by kernel_rfl) rfl) fun w hw => (Any.internal_strconv_numDigits Tryd.lays284 u h1 h2 w (hw _ hg)).mono fun e w' ⟨he, hw⟩ => ⟨⟨(), trivial, he⟩, hw ▸ Below.refl _ _⟩
/-- What strconv.ParseUint answers, and whether it has an error. -/
def puS (N : Nat) : Lib.NumEnd Nat → SV
  | .ok u => .tup [.v (.int .u64 (u : Int)), .v .nilIface]
  | .range => .tup [.v (.int .u64 18446744073709551615), .v (.iface 180 (.pointer (some ⟨N, 0, none⟩)))]
  | _ => .tup [.v (.int .u64 0), .v (.iface 180 (.pointer (some ⟨N, 0, none⟩)))]
theorem tParse (fx : List Fact) (hg : gErr ∈ fx) (s : ByteArray) (hs : s.size ≤ 281474976710656) : Tri Tryd.prog 93 [.v (.string s), .k .i64 10, .k .i64 64] [] 0 fx
    (RetE (α := Nat) 0 (fun _ => True) (fun N => puS N (Lib.parseUintB 64 s.data.toList)) (fun _ => []) 0 (fun _ => [])) :=
  Tri.shelf (vs := [.string s, .int .i64 10, .int .i64 64]) (fun _ => rfl) (fun N _ _ => by unfold puS; split <;> rfl) (Go.Proofs.enters_of Tryd.func93 (by kernel_rfl) rfl) fun w hw => by
    obtain ⟨e6, h6, h6'⟩ := hw _ hg 6 (.inl rfl)
    obtain ⟨e7, h7, h7'⟩ := hw _ hg 7 (.inr rfl)
    rcases hp : Lib.parseUintB 64 s.data.toList with u | _ | _
    · refine (Any.strconv_ParseUint_10_at64_ok Tryd.laysPu14 s (by omega) u hp w).mono fun e w' ⟨he, hb⟩ => ⟨⟨0, trivial, by rw [he]; rfl⟩, ?_⟩
      rcases hb with hb | hb <;> rw [hb]
      · exact Below.refl _ _
      · exact Lib.bytesWorld_below _ _ _
    · refine (Any.strconv_ParseUint_10_at64_syntax Tryd.laysPu14 s hs hp e6 w h6 h6').mono fun e w' ⟨N, he, _, _, hb⟩ => ⟨⟨N, trivial, by rw [he]; rfl⟩, hb⟩
    · refine (Any.strconv_ParseUint_10_at64_range Tryd.laysPu14 s hs hp e7 w h7 h7').mono fun e w' ⟨N, he, _, _, hb⟩ => ⟨⟨N, trivial, by rw [he]; rfl⟩, hb⟩
end Go.Proofs.YtekgjjanikicnaaDoor.Sx

namespace Go.Proofs.YtekgjjanikicnaaDoor.Sx
open Go Go.RowKit
set_option maxRecDepth 100000
set_option linter.unusedSimpArgs false
set_option linter.unusedVariables false
/-- A number's digits, and what stands behind them. -/
def fmtRow (u : Nat) : List Value := (Lib.decDigits u).map bv ++ List.replicate (24 - Lib.nDigits u) (.int .u8 0)
theorem decDigits_len (u : Nat) : (Lib.decDigits u).length = Lib.nDigits u := Lib.decDigits_length u
theorem frozen_cellsAt {w : World} {b : Nat} {cs : List Value} {T : TypeId} (h : CellsAt w b cs T) (j : Nat) (hj : j < cs.length) : w.frozen? ⟨b, j, none⟩ = false := by
  obtain ⟨fz, h1, h2⟩ := h
  simp only [World.frozen?, h1]
  rcases h2 with h2 | h2
  · simp [h2]
  · simp; omega
theorem put_row (N u : Nat) (dk : Array UInt8) (h24 : Lib.nDigits u ≤ N) (hdk : dk.size = Lib.nDigits u) (hI : ∀ k, k < Lib.nDigits u → dk[k]! = Lib.dg u (Lib.nDigits u - 1 - k)) :
    Sort.putCells (fun (b : UInt8) => Value.int .u8 (b.toNat : Int)) 0 dk (List.replicate N (Value.int .u8 0)).toArray = ((Lib.decDigits u).map bv ++ List.replicate (N - Lib.nDigits u) (Value.int .u8 0)).toArray := by
  apply Array.ext_getElem?
  intro k
  unfold Sort.putCells
  rw [Array.getElem?_mapIdx, List.getElem?_toArray, List.getElem?_toArray, List.getElem?_replicate]
  by_cases hk : k < Lib.nDigits u
  · rw [if_pos (show k < N by omega), List.getElem?_append_left (by simp [decDigits_len]; exact hk), Option.map_some, if_pos (by omega), List.getElem?_map, Lib.decDigits_eq, List.getElem?_map, List.getElem?_range hk, Nat.sub_zero, hI k hk]
    rfl
  · rw [List.getElem?_append_right (by simp [decDigits_len]; omega), List.getElem?_replicate, List.length_map, decDigits_len]
    by_cases hk2 : k < N
    · rw [if_pos hk2, if_pos (by omega), Option.map_some, if_neg (by omega)]
    · rw [if_neg hk2, if_neg (by omega)]; rfl
theorem putRow_heap {w : World} {b off : Nat} {d : Array UInt8} {c : Array Value} {T : TypeId} {fz : Nat × Nat} {enc : UInt8 → Value} (hb : w.heap[b]? = some (.cells c T fz)) (n : Nat) :
    ((Sort.putRow enc w b off d).drewN n).heap[b]? = some (.cells (Sort.putCells enc off d c) T fz) := by
  simp [World.drewN, Sort.putRow, Sort.mapBlock, Array.getElem?_modify, hb, Sort.onCells]
theorem putRow_keeps {w : World} {b off : Nat} {d : Array UInt8} {enc : UInt8 → Value} (n : Nat) : Keeps (fun k => k = b) w ((Sort.putRow enc w b off d).drewN n) := by
  refine ⟨rfl, rfl, rfl, by simp [World.drewN, Sort.putRow, Sort.mapBlock], fun k hk hn => ?_⟩
  simp only [World.drewN, Sort.putRow, Sort.mapBlock, Array.getElem?_modify]
  rw [if_neg (Ne.symm hn)]
theorem tFmt (fx : List Fact) (u : Nat) (h24 : Lib.nDigits u ≤ 24) (h2 : u < 18446744073709551616) : Tri Tryd.prog 149 [.s 0 0 (Lib.nDigits u) 24, .v (.int .u64 (u : Int))] [(0, .cells (List.replicate 24 (.k .u8 0)) 173)] 1 fx
    (Ret 1 (.tup []) [(0, .row (fmtRow u) 173)] 1 []) :=
  ⟨trivial, fun ρ F w hh hrob => .inl ⟨(Go.Proofs.enters_of Tryd.func149 (by kernel_rfl) rfl) _ w, by
    obtain ⟨hF, hc⟩ := hh.obj ρ (Ag.refl _ _) 0 _ (List.mem_singleton.2 rfl)
    have hz : denL ρ (List.replicate 24 (.k .u8 0)) = List.replicate 24 (.int .u8 0) := rfl
    rw [hz] at hc
    have hsz : (Array.replicate (Lib.nDigits u) (0 : UInt8)).size = Lib.nDigits u := by simp
    have hH : Sort.Holds (fun (b : UInt8) => Value.int .u8 (b.toNat : Int)) w (ρ 0) 0 (Array.replicate (Lib.nDigits u) (0 : UInt8)) := by
      intro j hj
      rw [hsz] at hj
      refine ⟨?_, ?_⟩
      · rw [hc.cell, Nat.zero_add]
        rw [List.getElem?_replicate, if_pos (by omega)]
        rw [getElem!_pos _ j (by rw [hsz]; exact hj)]
        simp
      · rw [Nat.zero_add]; exact frozen_cellsAt hc j (by simp; omega)
    have K := Any.internal_strconv_formatBase10 Tryd.lays285 (ρ 0) 0 24 u (Array.replicate (Lib.nDigits u) (0 : UInt8)) w hH (by rw [hsz]; exact Lib.lt_pow_nDigits u) h2 (by rw [hsz]; omega)
    rw [hsz] at K
    refine K.mono ?_
    rintro e w' ⟨he, n, v', dk, hw, hI⟩
    obtain ⟨fz, hb, hfz⟩ := hc
    have hdk : dk.size = Lib.nDigits u := hI.size
    have hlt : ρ 0 < w.heap.size := by
      rcases Nat.lt_or_ge (ρ 0) w.heap.size with h | h
      · exact h
      · rw [Array.getElem?_eq_none h] at hb; cases hb
    have hC : CellsAt w' (ρ 0) (fmtRow u) 173 := by
      refine ⟨fz, ?_, ?_⟩
      · rw [hw, putRow_heap hb n, put_row 24 u dk h24 hdk fun k hk => hI.done k (Nat.zero_le _) hk]
        rfl
      · rcases hfz with h | h
        · exact .inl h
        · right; simp [fmtRow, decDigits_len] at h ⊢; omega
    have hK : Keeps (fun k => k = ρ 0) w w' := by rw [hw]; exact putRow_keeps n
    have hsub : ∀ k, Own [(0, SObj.row (fmtRow u) 173)] F k → Own [(0, SObj.cells (List.replicate 24 (.k .u8 0)) 173)] F k := by
      rintro k ⟨r, o, hm, hk⟩
      cases List.mem_singleton.1 hm
      exact ⟨0, _, List.mem_singleton.2 rfl, hk⟩
    have hK2 : Keeps (Own [(0, SObj.cells (List.replicate 24 (.k .u8 0)) 173)] F) w w' := hK.mono fun k hk => ⟨0, _, List.mem_singleton.2 rfl, (hF k).2 hk⟩
    refine ⟨.tup [], [(0, .row (fmtRow u) 173)], 1, [], ρ, F, ?_, by rw [he]; rfl, fun _ _ => rfl, ⟨?_, ?_⟩, Ag.refl _ _, Nat.le_refl _, hK2, fun k hk => .inl (hsub k hk), fun f hf => by cases hf⟩
    · exact Ret.mk [0] _ (Fold.refl _) rfl (fun _ _ _ => rfl) ⟨OSub.row rfl, trivial⟩ (fun g hg => by cases hg)
    · intro ρ' hag r o hm
      cases List.mem_singleton.1 hm
      exact ⟨fun k => by rw [hag 0 (by omega)]; exact hF k, by rw [hag 0 (by omega)]; exact hC⟩
    · refine ⟨fun r o hm => ?_, fun r o r' o' hm hm' hne => ?_, fun r o hm k hk => ?_, fun f hf => by cases hf⟩
      · cases List.mem_singleton.1 hm; omega
      · cases List.mem_singleton.1 hm; cases List.mem_singleton.1 hm'; exact absurd rfl hne
      · cases List.mem_singleton.1 hm
        rw [(hF k).1 hk]
        exact Nat.lt_of_lt_of_le hlt hK.size⟩⟩
theorem nDigits_le (u : Nat) (h : u < 18446744073709551616) : Lib.nDigits u ≤ 20 := by
  have h1 : ∀ k u, u < 10 ^ (k + 1) → Lib.nDigits u ≤ k + 1 := by
    intro k
    induction k with
    | zero => intro u h; rw [Lib.nDigits_small (by omega)]; omega
    | succ k ih =>
      intro u h
      by_cases h10 : u < 10
      · rw [Lib.nDigits_small h10]; omega
      · rw [Lib.nDigits_big h10]
        have := ih (u / 10) (by rw [Nat.pow_succ] at h; omega)
        omega
  exact h1 19 u (by omega)
theorem fmt_take (u : Nat) : List.take (Lib.nDigits u) (List.drop 0 (fmtRow u)) = (Lib.decDigits u).map bv ∧ ((Lib.decDigits u).map bv).length = Lib.nDigits u := by
  refine ⟨?_, by rw [List.length_map, decDigits_len]⟩
  rw [List.drop_zero, fmtRow, List.take_append_of_le_length (by rw [List.length_map, decDigits_len]; exact Nat.le_refl _), List.take_of_length_le (by rw [List.length_map, decDigits_len]; exact Nat.le_refl _)]
theorem tFU (fx : List Fact) (hg : gTab ∈ fx) (x : Nat) (h2 : x < 18446744073709551616) : Tri Tryd.prog 125 [.v (.int .u64 (x : Int)), .k .i64 10] [] 0 fx (Ret 0 (.v (.string ⟨(Lib.decDigits x).toArray⟩)) [] 0 []) := by
  refine Tri.of_code tok Tryd.func125 rfl rfl rfl (by decide) rfl (Nat.le_of_ble_eq_true rfl) ?_
  conv => whnf
  repeat' ((first | refine And.intro (by repeat' first | exact trivial | refine And.intro rfl ?_) (And.intro (by first | exact fun _ h => h | exact fun _ => List.mem_cons_of_mem _ | exact fun _ => List.mem_append_right _) ?_) | (refine And.intro (fun h => ?_) (fun h => ?_) <;> (try simp only [n1, n2, n3, n4, n5, n6] at h) <;> first | (exfalso; omega) | (cases h; done) | skip) | refine And.intro (by omega) ?_ | refine Exists.intro _ (And.intro (by first | exact And.intro rfl rfl | exact Pl.den (by repeat constructor) | with_reducible rfl | exact cast_succ _ | assumption | exact (Int.toNat_of_nonneg (by omega)).symm | rfl) ?_) | refine hD _ _ ?_ | refine hL _ _ ?_ | (intro h; (try simp only [n1, n2, n3, n4, n5, n6] at h); first | (exfalso; omega) | (cases h; done) | skip)) <;> (conv => whnf))
  · refine Tri.use (tSmall _ x (by omega)) [] rfl (fun _ _ _ => rfl) trivial (fun f hf => by first | exact hf | cases hf) (fun u hu => ?_)
    conv => whnf
    repeat' ((first | refine And.intro (by repeat' first | exact trivial | refine And.intro rfl ?_) (And.intro (by first | exact fun _ h => h | exact fun _ => List.mem_cons_of_mem _ | exact fun _ => List.mem_append_right _) ?_) | (refine And.intro (fun h => ?_) (fun h => ?_) <;> (try simp only [n1, n2, n3, n4, n5, n6] at h) <;> first | (exfalso; omega) | (cases h; done) | skip) | refine And.intro (by omega) ?_ | refine Exists.intro _ (And.intro (by first | exact And.intro rfl rfl | exact Pl.den (by repeat constructor) | with_reducible rfl | exact cast_succ _ | assumption | exact (Int.toNat_of_nonneg (by omega)).symm | rfl) ?_) | refine hD _ _ ?_ | refine hL _ _ ?_ | (intro h; (try simp only [n1, n2, n3, n4, n5, n6] at h); first | (exfalso; omega) | (cases h; done) | skip)) <;> (conv => whnf))
    exact Ret.noneS rfl (fun _ _ => rfl) (fun g hg => by cases hg)
  · have hn : Lib.nDigits x ≤ 20 := nDigits_le x h2
    have hn24 : Lib.nDigits x ≤ 24 := by omega
    refine Tri.use (tNumDigits _ hg x (by omega) (by omega)) [] rfl (fun _ _ _ => rfl) trivial (fun f hf => by first | exact hf | cases hf) (fun u hu => ?_)
    conv => whnf
    repeat' ((first | (refine And.intro hn24 ?_) | refine And.intro (by repeat' first | exact trivial | refine And.intro rfl ?_) (And.intro (by first | exact fun _ h => h | exact fun _ => List.mem_cons_of_mem _ | exact fun _ => List.mem_append_right _) ?_) | (refine And.intro (fun h => ?_) (fun h => ?_) <;> (try simp only [n1, n2, n3, n4, n5, n6] at h) <;> first | (exfalso; omega) | (cases h; done) | skip) | refine And.intro (by omega) ?_ | refine Exists.intro _ (And.intro (by first | exact And.intro rfl rfl | exact Pl.den (by repeat constructor) | with_reducible rfl | exact cast_succ _ | assumption | exact (Int.toNat_of_nonneg (by omega)).symm | rfl) ?_) | refine hD _ _ ?_ | refine hL _ _ ?_ | (intro h; (try simp only [n1, n2, n3, n4, n5, n6] at h); first | (exfalso; omega) | (cases h; done) | skip)) <;> (conv => whnf))
    refine Tri.use (tFmt fx x hn24 h2).one [0] rfl (args_ren rfl rfl) ⟨OSub.ren rfl rfl, trivial⟩ (fun f hf => by first | exact hf | cases hf | simp_all) (fun u hu => ?_)
    conv => whnf
    repeat' ((first | (refine Exists.intro ((Lib.decDigits x).map bv) (And.intro (fmt_take x) ?_)) | (refine Exists.intro (Lib.decDigits x) (And.intro rfl ?_)) | refine And.intro (by repeat' first | exact trivial | refine And.intro rfl ?_) (And.intro (by first | exact fun _ h => h | exact fun _ => List.mem_cons_of_mem _ | exact fun _ => List.mem_append_right _) ?_) | (refine And.intro (fun h => ?_) (fun h => ?_) <;> (try simp only [n1, n2, n3, n4, n5, n6] at h) <;> first | (exfalso; omega) | (cases h; done) | skip) | refine And.intro (by omega) ?_ | refine Exists.intro _ (And.intro (by first | exact And.intro rfl rfl | exact Pl.den (by repeat constructor) | with_reducible rfl | exact cast_succ _ | assumption | exact (Int.toNat_of_nonneg (by omega)).symm | rfl) ?_) | refine hD _ _ ?_ | refine hL _ _ ?_ | (intro h; (try simp only [n1, n2, n3, n4, n5, n6] at h); first | (exfalso; omega) | (cases h; done) | skip)) <;> (conv => whnf))
    exact Ret.noneS rfl (fun _ _ => rfl) (fun g hg => by cases hg)
end Go.Proofs.YtekgjjanikicnaaDoor.Sx

namespace Go.Proofs.YtekgjjanikicnaaDoor.Sx
open Go
set_option linter.unusedSimpArgs false
set_option linter.unusedVariables false
/-- What text.Number answers. -/
def numOf (l : List UInt8) : Option Nat :=
  match Lib.parseUintB 64 l with
  | .ok u => if Lib.decDigits u = l then some u else none
  | _ => none
theorem parseM_app (M : Nat) (c : UInt8) : ∀ (l : List UInt8) (acc v : Nat), Lib.parseUintM M acc l = .ok v → Lib.parseUintM M acc (l ++ [c]) = Lib.parseUintM M v [c]
  | [], acc, v, h => by
    simp only [Lib.parseUintM, Lib.NumEnd.ok.injEq] at h
    subst h; rfl
  | x :: r, acc, v, h => by
    rw [List.cons_append]
    unfold Lib.parseUintM at h ⊢
    split at h
    · rename_i h1
      rw [if_pos h1]
      split at h
      · cases h
      · rename_i h2
        rw [if_neg h2]
        split at h
        · cases h
        · rename_i h3
          rw [if_neg h3]
          exact parseM_app M c r _ v h
    · cases h
theorem digit_nat {d : Nat} (h : d < 10) : (UInt8.ofNat (48 + d)).toNat = 48 + d := by
  simp only [UInt8.toNat_ofNat']; omega
theorem parse_dec : ∀ (n u : Nat), u ≤ n → u < 18446744073709551616 → Lib.parseUintM (2 ^ 64 - 1) 0 (Lib.decDigits u) = .ok u := by
  intro n
  induction n with
  | zero =>
    intro u h _
    have : u = 0 := by omega
    subst this
    rw [Lib.decDigits_one (by omega)]
    simp [Lib.parseUintM]
  | succ n ih =>
    intro u h hu
    by_cases h10 : u < 10
    · rw [Lib.decDigits_one h10]
      unfold Lib.parseUintM Lib.parseUintM
      have e := digit_nat h10
      rw [if_pos (by omega), if_neg (by omega), if_neg (by omega), e]
      congr 1; omega
    · have e : Lib.decDigits u = Lib.decDigits (u / 10) ++ [UInt8.ofNat (48 + u % 10)] := by
        conv => lhs; rw [Lib.decDigits, dif_neg h10]
      have hd := digit_nat (Nat.mod_lt u (show 0 < 10 by omega))
      rw [e, parseM_app _ _ _ _ _ (ih (u / 10) (by omega) (by omega))]
      unfold Lib.parseUintM Lib.parseUintM
      rw [if_pos (by omega), if_neg (by omega), if_neg (by omega), hd]
      congr 1; omega
theorem dec_ne (u : Nat) : Lib.decDigits u ≠ [] := by
  intro h
  have h1 := Lib.decDigits_length u
  have h2 : 1 ≤ Lib.nDigits u := by
    by_cases h10 : u < 10
    · rw [Lib.nDigits_small h10]; omega
    · rw [Lib.nDigits_big h10]; omega
  rw [h] at h1
  simp at h1
  omega
theorem parse_decB {u : Nat} (hu : u < 18446744073709551616) : Lib.parseUintB 64 (Lib.decDigits u) = .ok u := by
  unfold Lib.parseUintB
  rw [if_neg (dec_ne u), parse_dec u u (Nat.le_refl _) hu]
theorem dec_inj {u v : Nat} (hu : u < 18446744073709551616) (hv : v < 18446744073709551616) (h : Lib.decDigits u = Lib.decDigits v) : u = v := by
  have h1 := parse_decB hu
  rw [h, parse_decB hv] at h1
  cases h1; rfl
theorem numOf_some {l : List UInt8} {u : Nat} (h : numOf l = some u) : u < 18446744073709551616 ∧ Lib.decDigits u = l := by
  unfold numOf at h
  split at h
  · rename_i v hv
    have := Lib.parseUintB_le hv
    split at h
    · rename_i e
      cases h
      exact ⟨by omega, e⟩
    · cases h
  · cases h
theorem numOf_dec {u : Nat} (hu : u < 18446744073709551616) : numOf (Lib.decDigits u) = some u := by
  unfold numOf
  rw [parse_decB hu]
  simp only [if_true]
theorem numOf_iff {l : List UInt8} {u : Nat} : numOf l = some u ↔ u < 18446744073709551616 ∧ Lib.decDigits u = l :=
  ⟨numOf_some, fun ⟨h1, h2⟩ => by rw [← h2]; exact numOf_dec h1⟩
theorem numOf_none {l : List UInt8} (h : ∀ u, u < 18446744073709551616 → Lib.decDigits u ≠ l) : numOf l = none := by
  cases e : numOf l with
  | none => rfl
  | some u => exact absurd (numOf_some e).2 (h u (numOf_some e).1)
/-- A 0 ahead. -/
theorem dec_zero_ahead {u n : Nat} (hu : u < 18446744073709551616) (hn : n < 18446744073709551616) : Lib.decDigits u ≠ 48 :: Lib.decDigits n := by
  intro h
  have h1 := parse_decB hu
  rw [h] at h1
  unfold Lib.parseUintB at h1
  rw [if_neg (by simp)] at h1
  unfold Lib.parseUintM at h1
  rw [if_pos (by decide), if_neg (by omega), if_neg (by simp)] at h1
  have h2 := parse_dec n n (Nat.le_refl _) hn
  have e0 : 0 * 10 + ((48 : UInt8).toNat - 48) = 0 := by decide
  rw [e0, h2] at h1
  cases h1
  have := congrArg List.length h
  simp at this
theorem numOf_ahead {n : Nat} (hn : n < 18446744073709551616) : numOf (48 :: Lib.decDigits n) = none := numOf_none fun u hu => dec_zero_ahead hu hn
/-- A 0 behind. -/
theorem dec_behind {n : Nat} (hn : 0 < n) : Lib.decDigits (n * 10) = Lib.decDigits n ++ [48] := by
  conv => lhs; rw [Lib.decDigits, dif_neg (by omega)]
  rw [Nat.mul_div_cancel _ (by omega), Nat.mul_mod_left]
  rfl
theorem numOf_behind {n : Nat} (hn : n < 18446744073709551616) : numOf (Lib.decDigits n ++ [48]) = if 0 < n ∧ n * 10 < 18446744073709551616 then some (n * 10) else none := by
  split
  · rename_i h
    rw [← dec_behind h.1]
    exact numOf_dec h.2
  · rename_i h
    by_cases h0 : n = 0
    · subst h0
      rw [Lib.decDigits_one (by omega)]
      have e := numOf_ahead (n := 0) hn
      rw [Lib.decDigits_one (by omega)] at e
      exact e
    · refine numOf_none fun u hu e => ?_
      rw [← dec_behind (by omega)] at e
      by_cases h10 : u < 10
      · have := congrArg List.length e
        rw [Lib.decDigits_length, Lib.decDigits_length, Lib.nDigits_small h10, Lib.nDigits_big (by omega)] at this
        have : 1 ≤ Lib.nDigits (n * 10 / 10) := by rw [← Lib.decDigits_length]; exact List.length_pos_iff.2 (dec_ne _)
        omega
      · have e1 : Lib.decDigits u = Lib.decDigits (u / 10) ++ [UInt8.ofNat (48 + u % 10)] := by conv => lhs; rw [Lib.decDigits, dif_neg h10]
        rw [e1, dec_behind (by omega)] at e
        obtain ⟨e2, e3⟩ := List.append_inj' e rfl
        have e4 := dec_inj (by omega) hn e2
        have e5 := congrArg UInt8.toNat (List.cons.inj e3).1
        rw [digit_nat (Nat.mod_lt u (by omega))] at e5
        have : (48 : UInt8).toNat = 48 := rfl
        omega
/-- The number that digits would be, modulo M. -/
def foldM (M : Nat) (l : List UInt8) : Nat := l.foldl (fun n c => (n * 10 + c.toNat + (M - 48)) % M) 0
theorem foldM_app (M : Nat) (l : List UInt8) (c : UInt8) : foldM M (l ++ [c]) = (foldM M l * 10 + c.toNat + (M - 48)) % M := by
  simp [foldM, List.foldl_append]
theorem foldl_lt {M : Nat} (hM : 0 < M) : ∀ (l : List UInt8) (a : Nat), a < M → l.foldl (fun n c => (n * 10 + c.toNat + (M - 48)) % M) a < M
  | [], a, h => h
  | c :: r, a, h => foldl_lt hM r _ (Nat.mod_lt _ hM)
theorem foldM_lt {M : Nat} (hM : 0 < M) (l : List UInt8) : foldM M l < M := foldl_lt hM l 0 hM
theorem foldM_dec {M : Nat} (hM : 58 ≤ M) : ∀ (n u : Nat), u ≤ n → u < M → foldM M (Lib.decDigits u) = u := by
  have step : ∀ (a d u : Nat), d < 10 → a * 10 + d = u → u < M → (a * 10 + (UInt8.ofNat (48 + d)).toNat + (M - 48)) % M = u := by
    intro a d u hd e hu
    rw [digit_nat hd, show a * 10 + (48 + d) + (M - 48) = u + M by omega, Nat.add_mod_right, Nat.mod_eq_of_lt hu]
  intro n
  induction n with
  | zero =>
    intro u h hu
    have : u = 0 := by omega
    subst this
    rw [Lib.decDigits_one (by omega)]
    exact step 0 0 0 (by omega) rfl hu
  | succ n ih =>
    intro u h hu
    by_cases h10 : u < 10
    · rw [Lib.decDigits_one h10]
      exact step 0 u u h10 (by omega) hu
    · have e : Lib.decDigits u = Lib.decDigits (u / 10) ++ [UInt8.ofNat (48 + u % 10)] := by
        conv => lhs; rw [Lib.decDigits, dif_neg h10]
      rw [e, foldM_app, ih (u / 10) (by omega) (by omega)]
      exact step (u / 10) (u % 10) u (by omega) (by omega) hu
theorem numOf_foldM {M : Nat} (hM : M = 18446744073709551616) {l : List UInt8} : numOf l = if Lib.decDigits (foldM M (l.take 20)) = l then some (foldM M (l.take 20)) else none := by
  split
  · rename_i e
    rw [numOf_iff]
    exact ⟨by rw [← hM]; exact foldM_lt (by omega) _, e⟩
  · rename_i e
    refine numOf_none fun u hu h => e ?_
    have hlen : l.length ≤ 20 := by rw [← h, Lib.decDigits_length]; exact nDigits_le u hu
    rw [List.take_of_length_le hlen]
    conv => lhs; rw [← h]
    rw [foldM_dec (by omega) u u (Nat.le_refl _) (by omega), h]
end Go.Proofs.YtekgjjanikicnaaDoor.Sx

namespace Go.Proofs.YtekgjjanikicnaaDoor.Sx
open Go Go.RowKit
set_option maxRecDepth 100000
set_option linter.unusedSimpArgs false
set_option linter.unusedVariables false
theorem tFormatUint (fx : List Fact) (hg : gTab ∈ fx) (x : Nat) (h2 : x < 18446744073709551616) : Tri Tryd.prog 92 [.v (.int .u64 (x : Int)), .k .i64 10] [] 0 fx (Ret 0 (.v (.string ⟨(Lib.decDigits x).toArray⟩)) [] 0 []) := by
  refine Tri.of_code tok Tryd.func92 rfl rfl rfl (by decide) rfl (Nat.le_of_ble_eq_true rfl) ?_
  conv => whnf
  repeat' ((first | refine And.intro (by repeat' first | exact trivial | refine And.intro rfl ?_) (And.intro (by first | exact fun _ h => h | exact fun _ => List.mem_cons_of_mem _ | exact fun _ => List.mem_append_right _) ?_) | (refine And.intro (fun h => ?_) (fun h => ?_) <;> (try simp only [n1, n2, n3, n4, n5, n6] at h) <;> first | (exfalso; omega) | (cases h; done) | skip) | refine And.intro (by omega) ?_ | refine Exists.intro _ (And.intro (by first | exact And.intro rfl rfl | exact Pl.den (by repeat constructor) | with_reducible rfl | exact cast_succ _ | assumption | exact (Int.toNat_of_nonneg (by omega)).symm | rfl) ?_) | refine hD _ _ ?_ | refine hL _ _ ?_ | (intro h; (try simp only [n1, n2, n3, n4, n5, n6] at h); first | (exfalso; omega) | (cases h; done) | skip)) <;> (conv => whnf))
  refine Tri.use ((tFU fx hg x h2).one) [] rfl (fun _ _ _ => rfl) trivial (fun f hf => by first | exact hf | cases hf) (fun u hu => ?_)
  conv => whnf
  repeat' ((first | refine And.intro (by repeat' first | exact trivial | refine And.intro rfl ?_) (And.intro (by first | exact fun _ h => h | exact fun _ => List.mem_cons_of_mem _ | exact fun _ => List.mem_append_right _) ?_) | (refine And.intro (fun h => ?_) (fun h => ?_) <;> (try simp only [n1, n2, n3, n4, n5, n6] at h) <;> first | (exfalso; omega) | (cases h; done) | skip) | refine And.intro (by omega) ?_ | refine Exists.intro _ (And.intro (by first | exact And.intro rfl rfl | exact Pl.den (by repeat constructor) | with_reducible rfl | exact cast_succ _ | assumption | exact (Int.toNat_of_nonneg (by omega)).symm | rfl) ?_) | refine hD _ _ ?_ | refine hL _ _ ?_ | (intro h; (try simp only [n1, n2, n3, n4, n5, n6] at h); first | (exfalso; omega) | (cases h; done) | skip)) <;> (conv => whnf))
  exact Ret.noneS rfl (fun _ _ => rfl) (fun g hg => by cases hg)
theorem tDigits (fx : List Fact) (hg : gTab ∈ fx) (x : Nat) (h2 : x < 18446744073709551616) : Tri Tryd.prog 46 [.v (.int .u64 (x : Int))] [] 0 fx (Ret 0 (.v (.string ⟨(Lib.decDigits x).toArray⟩)) [] 0 []) := by
  refine Tri.of_code tok Tryd.func46 rfl rfl rfl (by decide) rfl (Nat.le_of_ble_eq_true rfl) ?_
  conv => whnf
  repeat' ((first | refine And.intro (by repeat' first | exact trivial | refine And.intro rfl ?_) (And.intro (by first | exact fun _ h => h | exact fun _ => List.mem_cons_of_mem _ | exact fun _ => List.mem_append_right _) ?_) | (refine And.intro (fun h => ?_) (fun h => ?_) <;> (try simp only [n1, n2, n3, n4, n5, n6] at h) <;> first | (exfalso; omega) | (cases h; done) | skip) | refine And.intro (by omega) ?_ | refine Exists.intro _ (And.intro (by first | exact And.intro rfl rfl | exact Pl.den (by repeat constructor) | with_reducible rfl | exact cast_succ _ | assumption | exact (Int.toNat_of_nonneg (by omega)).symm | rfl) ?_) | refine hD _ _ ?_ | refine hL _ _ ?_ | (intro h; (try simp only [n1, n2, n3, n4, n5, n6] at h); first | (exfalso; omega) | (cases h; done) | skip)) <;> (conv => whnf))
  refine Tri.use ((tFormatUint fx hg x h2).one) [] rfl (fun _ _ _ => rfl) trivial (fun f hf => by first | exact hf | cases hf) (fun u hu => ?_)
  conv => whnf
  repeat' ((first | refine And.intro (by repeat' first | exact trivial | refine And.intro rfl ?_) (And.intro (by first | exact fun _ h => h | exact fun _ => List.mem_cons_of_mem _ | exact fun _ => List.mem_append_right _) ?_) | (refine And.intro (fun h => ?_) (fun h => ?_) <;> (try simp only [n1, n2, n3, n4, n5, n6] at h) <;> first | (exfalso; omega) | (cases h; done) | skip) | refine And.intro (by omega) ?_ | refine Exists.intro _ (And.intro (by first | exact And.intro rfl rfl | exact Pl.den (by repeat constructor) | with_reducible rfl | exact cast_succ _ | assumption | exact (Int.toNat_of_nonneg (by omega)).symm | rfl) ?_) | refine hD _ _ ?_ | refine hL _ _ ?_ | (intro h; (try simp only [n1, n2, n3, n4, n5, n6] at h); first | (exfalso; omega) | (cases h; done) | skip)) <;> (conv => whnf))
  exact Ret.noneS rfl (fun _ _ => rfl) (fun g hg => by cases hg)
def numS : Option Nat → SV
  | some u => .tup [.v (.int .u64 (u : Int)), .b true]
  | none => .tup [.k .u64 0, .b false]
theorem str_eq {s : ByteArray} {l : List UInt8} : (⟨l.toArray⟩ : ByteArray) = s ↔ l = s.data.toList := by
  constructor
  · intro h; rw [← h]
  · intro h; rw [h]
theorem tNumber (fx : List Fact) (hg : gTab ∈ fx) (he : gErr ∈ fx) (s : ByteArray) (hs : s.size ≤ 281474976710656) : Tri Tryd.prog 47 [.v (.string s)] [] 0 fx (Ret 0 (numS (numOf s.data.toList)) [] 0 []) := by
  have P := tParse fx he s hs
  rcases hp : Lib.parseUintB 64 s.data.toList with x | _ | _
  · have hx : x < 18446744073709551616 := by have := Lib.parseUintB_le hp; omega
    rw [hp] at P
    refine Tri.of_code tok Tryd.func47 rfl rfl rfl (by decide) rfl (Nat.le_of_ble_eq_true rfl) ?_
    conv => whnf
    repeat' ((first | refine And.intro (by repeat' first | exact trivial | refine And.intro rfl ?_) (And.intro (by first | exact fun _ h => h | exact fun _ => List.mem_cons_of_mem _ | exact fun _ => List.mem_append_right _) ?_) | (refine And.intro (fun h => ?_) (fun h => ?_) <;> (try simp only [n1, n2, n3, n4, n5, n6] at h) <;> first | (exfalso; omega) | (cases h; done) | skip) | refine And.intro (by omega) ?_ | refine Exists.intro _ (And.intro (by first | exact And.intro rfl rfl | exact Pl.den (by repeat constructor) | with_reducible rfl | exact cast_succ _ | assumption | exact (Int.toNat_of_nonneg (by omega)).symm | rfl) ?_) | refine hD _ _ ?_ | refine hL _ _ ?_ | (intro h; (try simp only [n1, n2, n3, n4, n5, n6] at h); first | (exfalso; omega) | (cases h; done) | skip)) <;> (conv => whnf))
    refine Tri.use (P) [] rfl (fun _ _ _ => rfl) trivial (fun f hf => by first | exact hf | cases hf) (fun u hu => ?_)
    conv => whnf
    repeat' ((first | refine And.intro (by repeat' first | exact trivial | refine And.intro rfl ?_) (And.intro (by first | exact fun _ h => h | exact fun _ => List.mem_cons_of_mem _ | exact fun _ => List.mem_append_right _) ?_) | (refine And.intro (fun h => ?_) (fun h => ?_) <;> (try simp only [n1, n2, n3, n4, n5, n6] at h) <;> first | (exfalso; omega) | (cases h; done) | skip) | refine And.intro (by omega) ?_ | refine Exists.intro _ (And.intro (by first | exact And.intro rfl rfl | exact Pl.den (by repeat constructor) | with_reducible rfl | exact cast_succ _ | assumption | exact (Int.toNat_of_nonneg (by omega)).symm | rfl) ?_) | refine hD _ _ ?_ | refine hL _ _ ?_ | (intro h; (try simp only [n1, n2, n3, n4, n5, n6] at h); first | (exfalso; omega) | (cases h; done) | skip)) <;> (conv => whnf))
    refine Tri.use ((tDigits fx hg x hx).one) [] rfl (fun _ _ _ => rfl) trivial (fun f hf => by first | exact hf | cases hf) (fun u hu => ?_)
    conv => whnf
    repeat' ((first | refine And.intro (by repeat' first | exact trivial | refine And.intro rfl ?_) (And.intro (by first | exact fun _ h => h | exact fun _ => List.mem_cons_of_mem _ | exact fun _ => List.mem_append_right _) ?_) | (refine And.intro (fun h => ?_) (fun h => ?_) <;> (try simp only [n1, n2, n3, n4, n5, n6] at h) <;> first | (exfalso; omega) | (cases h; done) | skip) | refine And.intro (by omega) ?_ | refine Exists.intro _ (And.intro (by first | exact And.intro rfl rfl | exact Pl.den (by repeat constructor) | with_reducible rfl | exact cast_succ _ | assumption | exact (Int.toNat_of_nonneg (by omega)).symm | rfl) ?_) | refine hD _ _ ?_ | refine hL _ _ ?_ | (intro h; (try simp only [n1, n2, n3, n4, n5, n6] at h); first | (exfalso; omega) | (cases h; done) | skip)) <;> (conv => whnf))
    · have hn : numOf s.data.toList = none := by
        unfold numOf; rw [hp]
        exact if_neg (by simpa using h)
      rw [hn]
      exact Ret.noneS rfl (fun _ _ => rfl) (fun g hg => by cases hg)
    · have hn : numOf s.data.toList = some x := by
        unfold numOf; rw [hp]
        exact if_pos (by simpa using h)
      rw [hn]
      exact Ret.noneS rfl (fun _ _ => rfl) (fun g hg => by cases hg)
  · rw [hp] at P
    have hn : numOf s.data.toList = none := by unfold numOf; rw [hp]
    rw [hn]
    refine Tri.of_code tok Tryd.func47 rfl rfl rfl (by decide) rfl (Nat.le_of_ble_eq_true rfl) ?_
    conv => whnf
    repeat' ((first | refine And.intro (by repeat' first | exact trivial | refine And.intro rfl ?_) (And.intro (by first | exact fun _ h => h | exact fun _ => List.mem_cons_of_mem _ | exact fun _ => List.mem_append_right _) ?_) | (refine And.intro (fun h => ?_) (fun h => ?_) <;> (try simp only [n1, n2, n3, n4, n5, n6] at h) <;> first | (exfalso; omega) | (cases h; done) | skip) | refine And.intro (by omega) ?_ | refine Exists.intro _ (And.intro (by first | exact And.intro rfl rfl | exact Pl.den (by repeat constructor) | with_reducible rfl | exact cast_succ _ | assumption | exact (Int.toNat_of_nonneg (by omega)).symm | rfl) ?_) | refine hD _ _ ?_ | refine hL _ _ ?_ | (intro h; (try simp only [n1, n2, n3, n4, n5, n6] at h); first | (exfalso; omega) | (cases h; done) | skip)) <;> (conv => whnf))
    refine Tri.use (P) [] rfl (fun _ _ _ => rfl) trivial (fun f hf => by first | exact hf | cases hf) (fun u hu => ?_)
    conv => whnf
    repeat' ((first | refine And.intro (by repeat' first | exact trivial | refine And.intro rfl ?_) (And.intro (by first | exact fun _ h => h | exact fun _ => List.mem_cons_of_mem _ | exact fun _ => List.mem_append_right _) ?_) | (refine And.intro (fun h => ?_) (fun h => ?_) <;> (try simp only [n1, n2, n3, n4, n5, n6] at h) <;> first | (exfalso; omega) | (cases h; done) | skip) | refine And.intro (by omega) ?_ | refine Exists.intro _ (And.intro (by first | exact And.intro rfl rfl | exact Pl.den (by repeat constructor) | with_reducible rfl | exact cast_succ _ | assumption | exact (Int.toNat_of_nonneg (by omega)).symm | rfl) ?_) | refine hD _ _ ?_ | refine hL _ _ ?_ | (intro h; (try simp only [n1, n2, n3, n4, n5, n6] at h); first | (exfalso; omega) | (cases h; done) | skip)) <;> (conv => whnf))
    exact Ret.noneS rfl (fun _ _ => rfl) (fun g hg => by cases hg)
  · rw [hp] at P
    have hn : numOf s.data.toList = none := by unfold numOf; rw [hp]
    rw [hn]
    refine Tri.of_code tok Tryd.func47 rfl rfl rfl (by decide) rfl (Nat.le_of_ble_eq_true rfl) ?_
    conv => whnf
    repeat' ((first | refine And.intro (by repeat' first | exact trivial | refine And.intro rfl ?_) (And.intro (by first | exact fun _ h => h | exact fun _ => List.mem_cons_of_mem _ | exact fun _ => List.mem_append_right _) ?_) | (refine And.intro (fun h => ?_) (fun h => ?_) <;> (try simp only [n1, n2, n3, n4, n5, n6] at h) <;> first | (exfalso; omega) | (cases h; done) | skip) | refine And.intro (by omega) ?_ | refine Exists.intro _ (And.intro (by first | exact And.intro rfl rfl | exact Pl.den (by repeat constructor) | with_reducible rfl | exact cast_succ _ | assumption | exact (Int.toNat_of_nonneg (by omega)).symm | rfl) ?_) | refine hD _ _ ?_ | refine hL _ _ ?_ | (intro h; (try simp only [n1, n2, n3, n4, n5, n6] at h); first | (exfalso; omega) | (cases h; done) | skip)) <;> (conv => whnf))
    refine Tri.use (P) [] rfl (fun _ _ _ => rfl) trivial (fun f hf => by first | exact hf | cases hf) (fun u hu => ?_)
    conv => whnf
    repeat' ((first | refine And.intro (by repeat' first | exact trivial | refine And.intro rfl ?_) (And.intro (by first | exact fun _ h => h | exact fun _ => List.mem_cons_of_mem _ | exact fun _ => List.mem_append_right _) ?_) | (refine And.intro (fun h => ?_) (fun h => ?_) <;> (try simp only [n1, n2, n3, n4, n5, n6] at h) <;> first | (exfalso; omega) | (cases h; done) | skip) | refine And.intro (by omega) ?_ | refine Exists.intro _ (And.intro (by first | exact And.intro rfl rfl | exact Pl.den (by repeat constructor) | with_reducible rfl | exact cast_succ _ | assumption | exact (Int.toNat_of_nonneg (by omega)).symm | rfl) ?_) | refine hD _ _ ?_ | refine hL _ _ ?_ | (intro h; (try simp only [n1, n2, n3, n4, n5, n6] at h); first | (exfalso; omega) | (cases h; done) | skip)) <;> (conv => whnf))
    exact Ret.noneS rfl (fun _ _ => rfl) (fun g hg => by cases hg)
end Go.Proofs.YtekgjjanikicnaaDoor.Sx

namespace Go.Proofs.YtekgjjanikicnaaDoor.Sx
open Go
set_option maxRecDepth 100000
set_option linter.unusedSimpArgs false
set_option linter.unusedVariables false

/-! ### Names -/
def nameSign (c : UInt8) : Bool := (65 ≤ c.toNat && c.toNat ≤ 90) || (97 ≤ c.toNat && c.toNat ≤ 122) || (48 ≤ c.toNat && c.toNat ≤ 57) || c.toNat == 46 || c.toNat == 45 || c.toNat == 47
def nameOk (bs : List UInt8) : Bool := bs.all nameSign && decide (1 ≤ bs.length ∧ bs.length ≤ 40)
theorem sbyte_get {s : ByteArray} {i : Nat} (hi : i < s.size) : s.data.toList[i]? = some (sbyte s i) := by
  have hl : i < s.data.toList.length := by simpa using hi
  simp only [sbyte, List.getD_eq_getElem?_getD, List.getElem?_eq_getElem hl, Option.getD_some]
theorem take_succ_of {α : Type} {l : List α} {i : Nat} {x : α} (h : l[i]? = some x) : l.take (i + 1) = l.take i ++ [x] := by
  obtain ⟨hl, rfl⟩ := List.getElem?_eq_some_iff.1 h
  exact List.take_succ_eq_append_getElem hl
theorem sbyte_take {s : ByteArray} {i : Nat} (hi : i < s.size) (p : UInt8 → Bool) (ha : (s.data.toList.take i).all p = true) (hb : p (sbyte s i) = true) : (s.data.toList.take (i + 1)).all p = true := by
  rw [take_succ_of (sbyte_get hi), List.all_append, ha]
  simp [hb]
theorem all_false {s : ByteArray} {i : Nat} (hi : i < s.size) (p : UInt8 → Bool) (hb : p (sbyte s i) = false) : s.data.toList.all p = false := by
  rw [List.all_eq_false]
  exact ⟨_, List.mem_of_getElem? (sbyte_get hi), by simp [hb]⟩
theorem tName (s : ByteArray) (hs : s.size < 9223372036854775808) : Tri Tryd.prog 51 [.v (.string s)] [] 0 [] (RetE (α := Unit) 0 (fun _ => True) (fun _ => .v (.bool (nameOk s.data.toList))) (fun _ => []) 0 (fun _ => [])) := by
  refine Tri.one ?_
  refine Tri.of_code tok Tryd.func51 rfl rfl rfl (by decide) rfl (Nat.le_of_ble_eq_true rfl) ?_
  conv => whnf
  refine loop_by tok (α := Nat) (fun i => ⟨[(0, .v (.string s)), (2, .b false), (6, .v (.int .i64 s.size)), (7, .v (.int .i64 i))], [], 0, []⟩) (fun i => i ≤ s.size ∧ (s.data.toList.take i).all nameSign = true) (fun i => s.size - i) 0 [] (by simp) ⟨rfl, ?_, trivial, fun f hf => hf⟩ ?_
  · exact ⟨fun _ _ _ => rfl, fun _ _ _ => rfl, fun _ _ _ => rfl, fun _ _ _ => rfl, trivial⟩
  · rintro i ⟨hi, ha⟩
    conv => whnf
    repeat' ((first | refine And.intro (by repeat' first | exact trivial | refine And.intro rfl ?_) (And.intro (by first | exact fun _ h => h | exact fun _ => List.mem_cons_of_mem _ | exact fun _ => List.mem_append_right _) ?_) | (refine And.intro (fun h => ?_) (fun h => ?_) <;> (try simp only [n1, n2, n3, n4, n5, n6] at h) <;> first | (exfalso; omega) | (cases h; done) | skip) | refine And.intro (by omega) ?_ | refine Exists.intro _ (And.intro (by first | exact And.intro rfl rfl | exact Pl.den (by repeat constructor) | with_reducible rfl | exact cast_succ _ | assumption | exact (Int.toNat_of_nonneg (by omega)).symm | rfl) ?_) | refine hD _ _ ?_ | refine hL _ _ ?_ | (intro h; (try simp only [n1, n2, n3, n4, n5, n6] at h); first | (exfalso; omega) | (cases h; done) | skip)) <;> (conv => whnf))
    all_goals (try simp only [Int.toNat_natCast] at *)
    all_goals first
      | (refine ⟨i + 1, [], ⟨⟨by omega, sbyte_take (by omega) _ ha ?_⟩, by omega⟩, rfl, ⟨fun _ _ _ => rfl, fun _ _ _ => rfl, fun _ _ _ => rfl, fun _ _ _ => rfl, trivial⟩, trivial, fun f hf => hf⟩
         simp only [nameSign, Bool.or_eq_true, Bool.and_eq_true, decide_eq_true_eq, beq_iff_eq]; omega)
      | (refine Ret.none rfl (fun ρ => ?_) (fun g h => h)
         have hf : nameSign (sbyte s i) = false := by
           rw [← Bool.not_eq_true]
           simp only [nameSign, Bool.or_eq_true, Bool.and_eq_true, decide_eq_true_eq, beq_iff_eq]; omega
         simp only [nameOk, all_false (by omega) _ hf]; rfl)
      | (refine Ret.none rfl (fun ρ => ?_) (fun g h => h)
         obtain rfl : i = s.size := by omega
         rw [List.take_of_length_le (by simp)] at ha
         simp only [den, nameOk, ha, Bool.true_and]
         congr 1
         rw [Bool.eq_iff_iff]
         simp; omega)

/-! ### The builder -/
theorem CellsAt.shape {w : World} {b : Nat} {cs : List Value} {T : TypeId} (h : CellsAt w b cs T) : w.shape? b = some (T, cs.length) := by
  obtain ⟨fz, h, _⟩ := h
  simp [World.shape?, h]
theorem CellsAt.frozen {w : World} {b : Nat} {cs : List Value} {T : TypeId} (h : CellsAt w b cs T) {o : Nat} (ho : o < cs.length) : w.frozen? ⟨b, o, none⟩ = false := by
  obtain ⟨fz, h, hf⟩ := h
  simp [World.frozen?, h]
  omega
theorem cellsAt_setCell {w : World} {b o : Nat} {cs : List Value} {T : TypeId} (h : CellsAt w b cs T) (v : Value) : CellsAt (w.setCell ⟨b, o, none⟩ v) b (cs.set o v) T := by
  obtain ⟨fz, h, hf⟩ := h
  refine ⟨fz, ?_, by simpa using hf⟩
  simp [World.setCell, Array.getElem?_modify, h]
theorem keeps_setCell (w : World) (b o : Nat) (v : Value) : Keeps (fun k => k = b) w (w.setCell ⟨b, o, none⟩ v) := by
  refine ⟨rfl, rfl, rfl, by simp [World.setCell], fun k hk hn => ?_⟩
  simp only [World.setCell, Array.getElem?_modify]
  rw [if_neg (Ne.symm hn)]
set_option maxHeartbeats 1000000 in
theorem cCopyFresh (b : Nat) (w : World) (h0 : w.cell? ⟨b, 0, none⟩ = some (.pointer none)) (hsh : w.shape? b = some (138, 2)) (hf0 : w.frozen? ⟨b, 0, none⟩ = false) :
    Calls Tryd.prog 141 #[.pointer (some ⟨b, 0, none⟩)] w fun e w' => e = .returned (.tuple #[]) ∧ w' = w.setCell ⟨b, 0, none⟩ (.pointer (some ⟨b, 0, none⟩)) := by
  obtain ⟨j, z, hj, hjs, _⟩ := (tyFacts (tok 138 _ rfl)).info
  go_enter Tryd.func141, Tryd.ntmps141
  go_wp2
  rw [Lib.run_to_unsafe w ⟨b, 0, none⟩ Tryd.underlying136 Tryd.underlying189 hj (by rw [hjs]; decide) hsh (Nat.zero_lt_succ 1)]
  simp only [Result.andThen]
  rw [Oper.upon_value]
  go_wp2
  rw [run_callFunc_extern Tryd.func167 (by kernel_rfl) (by kernel_rfl) (by kernel_rfl) (e := Extern.AbiNoEscape.same) (by kernel_rfl)]
  rw [Lib.run_noEscape]
  simp only [Result.andThen]
  rw [Oper.upon_value]
  go_wp2
  rw [Lib.run_from_unsafe w ⟨b, 0, none⟩ Tryd.underlying189 Tryd.underlying136 hj hsh (by kernel_rfl)]
  simp only [Result.andThen]
  rw [Oper.upon_value]
  go_wp2
  go_end0
  exact ⟨rfl, rfl⟩
set_option maxHeartbeats 1000000 in
theorem cCopyUsed (b : Nat) (w : World) (h0 : w.cell? ⟨b, 0, none⟩ = some (.pointer (some ⟨b, 0, none⟩))) :
    Calls Tryd.prog 141 #[.pointer (some ⟨b, 0, none⟩)] w fun e w' => e = .returned (.tuple #[]) ∧ w' = w := by
  obtain ⟨j, z, hj, hjs, _⟩ := (tyFacts (tok 138 _ rfl)).info
  go_enter Tryd.func141, Tryd.ntmps141
  go_wp2
  rw [Lib.run_neq_ptr_same w _ Tryd.underlying136 hj]
  go_wp2
  go_end0
  exact ⟨rfl, rfl⟩
theorem tCopyFresh : Tri Tryd.prog 141 [.p 0 0] [(0, .cells [.v (.pointer none), .v (.slice none 0 0)] 138)] 1 [] (RetE (α := Unit) 1 (fun _ => True) (fun _ => .tup []) (fun _ => [(0, .cells [.p 0 0, .v (.slice none 0 0)] 138)]) 1 (fun _ => [])) := by
  refine ⟨trivial, fun ρ F w hh hrob => .inl ⟨by simp [callFunc, Tryd.func141, Tryd.f141], ?_⟩⟩
  have ho := hh.obj ρ (Ag.refl _ _) 0 _ (List.mem_singleton.2 rfl)
  have hc := ho.2
  simp only [denL_cons, denL_nil, den] at hc
  refine (cCopyFresh (ρ 0) w (by rw [hc.cell]; rfl) hc.shape (hc.frozen (Nat.zero_lt_succ _))).mono fun e w' ⟨he, hw⟩ => ?_
  subst hw
  have hk := keeps_setCell w (ρ 0) 0 (.pointer (some ⟨ρ 0, 0, none⟩))
  have hup := hh.upd (r0 := 0) (o := .cells [.p 0 0, .v (.slice none 0 0)] 138) (hp1 := [(0, .cells [.p 0 0, .v (.slice none 0 0)] 138)]) (fun r o hm => by
    obtain ⟨rfl, rfl⟩ := Prod.mk.inj (List.mem_singleton.1 hm)
    exact .inr ⟨rfl, rfl, _, List.mem_singleton.2 rfl⟩) (hk.mono fun k hk' => (ho.1 k).2 hk') ⟨_, List.mem_singleton.2 rfl⟩ (fun ρ' hr => by
      have h2 := hh.obj ρ' hr 0 _ (List.mem_singleton.2 rfl)
      refine ⟨h2.1, ?_⟩
      have h3 := h2.2
      simp only [denL_cons, denL_nil, den] at h3
      have h3 := cellsAt_setCell (o := 0) h3 (.pointer (some ⟨ρ 0, 0, none⟩))
      have e0 : ρ' 0 = ρ 0 := hr 0 (by decide)
      rw [e0] at h3 ⊢
      simpa only [denL_cons, denL_nil, den, e0, List.set] using h3)
  refine ⟨.tup [], [(0, .cells [.p 0 0, .v (.slice none 0 0)] 138)], 1, [], ρ, F, ⟨(), trivial, Ret.mk [0] _ (Fold.refl _) rfl (fun _ _ _ => rfl) ⟨OSub.ren rfl rfl, trivial⟩ (fun _ h => h)⟩, he, fun _ _ => rfl, hup.1, Ag.refl _ _, Nat.le_refl _, hk.mono fun k hk' => ⟨0, _, List.mem_singleton.2 rfl, (ho.1 k).2 hk'⟩, fun k hk' => .inl (hup.2 k hk'), fun f hf => .inl hf⟩
theorem tCopyUsed (n : Nat) (xs : List Value) : Tri Tryd.prog 141 [.p 0 0] [(0, .cells [.p 0 0, .s 1 0 n xs.length] 138), (1, .row xs 5)] 2 [] (RetE (α := Unit) 2 (fun _ => True) (fun _ => .tup []) (fun _ => [(0, .cells [.p 0 0, .s 1 0 n xs.length] 138), (1, .row xs 5)]) 2 (fun _ => [])) := by
  refine ⟨trivial, fun ρ F w hh hrob => .inl ⟨by simp [callFunc, Tryd.func141, Tryd.f141], ?_⟩⟩
  have ho := hh.obj ρ (Ag.refl _ _) 0 _ (List.mem_cons_self ..)
  have hc := ho.2
  simp only [denL_cons, denL_nil, den] at hc
  refine (cCopyUsed (ρ 0) w (by rw [hc.cell]; rfl)).mono fun e w' ⟨he, hw⟩ => ?_
  subst hw
  refine ⟨.tup [], [(0, .cells [.p 0 0, .s 1 0 n xs.length] 138), (1, .row xs 5)], 2, [], ρ, F, ⟨(), trivial, Ret.mk [0, 1] _ (Fold.refl _) rfl (fun _ _ _ => rfl) ⟨OSub.ren rfl rfl, OSub.ren rfl rfl, trivial⟩ (fun _ h => h)⟩, he, fun _ _ => rfl, hh, Ag.refl _ _, Nat.le_refl _, Keeps.refl _ _, fun k hk' => .inl hk', fun f hf => .inl hf⟩
end Go.Proofs.YtekgjjanikicnaaDoor.Sx

namespace Go.Proofs.YtekgjjanikicnaaDoor.Sx
open Go
set_option maxRecDepth 100000
set_option linter.unusedSimpArgs false
set_option linter.unusedVariables false

/-- A builder that holds these bytes. -/
def bldA (bs : List UInt8) : AR where
  A w b F := (bs = [] ∧ (∀ k, F k ↔ k = b) ∧ CellsAt w b [.pointer none, .slice none 0 0] 138) ∨
    ∃ g xs, g ≠ b ∧ (∀ k, F k ↔ k = b ∨ k = g) ∧ CellsAt w b [.pointer (some ⟨b, 0, none⟩), .slice (some ⟨g, 0, none⟩) bs.length xs.length] 138 ∧ CellsAt w g xs 5 ∧ xs.take bs.length = bs.map bv ∧ bs ≠ [] ∧ bs.length ≤ xs.length
  loc := by
    rintro w w' b F (⟨h1, h2, h3⟩ | ⟨g, xs, h1, h2, h3, h4, h5⟩) e
    · exact .inl ⟨h1, h2, h3.loc (e b ((h2 b).2 rfl))⟩
    · exact .inr ⟨g, xs, h1, h2, h3.loc (e b ((h2 b).2 (.inl rfl))), h4.loc (e g ((h2 g).2 (.inr rfl))), h5⟩
inductive BldV (bs : List UInt8) where
  | fresh (h : bs = [])
  | used (xs : List Value) (h1 : xs.take bs.length = bs.map bv) (h2 : bs ≠ []) (h3 : bs.length ≤ xs.length)
def bldL {bs : List UInt8} : BldV bs → Nat → Nat → List (Nat × SObj)
  | .fresh _, r, _ => [(r, .cells [.v (.pointer none), .v (.slice none 0 0)] 138)]
  | .used xs _ _ _, r, m => [(r, .cells [.p r 0, .s m 0 bs.length xs.length] 138), (m, .row xs 5)]
def bld0 (bs : List UInt8) : BldV bs :=
  match bs with
  | [] => .fresh rfl
  | c :: r => .used ((c :: r).map bv) (by rw [List.take_of_length_le (by simp)]) (by simp) (by simp)
theorem told_bld (bs : List UInt8) : Told (bldA bs) (bldL (bs := bs)) 1 := by
  refine ⟨fun ρ r m w F hr hA hF => ?_⟩
  rcases hA with ⟨h1, h2, h3⟩ | ⟨g, xs, h1, h2, h3, h4, h5, h6, h7⟩
  · refine ⟨.fresh h1, ρ, fun _ => F, Ag.refl _ _, fun ρ3 ha j o hm => ?_, fun j o hm => ?_, fun j o j' o' hm hm' hne => ?_, fun k ⟨j, o, hm, hk⟩ => hk⟩
    · obtain ⟨rfl, rfl⟩ := Prod.mk.inj (List.mem_singleton.1 hm)
      rw [ha j (by omega)]; exact ⟨h2, h3⟩
    · obtain ⟨rfl, rfl⟩ := Prod.mk.inj (List.mem_singleton.1 hm)
      exact .inl rfl
    · obtain ⟨rfl, rfl⟩ := Prod.mk.inj (List.mem_singleton.1 hm)
      obtain ⟨rfl, rfl⟩ := Prod.mk.inj (List.mem_singleton.1 hm')
      exact absurd rfl hne
  · have hmem : ∀ j o, (j, o) ∈ bldL (BldV.used xs h5 h6 h7) r m → (j = r ∧ o = .cells [.p r 0, .s m 0 bs.length xs.length] 138) ∨ (j = m ∧ o = .row xs 5) := fun j o hm => by
      simpa [bldL] using hm
    refine ⟨.used xs h5 h6 h7, updR ρ m g, updR (fun _ k => k = g) r (fun k => k = ρ r), Ag.updR ρ g, fun ρ3 ha j o hm => ?_, fun j o hm => ?_, fun j o j' o' hm hm' hne k hk hk' => ?_, fun k ⟨j, o, hm, hk⟩ => ?_⟩
    · have e1 : ρ3 r = ρ r := by rw [ha r (by omega), updR_ne _ _ (by omega)]
      have e2 : ρ3 m = g := by rw [ha m (by omega), updR_same]
      rcases hmem j o hm with ⟨rfl, rfl⟩ | ⟨rfl, rfl⟩
      · rw [updR_same]
        refine ⟨fun k => by rw [e1], ?_⟩
        simp only [denL_cons, denL_nil, den, e1, e2]
        exact h3
      · rw [updR_ne _ _ (by omega), e2]
        exact ⟨fun k => Iff.rfl, h4⟩
    · rcases hmem j o hm with ⟨rfl, rfl⟩ | ⟨rfl, rfl⟩
      · exact .inl rfl
      · exact .inr ⟨Nat.le_refl _, by omega⟩
    · rcases hmem j o hm with ⟨rfl, rfl⟩ | ⟨rfl, rfl⟩ <;> rcases hmem j' o' hm' with ⟨rfl, rfl⟩ | ⟨rfl, rfl⟩
      · exact absurd rfl hne
      · rw [updR_same] at hk; rw [updR_ne _ _ (by omega)] at hk'; exact h1 (hk'.symm.trans hk)
      · rw [updR_same] at hk'; rw [updR_ne _ _ (by omega)] at hk; exact h1 (hk.symm.trans hk')
      · exact absurd rfl hne
    · rcases hmem j o hm with ⟨rfl, rfl⟩ | ⟨rfl, rfl⟩
      · rw [updR_same] at hk; exact (h2 k).2 (.inl hk)
      · rw [updR_ne _ _ (by omega)] at hk; exact (h2 k).2 (.inr hk)
theorem bld_close {bs : List UInt8} {r m n cap : Nat} {xs : List Value} (hne : r ≠ m) (hn : n = bs.length) (hc : cap = xs.length) (h1 : xs.take bs.length = bs.map bv) (h2 : bs ≠ []) (h3 : bs.length ≤ xs.length) {h : List (Nat × SObj)}
    (hL : ∀ e, e ∈ [(r, SObj.cells [.p r 0, .s m 0 n cap] 138), (m, .row xs 5)] → e ∈ h) : Fold h ((r, .abs (bldA bs)) :: restH [r, m] h) := by
  subst hn hc
  refine Fold.abs (L := [(r, SObj.cells [.p r 0, .s m 0 bs.length xs.length] 138), (m, .row xs 5)]) hL (by simp) fun ρ F m' w hh => ?_
  have o1 := hh.obj ρ (Ag.refl _ _) r _ (List.mem_cons_self ..)
  have o2 := hh.obj ρ (Ag.refl _ _) m _ (List.mem_cons_of_mem _ (List.mem_cons_self ..))
  have c1 := o1.2
  simp only [denL_cons, denL_nil, den] at c1
  refine .inr ⟨ρ m, xs, fun e => ?_, fun k => ⟨?_, ?_⟩, c1, o2.2, h1, h2, h3⟩
  · exact hh.shape.dis m _ r _ (List.mem_cons_of_mem _ (List.mem_cons_self ..)) (List.mem_cons_self ..) (Ne.symm hne) (ρ m) ((o2.1 _).2 rfl) ((o1.1 _).2 e)
  · rintro ⟨j, o, hm, hk⟩
    rcases List.mem_cons.1 hm with e | hm
    · cases e; exact .inl ((o1.1 k).1 hk)
    · obtain ⟨rfl, rfl⟩ := Prod.mk.inj (List.mem_singleton.1 hm)
      exact .inr ((o2.1 k).1 hk)
  · rintro (rfl | rfl)
    · exact ⟨r, _, List.mem_cons_self .., (o1.1 _).2 rfl⟩
    · exact ⟨m, _, List.mem_cons_of_mem _ (List.mem_cons_self ..), (o2.1 _).2 rfl⟩
theorem bld_zero {r : Nat} {h : List (Nat × SObj)} (hL : (r, SObj.cells [.v (.pointer none), .v (.slice none 0 0)] 138) ∈ h) : Fold h ((r, .abs (bldA [])) :: restH [r] h) := by
  refine Fold.abs (L := [(r, SObj.cells [.v (.pointer none), .v (.slice none 0 0)] 138)]) (fun e he => by rw [List.mem_singleton.1 he]; exact hL) (by simp) fun ρ F m' w hh => ?_
  have o1 := hh.obj ρ (Ag.refl _ _) r _ (List.mem_cons_self ..)
  have c1 := o1.2
  simp only [denL_cons, denL_nil, den] at c1
  refine .inl ⟨rfl, fun k => ⟨?_, fun hk => ⟨r, _, List.mem_cons_self .., (o1.1 k).2 hk⟩⟩, c1⟩
  rintro ⟨j, o, hm, hk⟩
  obtain ⟨rfl, rfl⟩ := Prod.mk.inj (List.mem_singleton.1 hm)
  exact (o1.1 k).1 hk
theorem tWriteByte (bs : List UInt8) (c : UInt8) (hb : bs.length + 1 ≤ 140737488355328) : Tri Tryd.prog 109 [.p 0 0, .v (bv c)] [(0, .abs (bldA bs))] 1 [] (RetE (α := Unit) 1 (fun _ => True) (fun _ => .v .nilIface) (fun _ => [(0, .abs (bldA (bs ++ [c])))]) 1 (fun _ => [])) := by
  refine Tri.told (told_bld bs) (bld0 bs) 0 (List.mem_singleton.2 rfl) fun i => Tri.one ?_
  cases i with
  | fresh h =>
    show Tri _ 109 _ [(0, .cells [.v (.pointer none), .v (.slice none 0 0)] 138)] 2 [] _
    subst h
    refine Tri.of_code tok Tryd.func109 rfl rfl rfl (by decide) rfl (Nat.le_of_ble_eq_true rfl) ?_
    conv => whnf
    repeat' ((first | refine And.intro (by repeat' first | exact trivial | refine And.intro rfl ?_) (And.intro (by first | exact fun _ h => h | exact fun _ => List.mem_cons_of_mem _ | exact fun _ => List.mem_append_right _) ?_) | (refine And.intro (fun h => ?_) (fun h => ?_) <;> (try simp only [n1, n2, n3, n4, n5, n6] at h) <;> first | (exfalso; omega) | (cases h; done) | skip) | refine And.intro (by omega) ?_ | refine Exists.intro _ (And.intro (by first | exact And.intro rfl rfl | exact Pl.den (by repeat constructor) | with_reducible rfl | exact cast_succ _ | assumption | exact (Int.toNat_of_nonneg (by omega)).symm | rfl) ?_) | refine hD _ _ ?_ | refine hL _ _ ?_ | (intro h; (try simp only [n1, n2, n3, n4, n5, n6] at h); first | (exfalso; omega) | (cases h; done) | skip)) <;> (conv => whnf))
    refine Tri.use tCopyFresh [0] rfl (args_ren rfl rfl) ⟨OSub.ren rfl rfl, trivial⟩ (fun f hf => by first | exact hf | cases hf | simp_all) (fun u hu => ?_)
    conv => whnf
    repeat' ((first | refine And.intro (by repeat' first | exact trivial | refine And.intro rfl ?_) (And.intro (by first | exact fun _ h => h | exact fun _ => List.mem_cons_of_mem _ | exact fun _ => List.mem_append_right _) ?_) | (refine And.intro (fun h => ?_) (fun h => ?_) <;> (try simp only [n1, n2, n3, n4, n5, n6] at h) <;> first | (exfalso; omega) | (cases h; done) | skip) | refine And.intro (by omega) ?_ | refine Exists.intro _ (And.intro (by first | exact And.intro rfl rfl | exact Pl.den (by repeat constructor) | with_reducible rfl | exact cast_succ _ | assumption | exact (Int.toNat_of_nonneg (by omega)).symm | rfl) ?_) | refine hD _ _ ?_ | refine hL _ _ ?_ | (intro h; (try simp only [n1, n2, n3, n4, n5, n6] at h); first | (exfalso; omega) | (cases h; done) | skip)) <;> (conv => whnf))
    rename_i m sp
    have hsp := h
    rw [Nat.mul_one] at hsp
    refine Ret.mk [0] [(0, .abs (bldA [c]))] ((bld_close (bs := [c]) (r := 0) (m := 3) (n := 1) (cap := 1 + m) (xs := [bv c] ++ sp) (by decide) rfl (by simp [hsp]; omega) (by simp) (by simp) (by simp) ?_).trans (Fold.drop (by simp))) rfl (fun _ _ _ => rfl) ⟨OSub.ren rfl rfl, trivial⟩ (fun _ h => h)
    intro e he
    simp only [List.mem_cons, List.not_mem_nil, or_false] at he ⊢
    rcases he with rfl | rfl
    · exact .inr (.inr rfl)
    · exact .inl rfl
  | used xs h1 h2 h3 =>
    show Tri _ 109 _ [(0, .cells [.p 0 0, .s 1 0 bs.length xs.length] 138), (1, .row xs 5)] 2 [] _
    refine Tri.of_code tok Tryd.func109 rfl rfl rfl (by decide) rfl (Nat.le_of_ble_eq_true rfl) ?_
    conv => whnf
    repeat' ((first | refine And.intro (by repeat' first | exact trivial | refine And.intro rfl ?_) (And.intro (by first | exact fun _ h => h | exact fun _ => List.mem_cons_of_mem _ | exact fun _ => List.mem_append_right _) ?_) | (refine And.intro (fun h => ?_) (fun h => ?_) <;> (try simp only [n1, n2, n3, n4, n5, n6] at h) <;> first | (exfalso; omega) | (cases h; done) | skip) | refine And.intro (by omega) ?_ | refine Exists.intro _ (And.intro (by first | exact And.intro rfl rfl | exact Pl.den (by repeat constructor) | with_reducible rfl | exact cast_succ _ | assumption | exact (Int.toNat_of_nonneg (by omega)).symm | rfl) ?_) | refine hD _ _ ?_ | refine hL _ _ ?_ | (intro h; (try simp only [n1, n2, n3, n4, n5, n6] at h); first | (exfalso; omega) | (cases h; done) | skip)) <;> (conv => whnf))
    refine Tri.use (tCopyUsed bs.length xs) [0,1] rfl (args_ren rfl rfl) ⟨OSub.ren rfl rfl, OSub.ren rfl rfl, trivial⟩ (fun f hf => by first | exact hf | cases hf | simp_all) (fun u hu => ?_)
    conv => whnf
    repeat' ((first | refine And.intro (by repeat' first | exact trivial | refine And.intro rfl ?_) (And.intro (by first | exact fun _ h => h | exact fun _ => List.mem_cons_of_mem _ | exact fun _ => List.mem_append_right _) ?_) | (refine And.intro (fun h => ?_) (fun h => ?_) <;> (try simp only [n1, n2, n3, n4, n5, n6] at h) <;> first | (exfalso; omega) | (cases h; done) | skip) | refine And.intro (by omega) ?_ | refine Exists.intro _ (And.intro (by first | exact And.intro rfl rfl | exact Pl.den (by repeat constructor) | with_reducible rfl | exact cast_succ _ | assumption | exact (Int.toNat_of_nonneg (by omega)).symm | rfl) ?_) | refine hD _ _ ?_ | refine hL _ _ ?_ | (intro h; (try simp only [n1, n2, n3, n4, n5, n6] at h); first | (exfalso; omega) | (cases h; done) | skip)) <;> (conv => whnf))
    refine ⟨⟨by omega, h3, by omega, by simp [bv, Value.oneCell']⟩, ?_⟩
    intro m sp hsp
    simp only [Nat.mul_one] at hsp
    conv => whnf
    repeat' ((first | refine And.intro (by repeat' first | exact trivial | refine And.intro rfl ?_) (And.intro (by first | exact fun _ h => h | exact fun _ => List.mem_cons_of_mem _ | exact fun _ => List.mem_append_right _) ?_) | (refine And.intro (fun h => ?_) (fun h => ?_) <;> (try simp only [n1, n2, n3, n4, n5, n6] at h) <;> first | (exfalso; omega) | (cases h; done) | skip) | refine And.intro (by omega) ?_ | refine Exists.intro _ (And.intro (by first | exact And.intro rfl rfl | exact Pl.den (by repeat constructor) | with_reducible rfl | exact cast_succ _ | assumption | exact (Int.toNat_of_nonneg (by omega)).symm | rfl) ?_) | refine hD _ _ ?_ | refine hL _ _ ?_ | (intro h; (try simp only [n1, n2, n3, n4, n5, n6] at h); first | (exfalso; omega) | (cases h; done) | skip)) <;> (conv => whnf))
    have hlen : (bs ++ [c]).length = bs.length + 1 := by simp
    refine Ret.mk [0] [(0, .abs (bldA (bs ++ [c])))] ((bld_close (bs := bs ++ [c]) (r := 0) (m := 3) (n := bs.length + 1) (cap := bs.length + 1 + m) (xs := xs.take (bs.length * 1) ++ [bv c] ++ sp) (by decide) hlen.symm (by simp [hsp]; omega) ?_ (by simp) (by simp; omega) ?_).trans (Fold.drop (by simp))) rfl (fun _ _ _ => rfl) ⟨OSub.ren rfl rfl, trivial⟩ (fun _ h => h)
    · rw [Nat.mul_one, h1, hlen]
      rw [List.take_left' (by simp)]
      simp
    · intro e he
      simp only [List.mem_cons, List.not_mem_nil, or_false] at he ⊢
      rcases he with rfl | rfl
      · exact .inr (.inr rfl)
      · exact .inl rfl
theorem FzOk.cells {w : World} {b : Nat} {cs : List Value} {T : TypeId} (h : CellsAt w b cs T) : w.drew.shape? b = some (T, cs.length) := by
  obtain ⟨fz, h, _⟩ := h
  have e : w.drew.heap[b]? = _ := h
  simp [World.shape?, e]
set_option maxHeartbeats 2000000 in
theorem cStringNil (b : Nat) (p : Value) (w : World) (hc : CellsAt w b [p, .slice none 0 0] 138) :
    Calls Tryd.prog 110 #[.pointer (some ⟨b, 0, none⟩)] w fun e w' => e = .returned (.string ⟨#[]⟩) ∧ w' = w.drew := by
  have c1 : w.drew.cell? ⟨b, 1, none⟩ = some (.slice none 0 0) := by
    have : w.cell? ⟨b, 1, none⟩ = some (.slice none 0 0) := by rw [hc.cell]; rfl
    exact this
  have hSD : (Builtin.unsafeSliceData_ #[61] 165 #[.slice none 0 0]).run Tryd.prog w.drew = .ok (.pointer none) w.drew := rfl
  have hUS : ∀ W, (Builtin.unsafeString_ #[165, 3] 9 #[.pointer none, .int .i64 0]).run Tryd.prog W = .ok (.string .empty) W := fun W => Lib.run_unsafeString_none W _ _ _ none
  go_enter Tryd.func110, Tryd.ntmps110
  go_wp2
  go_region
  all_goals (go_wp2; go_ret; exact ⟨rfl, rfl⟩)
set_option maxHeartbeats 2000000 in
theorem cString (b g : Nat) (p : Value) (l : List UInt8) (cs : List Value) (w : World) (hc : CellsAt w b [p, .slice (some ⟨g, 0, none⟩) l.length cs.length] 138) (hg : CellsAt w g cs 5) (hl : cs.take l.length = l.map bv) (h0 : l ≠ []) (hle : l.length ≤ cs.length) (hb : l.length ≤ 140737488355328) :
    Calls Tryd.prog 110 #[.pointer (some ⟨b, 0, none⟩)] w fun e w' => e = .returned (.string ⟨l.toArray⟩) ∧ w' = w.drew.freeze ⟨g, 0, none⟩ l.length := by
  have hl0 : l.length ≠ 0 := by simpa using h0
  have c1 : w.drew.cell? ⟨b, 1, none⟩ = some (.slice (some ⟨g, 0, none⟩) l.length cs.length) := by
    have : w.cell? ⟨b, 1, none⟩ = some (.slice (some ⟨g, 0, none⟩) l.length cs.length) := by rw [hc.cell]; rfl
    exact this
  have hSD : (Builtin.unsafeSliceData_ #[61] 165 #[.slice (some ⟨g, 0, none⟩) l.length cs.length]).run Tryd.prog w.drew = .ok (.pointer (some ⟨g, 0, none⟩)) w.drew :=
    Lib.run_unsafeSliceData_row _ _ _ _ _ _ (by omega)
  have hUS : (Builtin.unsafeString_ #[165, 3] 9 #[.pointer (some ⟨g, 0, none⟩), .int .i64 l.length]).run Tryd.prog w.drew = .ok (.string ⟨l.toArray⟩) (w.drew.freeze ⟨g, 0, none⟩ l.length) := by
    refine Lib.run_unsafeString_row w.drew 165 3 9 5 Tryd.underlying165 (by kernel_rfl) g cs.length (FzOk.cells hg) l h0 hle (by omega) ?_
    intro j x hx
    have h1 : w.cell? ⟨g, j, none⟩ = cs[j]? := hg.cell j
    have h2 : cs[j]? = some (bv x) := by
      have h3 : (cs.take l.length)[j]? = some (bv x) := by rw [hl, List.getElem?_map, hx]; rfl
      have hj := (List.getElem?_eq_some_iff.1 hx).1
      rwa [List.getElem?_take, if_pos hj] at h3
    rw [add_at, Nat.zero_add]
    show w.cell? ⟨g, j, none⟩ = _
    rw [h1, h2]; rfl
  go_enter Tryd.func110, Tryd.ntmps110
  go_wp2
  go_region
  all_goals (go_wp2; go_ret; exact ⟨rfl, rfl⟩)
theorem keeps_freeze (w : World) (b n : Nat) : Keeps (fun k => k = b) w (w.freeze ⟨b, 0, none⟩ n) := by
  refine ⟨?_, ?_, ?_, ?_, fun k hk hn => ?_⟩
  · unfold World.freeze; split <;> rfl
  · unfold World.freeze; split <;> rfl
  · unfold World.freeze; split <;> rfl
  · unfold World.freeze; split <;> simp
  · unfold World.freeze
    split
    · rfl
    · simp only [Array.getElem?_modify]
      rw [if_neg (Ne.symm hn)]
/-- A call that hands back a plain value, and lets go of all that it was given. -/
theorem Tri.gone {P : Program} {n : Nat} {args : List SV} {hp : List (Nat × SObj)} {m : Nat} {fx : List Fact} {v : Value} (hen : ∀ xs w, (callFunc n xs).run P w = .ok (.enter n xs) w)
    (h : ∀ ρ F w, HpOk ρ F hp m fx w → Calls P n (denL ρ args).toArray w fun e w' => e = .returned v ∧ Keeps (Own hp F) w w') : Tri P n args hp m fx (Ret m (.v v) [] m []) :=
  ⟨trivial, fun ρ F w hh hrob => .inl ⟨hen _ _, (h ρ F w hh).mono fun e w' ⟨he, hk⟩ => ⟨.v v, [], m, [], ρ, F, Ret.none (by simp) (fun _ => rfl) (fun _ h => h), he, fun _ _ => rfl,
    ⟨fun _ _ r o hm => (by cases hm), fun r o hm => (by cases hm), fun r o r' o' hm => (by cases hm), fun r o hm => (by cases hm), fun f hf => (by cases hf)⟩, Ag.refl _ _, Nat.le_refl _, hk, fun k ⟨r, o, hm, _⟩ => (by cases hm), fun f hf => (by cases hf)⟩⟩⟩
/-- The builder's text: its buffer is let go. -/
theorem tString (bs : List UInt8) (hb : bs.length ≤ 140737488355328) : Tri Tryd.prog 110 [.p 0 0] [(0, .abs (bldA bs))] 1 [] (Ret 1 (.v (.string ⟨bs.toArray⟩)) [] 1 []) := by
  refine Tri.gone (fun xs w => by simp [callFunc, Tryd.func110, Tryd.f110]) fun ρ F w hh => ?_
  rcases hh.obj ρ (Ag.refl _ _) 0 _ (List.mem_singleton.2 rfl) with ⟨rfl, h2, h3⟩ | ⟨g, xs, h1, h2, h3, h4, h5, h6, h7⟩
  · exact (cStringNil (ρ 0) _ w h3).mono fun e w' ⟨he, hw⟩ => ⟨he, by subst hw; exact keeps_drew _ w⟩
  · refine (cString (ρ 0) g _ bs xs w h3 h4 h5 h6 h7 hb).mono fun e w' ⟨he, hw⟩ => ⟨he, ?_⟩
    subst hw
    refine (keeps_drew _ w).trans (keeps_freeze w.drew g bs.length) fun j hj => .inl ⟨0, _, List.mem_singleton.2 rfl, ?_⟩
    exact (h2 j).2 (.inr hj)
end Go.Proofs.YtekgjjanikicnaaDoor.Sx

namespace Go.Proofs.YtekgjjanikicnaaDoor.Sx
open Go
set_option maxRecDepth 100000
set_option linter.unusedSimpArgs false
set_option linter.unusedVariables false

abbrev signsB : ByteArray := ⟨#[65, 66, 67, 68, 69, 70, 71, 72, 73, 74, 75, 76, 77, 78, 79, 80, 81, 82, 83, 84, 85, 86, 87, 88, 89, 90, 97, 98, 99, 100, 101, 102, 103, 104, 105, 106, 107, 108, 109, 110, 111, 112, 113, 114, 115, 116, 117, 118, 119, 120, 121, 122, 48, 49, 50, 51, 52, 53, 54, 55, 56, 57, 43, 47]⟩
/-- The sign for six bits. -/
def sgn6 (n : Nat) : UInt8 := sbyte signsB n
def enc : List UInt8 → List UInt8
  | a :: b :: c :: r => sgn6 (a.toNat / 4) :: sgn6 (a.toNat % 4 * 16 + b.toNat / 16) :: sgn6 (b.toNat % 16 * 4 + c.toNat / 64) :: sgn6 (c.toNat % 64) :: enc r
  | [a, b] => [sgn6 (a.toNat / 4), sgn6 (a.toNat % 4 * 16 + b.toNat / 16), sgn6 (b.toNat % 16 * 4), 61]
  | [a] => [sgn6 (a.toNat / 4), sgn6 (a.toNat % 4 * 16), 61, 61]
  | [] => []
theorem acc0 (a : UInt8) : bitz .or .u32 ((0 : Nat) : Int) (IntKind.u32.wrap (a.toNat : Int)) = (a.toNat : Int) := by
  have := bv_lt a
  rw [wrap_u32_nat, Nat.mod_eq_of_lt (by omega), or_u32 _ _ (by omega) (by omega), Nat.zero_or]
theorem shl1 (x : Nat) (hx : x < 16777216) : IntKind.u32.wrap ((x : Int) * ((256 : Nat) : Int)) = ((x * 256 : Nat) : Int) := by
  rw [mul_nat, wrap_u32_nat, Nat.mod_eq_of_lt (by omega)]
theorem acc1 (x : Nat) (b : UInt8) (hx : x < 16777216) : bitz .or .u32 (IntKind.u32.wrap ((x : Int) * ((256 : Nat) : Int))) (IntKind.u32.wrap (b.toNat : Int)) = ((x * 256 + b.toNat : Nat) : Int) := by
  have := bv_lt b
  rw [shl1 x hx, wrap_u32_nat, Nat.mod_eq_of_lt (a := b.toNat) (by omega), or_u32 _ _ (by omega) (by omega), or_256 _ _ (by omega)]
theorem sgn_at (x k : Nat) (hx : x < 4294967296) : sbyte signsB (bitz .and .u32 ((x : Int) / (k : Int)) 63).toNat = sgn6 (x / k % 64) := by
  have h1 : x / k < 4294967296 := Nat.lt_of_le_of_lt (Nat.div_le_self _ _) hx
  have h2 := and_u32 (x / k) 63 h1 (by decide)
  rw [div_nat]
  have e : ((63 : Nat) : Int) = 63 := rfl
  rw [e] at h2
  rw [h2, and63]
  rfl
structure EncS where
  A : Option Addr
  n : Nat
  cap : Nat
  rest : List UInt8
  out : List UInt8
theorem enc_length : ∀ bs, (enc bs).length = (bs.length + 2) / 3 * 4
  | a :: b :: c :: r => by simp only [enc, List.length_cons, enc_length r]; omega
  | [a, b] => by simp [enc]
  | [a] => by simp [enc]
  | [] => by simp [enc]
theorem tEncode (fx : List Fact) (A : Option Addr) (cap : Nat) (bs : List UInt8) (hb : bs.length ≤ 1000000000) (hc : bs.length ≤ cap) (hB : BytesAt fx A bs) :
    Tri Tryd.prog 80 [.v (.slice A bs.length cap)] [] 0 fx (Ret 0 (.v (.string ⟨(enc bs).toArray⟩)) [] 0 []) := by
  have hlen := enc_length bs
  refine Tri.of_code tok Tryd.func80 rfl rfl rfl (by decide) rfl (Nat.le_of_ble_eq_true rfl) ?_
  conv => whnf
  refine loop_fold tok (α := EncS) (fun s => match s with | ⟨A, n, cap, rest, out⟩ => ⟨[(0, .v (.slice A n cap)), (2, .v (.string ByteArray.empty)), (3, .p 0 0)], [(0, .abs (bldA out))], 1, fx⟩)
    (fun s => s.out ++ enc s.rest = enc bs ∧ s.n = s.rest.length ∧ s.n ≤ s.cap ∧ BytesAt fx s.A s.rest) (fun s => s.rest.length) ⟨A, bs.length, cap, bs, []⟩ [0] [(0, .abs (bldA []))] ⟨rfl, rfl, hc, hB⟩ ⟨bld_zero (List.mem_singleton.2 rfl), rfl, ?_, ⟨OSub.ren rfl rfl, trivial⟩, fun f hf => hf⟩ ?_
  · exact ⟨fun _ _ _ => rfl, fun _ _ _ => rfl, SEq.ren rfl rfl, trivial⟩
  rintro ⟨A, n, cap, rest, out⟩ ⟨h1, h2, h3, h4⟩
  simp only at h1 h2 h3 h4
  have hout := congrArg List.length h1
  rw [List.length_append, enc_length, enc_length] at hout
  rcases rest with _ | ⟨a, rest⟩
  · obtain rfl : n = 0 := h2
    conv => whnf
    repeat' ((first | refine And.intro (by repeat' first | exact trivial | refine And.intro rfl ?_) (And.intro (by first | exact fun _ h => h | exact fun _ => List.mem_cons_of_mem _ | exact fun _ => List.mem_append_right _) ?_) | (refine And.intro (fun h => ?_) (fun h => ?_) <;> (try simp only [n1, n2, n3, n4, n5, n6] at h) <;> first | (exfalso; omega) | (cases h; done) | skip) | refine And.intro (by omega) ?_ | refine Exists.intro _ (And.intro (by first | exact And.intro rfl rfl | exact Pl.den (by repeat constructor) | with_reducible rfl | exact cast_succ _ | assumption | exact (Int.toNat_of_nonneg (by omega)).symm | rfl) ?_) | refine hD _ _ ?_ | refine hL _ _ ?_ | (intro h; (try simp only [n1, n2, n3, n4, n5, n6] at h); first | (exfalso; omega) | (cases h; done) | skip)) <;> (conv => whnf))
    refine Tri.use (tString out (by simp at hout; omega)).one [0] rfl (args_ren rfl rfl) ⟨OSub.ren rfl rfl, trivial⟩ (fun f hf => by first | exact hf | cases hf | simp_all) (fun u hu => ?_)
    conv => whnf
    repeat' ((first | refine And.intro (by repeat' first | exact trivial | refine And.intro rfl ?_) (And.intro (by first | exact fun _ h => h | exact fun _ => List.mem_cons_of_mem _ | exact fun _ => List.mem_append_right _) ?_) | (refine And.intro (fun h => ?_) (fun h => ?_) <;> (try simp only [n1, n2, n3, n4, n5, n6] at h) <;> first | (exfalso; omega) | (cases h; done) | skip) | refine And.intro (by omega) ?_ | refine Exists.intro _ (And.intro (by first | exact And.intro rfl rfl | exact Pl.den (by repeat constructor) | with_reducible rfl | exact cast_succ _ | assumption | exact (Int.toNat_of_nonneg (by omega)).symm | rfl) ?_) | refine hD _ _ ?_ | refine hL _ _ ?_ | (intro h; (try simp only [n1, n2, n3, n4, n5, n6] at h); first | (exfalso; omega) | (cases h; done) | skip)) <;> (conv => whnf))
    simp only [enc, List.append_nil] at h1
    refine Ret.none rfl (fun ρ => by rw [h1]; rfl) (fun _ h => nomatch h)
  obtain ⟨ad, rfl⟩ : ∃ ad, A = some ad := by
    cases A with
    | none => exact absurd (h4.1 rfl) (by simp)
    | some ad => exact ⟨ad, rfl⟩
  have e0 := h4.2 ad rfl 0 a rfl
  rcases rest with _ | ⟨b, rest⟩
  · obtain rfl : n = 1 := h2
    conv => whnf
    repeat' ((first | refine And.intro (by repeat' first | exact trivial | refine And.intro rfl ?_) (And.intro (by first | exact fun _ h => h | exact fun _ => List.mem_cons_of_mem _ | exact fun _ => List.mem_append_right _) ?_) | (refine And.intro (fun h => ?_) (fun h => ?_) <;> (try simp only [n1, n2, n3, n4, n5, n6] at h) <;> first | (exfalso; omega) | (cases h; done) | skip) | refine And.intro (by omega) ?_ | refine Exists.intro _ (And.intro (by first | exact And.intro rfl rfl | exact Pl.den (by repeat constructor) | with_reducible rfl | exact cast_succ _ | assumption | exact (Int.toNat_of_nonneg (by omega)).symm | rfl) ?_) | refine hD _ _ ?_ | refine hL _ _ ?_ | (intro h; (try simp only [n1, n2, n3, n4, n5, n6] at h); first | (exfalso; omega) | (cases h; done) | skip)) <;> (conv => whnf))
    refine loop_rounds 4 (round_next tok ?_)
    conv => whnf
    repeat' ((first | refine And.intro (by repeat' first | exact trivial | refine And.intro rfl ?_) (And.intro (by first | exact fun _ h => h | exact fun _ => List.mem_cons_of_mem _ | exact fun _ => List.mem_append_right _) ?_) | (refine And.intro (fun h => ?_) (fun h => ?_) <;> (try simp only [n1, n2, n3, n4, n5, n6] at h) <;> first | (exfalso; omega) | (cases h; done) | skip) | refine And.intro (by omega) ?_ | refine Exists.intro _ (And.intro (by first | exact And.intro rfl rfl | exact Pl.den (by repeat constructor) | with_reducible rfl | exact cast_succ _ | assumption | exact (Int.toNat_of_nonneg (by omega)).symm | rfl) ?_) | refine hD _ _ ?_ | refine hL _ _ ?_ | (intro h; (try simp only [n1, n2, n3, n4, n5, n6] at h); first | (exfalso; omega) | (cases h; done) | skip)) <;> (conv => whnf))
    refine round_next tok ?_
    conv => whnf
    repeat' ((first | refine And.intro (by repeat' first | exact trivial | refine And.intro rfl ?_) (And.intro (by first | exact fun _ h => h | exact fun _ => List.mem_cons_of_mem _ | exact fun _ => List.mem_append_right _) ?_) | (refine And.intro (fun h => ?_) (fun h => ?_) <;> (try simp only [n1, n2, n3, n4, n5, n6] at h) <;> first | (exfalso; omega) | (cases h; done) | skip) | refine And.intro (by omega) ?_ | refine Exists.intro _ (And.intro (by first | exact And.intro rfl rfl | exact Pl.den (by repeat constructor) | with_reducible rfl | exact cast_succ _ | assumption | exact (Int.toNat_of_nonneg (by omega)).symm | rfl) ?_) | refine hD _ _ ?_ | refine hL _ _ ?_ | (intro h; (try simp only [n1, n2, n3, n4, n5, n6] at h); first | (exfalso; omega) | (cases h; done) | skip)) <;> (conv => whnf))
    refine round_next tok ?_
    conv => whnf
    repeat' ((first | refine And.intro (by repeat' first | exact trivial | refine And.intro rfl ?_) (And.intro (by first | exact fun _ h => h | exact fun _ => List.mem_cons_of_mem _ | exact fun _ => List.mem_append_right _) ?_) | (refine And.intro (fun h => ?_) (fun h => ?_) <;> (try simp only [n1, n2, n3, n4, n5, n6] at h) <;> first | (exfalso; omega) | (cases h; done) | skip) | refine And.intro (by omega) ?_ | refine Exists.intro _ (And.intro (by first | exact And.intro rfl rfl | exact Pl.den (by repeat constructor) | with_reducible rfl | exact cast_succ _ | assumption | exact (Int.toNat_of_nonneg (by omega)).symm | rfl) ?_) | refine hD _ _ ?_ | refine hL _ _ ?_ | (intro h; (try simp only [n1, n2, n3, n4, n5, n6] at h); first | (exfalso; omega) | (cases h; done) | skip)) <;> (conv => whnf))
    refine round_next tok ?_
    conv => whnf
    repeat' ((first | refine And.intro (by repeat' first | exact trivial | refine And.intro rfl ?_) (And.intro (by first | exact fun _ h => h | exact fun _ => List.mem_cons_of_mem _ | exact fun _ => List.mem_append_right _) ?_) | (refine And.intro (fun h => ?_) (fun h => ?_) <;> (try simp only [n1, n2, n3, n4, n5, n6] at h) <;> first | (exfalso; omega) | (cases h; done) | skip) | refine And.intro (by omega) ?_ | refine Exists.intro _ (And.intro (by first | exact And.intro rfl rfl | exact Pl.den (by repeat constructor) | with_reducible rfl | exact cast_succ _ | assumption | exact (Int.toNat_of_nonneg (by omega)).symm | rfl) ?_) | refine hD _ _ ?_ | refine hL _ _ ?_ | (intro h; (try simp only [n1, n2, n3, n4, n5, n6] at h); first | (exfalso; omega) | (cases h; done) | skip)) <;> (conv => whnf))
    refine loop_rounds 5 (round_next tok ?_)
    conv => whnf
    repeat' ((first | (refine Exists.intro _ (And.intro (Int.toNat_of_nonneg (and63_bound _).1).symm (And.intro (and63_lt _) ?_))) | refine And.intro (by repeat' first | exact trivial | refine And.intro rfl ?_) (And.intro (by first | exact fun _ h => h | exact fun _ => List.mem_cons_of_mem _ | exact fun _ => List.mem_append_right _) ?_) | (refine And.intro (fun h => ?_) (fun h => ?_) <;> (try simp only [n1, n2, n3, n4, n5, n6] at h) <;> first | (exfalso; omega) | (cases h; done) | skip) | refine And.intro (by omega) ?_ | refine Exists.intro _ (And.intro (by first | exact And.intro rfl rfl | exact Pl.den (by repeat constructor) | with_reducible rfl | exact cast_succ _ | assumption | exact (Int.toNat_of_nonneg (by omega)).symm | rfl) ?_) | refine hD _ _ ?_ | refine hL _ _ ?_ | (intro h; (try simp only [n1, n2, n3, n4, n5, n6] at h); first | (exfalso; omega) | (cases h; done) | skip)) <;> (conv => whnf))
    refine Tri.use (tWriteByte _ _ (by simp at hout ⊢; omega)) [0] rfl (args_ren rfl rfl) ⟨OSub.ren rfl rfl, trivial⟩ (fun f hf => by first | exact hf | cases hf | simp_all) (fun u hu => ?_)
    conv => whnf
    repeat' ((first | refine And.intro (by repeat' first | exact trivial | refine And.intro rfl ?_) (And.intro (by first | exact fun _ h => h | exact fun _ => List.mem_cons_of_mem _ | exact fun _ => List.mem_append_right _) ?_) | (refine And.intro (fun h => ?_) (fun h => ?_) <;> (try simp only [n1, n2, n3, n4, n5, n6] at h) <;> first | (exfalso; omega) | (cases h; done) | skip) | refine And.intro (by omega) ?_ | refine Exists.intro _ (And.intro (by first | exact And.intro rfl rfl | exact Pl.den (by repeat constructor) | with_reducible rfl | exact cast_succ _ | assumption | exact (Int.toNat_of_nonneg (by omega)).symm | rfl) ?_) | refine hD _ _ ?_ | refine hL _ _ ?_ | (intro h; (try simp only [n1, n2, n3, n4, n5, n6] at h); first | (exfalso; omega) | (cases h; done) | skip)) <;> (conv => whnf))
    refine round_next tok ?_
    conv => whnf
    repeat' ((first | (refine Exists.intro _ (And.intro (Int.toNat_of_nonneg (and63_bound _).1).symm (And.intro (and63_lt _) ?_))) | refine And.intro (by repeat' first | exact trivial | refine And.intro rfl ?_) (And.intro (by first | exact fun _ h => h | exact fun _ => List.mem_cons_of_mem _ | exact fun _ => List.mem_append_right _) ?_) | (refine And.intro (fun h => ?_) (fun h => ?_) <;> (try simp only [n1, n2, n3, n4, n5, n6] at h) <;> first | (exfalso; omega) | (cases h; done) | skip) | refine And.intro (by omega) ?_ | refine Exists.intro _ (And.intro (by first | exact And.intro rfl rfl | exact Pl.den (by repeat constructor) | with_reducible rfl | exact cast_succ _ | assumption | exact (Int.toNat_of_nonneg (by omega)).symm | rfl) ?_) | refine hD _ _ ?_ | refine hL _ _ ?_ | (intro h; (try simp only [n1, n2, n3, n4, n5, n6] at h); first | (exfalso; omega) | (cases h; done) | skip)) <;> (conv => whnf))
    refine Tri.use (tWriteByte _ _ (by simp at hout ⊢; omega)) [0] rfl (args_ren rfl rfl) ⟨OSub.ren rfl rfl, trivial⟩ (fun f hf => by first | exact hf | cases hf | simp_all) (fun u hu => ?_)
    conv => whnf
    repeat' ((first | refine And.intro (by repeat' first | exact trivial | refine And.intro rfl ?_) (And.intro (by first | exact fun _ h => h | exact fun _ => List.mem_cons_of_mem _ | exact fun _ => List.mem_append_right _) ?_) | (refine And.intro (fun h => ?_) (fun h => ?_) <;> (try simp only [n1, n2, n3, n4, n5, n6] at h) <;> first | (exfalso; omega) | (cases h; done) | skip) | refine And.intro (by omega) ?_ | refine Exists.intro _ (And.intro (by first | exact And.intro rfl rfl | exact Pl.den (by repeat constructor) | with_reducible rfl | exact cast_succ _ | assumption | exact (Int.toNat_of_nonneg (by omega)).symm | rfl) ?_) | refine hD _ _ ?_ | refine hL _ _ ?_ | (intro h; (try simp only [n1, n2, n3, n4, n5, n6] at h); first | (exfalso; omega) | (cases h; done) | skip)) <;> (conv => whnf))
    refine round_next tok ?_
    conv => whnf
    repeat' ((first | (refine Exists.intro _ (And.intro (Int.toNat_of_nonneg (and63_bound _).1).symm (And.intro (and63_lt _) ?_))) | refine And.intro (by repeat' first | exact trivial | refine And.intro rfl ?_) (And.intro (by first | exact fun _ h => h | exact fun _ => List.mem_cons_of_mem _ | exact fun _ => List.mem_append_right _) ?_) | (refine And.intro (fun h => ?_) (fun h => ?_) <;> (try simp only [n1, n2, n3, n4, n5, n6] at h) <;> first | (exfalso; omega) | (cases h; done) | skip) | refine And.intro (by omega) ?_ | refine Exists.intro _ (And.intro (by first | exact And.intro rfl rfl | exact Pl.den (by repeat constructor) | with_reducible rfl | exact cast_succ _ | assumption | exact (Int.toNat_of_nonneg (by omega)).symm | rfl) ?_) | refine hD _ _ ?_ | refine hL _ _ ?_ | (intro h; (try simp only [n1, n2, n3, n4, n5, n6] at h); first | (exfalso; omega) | (cases h; done) | skip)) <;> (conv => whnf))
    refine Tri.use (tWriteByte _ 61 (by simp at hout ⊢; omega)) [0] rfl (args_ren rfl rfl) ⟨OSub.ren rfl rfl, trivial⟩ (fun f hf => by first | exact hf | cases hf | simp_all) (fun u hu => ?_)
    conv => whnf
    repeat' ((first | refine And.intro (by repeat' first | exact trivial | refine And.intro rfl ?_) (And.intro (by first | exact fun _ h => h | exact fun _ => List.mem_cons_of_mem _ | exact fun _ => List.mem_append_right _) ?_) | (refine And.intro (fun h => ?_) (fun h => ?_) <;> (try simp only [n1, n2, n3, n4, n5, n6] at h) <;> first | (exfalso; omega) | (cases h; done) | skip) | refine And.intro (by omega) ?_ | refine Exists.intro _ (And.intro (by first | exact And.intro rfl rfl | exact Pl.den (by repeat constructor) | with_reducible rfl | exact cast_succ _ | assumption | exact (Int.toNat_of_nonneg (by omega)).symm | rfl) ?_) | refine hD _ _ ?_ | refine hL _ _ ?_ | (intro h; (try simp only [n1, n2, n3, n4, n5, n6] at h); first | (exfalso; omega) | (cases h; done) | skip)) <;> (conv => whnf))
    refine round_next tok ?_
    conv => whnf
    repeat' ((first | (refine Exists.intro _ (And.intro (Int.toNat_of_nonneg (and63_bound _).1).symm (And.intro (and63_lt _) ?_))) | refine And.intro (by repeat' first | exact trivial | refine And.intro rfl ?_) (And.intro (by first | exact fun _ h => h | exact fun _ => List.mem_cons_of_mem _ | exact fun _ => List.mem_append_right _) ?_) | (refine And.intro (fun h => ?_) (fun h => ?_) <;> (try simp only [n1, n2, n3, n4, n5, n6] at h) <;> first | (exfalso; omega) | (cases h; done) | skip) | refine And.intro (by omega) ?_ | refine Exists.intro _ (And.intro (by first | exact And.intro rfl rfl | exact Pl.den (by repeat constructor) | with_reducible rfl | exact cast_succ _ | assumption | exact (Int.toNat_of_nonneg (by omega)).symm | rfl) ?_) | refine hD _ _ ?_ | refine hL _ _ ?_ | (intro h; (try simp only [n1, n2, n3, n4, n5, n6] at h); first | (exfalso; omega) | (cases h; done) | skip)) <;> (conv => whnf))
    refine Tri.use (tWriteByte _ 61 (by simp at hout ⊢; omega)) [0] rfl (args_ren rfl rfl) ⟨OSub.ren rfl rfl, trivial⟩ (fun f hf => by first | exact hf | cases hf | simp_all) (fun u hu => ?_)
    conv => whnf
    repeat' ((first | refine And.intro (by repeat' first | exact trivial | refine And.intro rfl ?_) (And.intro (by first | exact fun _ h => h | exact fun _ => List.mem_cons_of_mem _ | exact fun _ => List.mem_append_right _) ?_) | (refine And.intro (fun h => ?_) (fun h => ?_) <;> (try simp only [n1, n2, n3, n4, n5, n6] at h) <;> first | (exfalso; omega) | (cases h; done) | skip) | refine And.intro (by omega) ?_ | refine Exists.intro _ (And.intro (by first | exact And.intro rfl rfl | exact Pl.den (by repeat constructor) | with_reducible rfl | exact cast_succ _ | assumption | exact (Int.toNat_of_nonneg (by omega)).symm | rfl) ?_) | refine hD _ _ ?_ | refine hL _ _ ?_ | (intro h; (try simp only [n1, n2, n3, n4, n5, n6] at h); first | (exfalso; omega) | (cases h; done) | skip)) <;> (conv => whnf))
    refine round_next tok ?_
    conv => whnf
    repeat' ((first | refine And.intro (by repeat' first | exact trivial | refine And.intro rfl ?_) (And.intro (by first | exact fun _ h => h | exact fun _ => List.mem_cons_of_mem _ | exact fun _ => List.mem_append_right _) ?_) | (refine And.intro (fun h => ?_) (fun h => ?_) <;> (try simp only [n1, n2, n3, n4, n5, n6] at h) <;> first | (exfalso; omega) | (cases h; done) | skip) | refine And.intro (by omega) ?_ | refine Exists.intro _ (And.intro (by first | exact And.intro rfl rfl | exact Pl.den (by repeat constructor) | with_reducible rfl | exact cast_succ _ | assumption | exact (Int.toNat_of_nonneg (by omega)).symm | rfl) ?_) | refine hD _ _ ?_ | refine hL _ _ ?_ | (intro h; (try simp only [n1, n2, n3, n4, n5, n6] at h); first | (exfalso; omega) | (cases h; done) | skip)) <;> (conv => whnf))
    have := bv_lt a
    refine ⟨⟨some (if cap = 1 then ad else ad.add (1 * 1)), 0, cap - 1, [], _⟩, [0], _, ⟨⟨?_, rfl, Nat.zero_le _, ⟨(fun h => nomatch h), fun _ _ j y hj => (by simp at hj)⟩⟩, by simp⟩, Fold.refl _, rfl, ⟨SEq.eq (by rfl), SEq.eq rfl, SEq.ren rfl rfl, trivial⟩, ⟨OSub.ren rfl rfl, trivial⟩, fun f hf => hf⟩
    dsimp only
    rw [acc0, shl1 _ (by omega), shl1 _ (by omega), sgn_at _ _ (by omega), sgn_at _ _ (by omega), ← h1]
    have k1 : a.toNat * 256 * 256 / 262144 % 64 = a.toNat / 4 := by omega
    have k2 : a.toNat * 256 * 256 / 4096 % 64 = a.toNat % 4 * 16 := by omega
    rw [k1, k2]
    simp [enc]
  have e1 := h4.2 ad rfl 1 b rfl
  rcases rest with _ | ⟨c, rest⟩
  · obtain rfl : n = 2 := h2
    conv => whnf
    repeat' ((first | refine And.intro (by repeat' first | exact trivial | refine And.intro rfl ?_) (And.intro (by first | exact fun _ h => h | exact fun _ => List.mem_cons_of_mem _ | exact fun _ => List.mem_append_right _) ?_) | (refine And.intro (fun h => ?_) (fun h => ?_) <;> (try simp only [n1, n2, n3, n4, n5, n6] at h) <;> first | (exfalso; omega) | (cases h; done) | skip) | refine And.intro (by omega) ?_ | refine Exists.intro _ (And.intro (by first | exact And.intro rfl rfl | exact Pl.den (by repeat constructor) | with_reducible rfl | exact cast_succ _ | assumption | exact (Int.toNat_of_nonneg (by omega)).symm | rfl) ?_) | refine hD _ _ ?_ | refine hL _ _ ?_ | (intro h; (try simp only [n1, n2, n3, n4, n5, n6] at h); first | (exfalso; omega) | (cases h; done) | skip)) <;> (conv => whnf))
    refine loop_rounds 4 (round_next tok ?_)
    conv => whnf
    repeat' ((first | refine And.intro (by repeat' first | exact trivial | refine And.intro rfl ?_) (And.intro (by first | exact fun _ h => h | exact fun _ => List.mem_cons_of_mem _ | exact fun _ => List.mem_append_right _) ?_) | (refine And.intro (fun h => ?_) (fun h => ?_) <;> (try simp only [n1, n2, n3, n4, n5, n6] at h) <;> first | (exfalso; omega) | (cases h; done) | skip) | refine And.intro (by omega) ?_ | refine Exists.intro _ (And.intro (by first | exact And.intro rfl rfl | exact Pl.den (by repeat constructor) | with_reducible rfl | exact cast_succ _ | assumption | exact (Int.toNat_of_nonneg (by omega)).symm | rfl) ?_) | refine hD _ _ ?_ | refine hL _ _ ?_ | (intro h; (try simp only [n1, n2, n3, n4, n5, n6] at h); first | (exfalso; omega) | (cases h; done) | skip)) <;> (conv => whnf))
    refine round_next tok ?_
    conv => whnf
    repeat' ((first | refine And.intro (by repeat' first | exact trivial | refine And.intro rfl ?_) (And.intro (by first | exact fun _ h => h | exact fun _ => List.mem_cons_of_mem _ | exact fun _ => List.mem_append_right _) ?_) | (refine And.intro (fun h => ?_) (fun h => ?_) <;> (try simp only [n1, n2, n3, n4, n5, n6] at h) <;> first | (exfalso; omega) | (cases h; done) | skip) | refine And.intro (by omega) ?_ | refine Exists.intro _ (And.intro (by first | exact And.intro rfl rfl | exact Pl.den (by repeat constructor) | with_reducible rfl | exact cast_succ _ | assumption | exact (Int.toNat_of_nonneg (by omega)).symm | rfl) ?_) | refine hD _ _ ?_ | refine hL _ _ ?_ | (intro h; (try simp only [n1, n2, n3, n4, n5, n6] at h); first | (exfalso; omega) | (cases h; done) | skip)) <;> (conv => whnf))
    refine round_next tok ?_
    conv => whnf
    repeat' ((first | refine And.intro (by repeat' first | exact trivial | refine And.intro rfl ?_) (And.intro (by first | exact fun _ h => h | exact fun _ => List.mem_cons_of_mem _ | exact fun _ => List.mem_append_right _) ?_) | (refine And.intro (fun h => ?_) (fun h => ?_) <;> (try simp only [n1, n2, n3, n4, n5, n6] at h) <;> first | (exfalso; omega) | (cases h; done) | skip) | refine And.intro (by omega) ?_ | refine Exists.intro _ (And.intro (by first | exact And.intro rfl rfl | exact Pl.den (by repeat constructor) | with_reducible rfl | exact cast_succ _ | assumption | exact (Int.toNat_of_nonneg (by omega)).symm | rfl) ?_) | refine hD _ _ ?_ | refine hL _ _ ?_ | (intro h; (try simp only [n1, n2, n3, n4, n5, n6] at h); first | (exfalso; omega) | (cases h; done) | skip)) <;> (conv => whnf))
    refine round_next tok ?_
    conv => whnf
    repeat' ((first | refine And.intro (by repeat' first | exact trivial | refine And.intro rfl ?_) (And.intro (by first | exact fun _ h => h | exact fun _ => List.mem_cons_of_mem _ | exact fun _ => List.mem_append_right _) ?_) | (refine And.intro (fun h => ?_) (fun h => ?_) <;> (try simp only [n1, n2, n3, n4, n5, n6] at h) <;> first | (exfalso; omega) | (cases h; done) | skip) | refine And.intro (by omega) ?_ | refine Exists.intro _ (And.intro (by first | exact And.intro rfl rfl | exact Pl.den (by repeat constructor) | with_reducible rfl | exact cast_succ _ | assumption | exact (Int.toNat_of_nonneg (by omega)).symm | rfl) ?_) | refine hD _ _ ?_ | refine hL _ _ ?_ | (intro h; (try simp only [n1, n2, n3, n4, n5, n6] at h); first | (exfalso; omega) | (cases h; done) | skip)) <;> (conv => whnf))
    refine loop_rounds 5 (round_next tok ?_)
    conv => whnf
    repeat' ((first | (refine Exists.intro _ (And.intro (Int.toNat_of_nonneg (and63_bound _).1).symm (And.intro (and63_lt _) ?_))) | refine And.intro (by repeat' first | exact trivial | refine And.intro rfl ?_) (And.intro (by first | exact fun _ h => h | exact fun _ => List.mem_cons_of_mem _ | exact fun _ => List.mem_append_right _) ?_) | (refine And.intro (fun h => ?_) (fun h => ?_) <;> (try simp only [n1, n2, n3, n4, n5, n6] at h) <;> first | (exfalso; omega) | (cases h; done) | skip) | refine And.intro (by omega) ?_ | refine Exists.intro _ (And.intro (by first | exact And.intro rfl rfl | exact Pl.den (by repeat constructor) | with_reducible rfl | exact cast_succ _ | assumption | exact (Int.toNat_of_nonneg (by omega)).symm | rfl) ?_) | refine hD _ _ ?_ | refine hL _ _ ?_ | (intro h; (try simp only [n1, n2, n3, n4, n5, n6] at h); first | (exfalso; omega) | (cases h; done) | skip)) <;> (conv => whnf))
    refine Tri.use (tWriteByte _ _ (by simp at hout ⊢; omega)) [0] rfl (args_ren rfl rfl) ⟨OSub.ren rfl rfl, trivial⟩ (fun f hf => by first | exact hf | cases hf | simp_all) (fun u hu => ?_)
    conv => whnf
    repeat' ((first | refine And.intro (by repeat' first | exact trivial | refine And.intro rfl ?_) (And.intro (by first | exact fun _ h => h | exact fun _ => List.mem_cons_of_mem _ | exact fun _ => List.mem_append_right _) ?_) | (refine And.intro (fun h => ?_) (fun h => ?_) <;> (try simp only [n1, n2, n3, n4, n5, n6] at h) <;> first | (exfalso; omega) | (cases h; done) | skip) | refine And.intro (by omega) ?_ | refine Exists.intro _ (And.intro (by first | exact And.intro rfl rfl | exact Pl.den (by repeat constructor) | with_reducible rfl | exact cast_succ _ | assumption | exact (Int.toNat_of_nonneg (by omega)).symm | rfl) ?_) | refine hD _ _ ?_ | refine hL _ _ ?_ | (intro h; (try simp only [n1, n2, n3, n4, n5, n6] at h); first | (exfalso; omega) | (cases h; done) | skip)) <;> (conv => whnf))
    refine round_next tok ?_
    conv => whnf
    repeat' ((first | (refine Exists.intro _ (And.intro (Int.toNat_of_nonneg (and63_bound _).1).symm (And.intro (and63_lt _) ?_))) | refine And.intro (by repeat' first | exact trivial | refine And.intro rfl ?_) (And.intro (by first | exact fun _ h => h | exact fun _ => List.mem_cons_of_mem _ | exact fun _ => List.mem_append_right _) ?_) | (refine And.intro (fun h => ?_) (fun h => ?_) <;> (try simp only [n1, n2, n3, n4, n5, n6] at h) <;> first | (exfalso; omega) | (cases h; done) | skip) | refine And.intro (by omega) ?_ | refine Exists.intro _ (And.intro (by first | exact And.intro rfl rfl | exact Pl.den (by repeat constructor) | with_reducible rfl | exact cast_succ _ | assumption | exact (Int.toNat_of_nonneg (by omega)).symm | rfl) ?_) | refine hD _ _ ?_ | refine hL _ _ ?_ | (intro h; (try simp only [n1, n2, n3, n4, n5, n6] at h); first | (exfalso; omega) | (cases h; done) | skip)) <;> (conv => whnf))
    refine Tri.use (tWriteByte _ _ (by simp at hout ⊢; omega)) [0] rfl (args_ren rfl rfl) ⟨OSub.ren rfl rfl, trivial⟩ (fun f hf => by first | exact hf | cases hf | simp_all) (fun u hu => ?_)
    conv => whnf
    repeat' ((first | refine And.intro (by repeat' first | exact trivial | refine And.intro rfl ?_) (And.intro (by first | exact fun _ h => h | exact fun _ => List.mem_cons_of_mem _ | exact fun _ => List.mem_append_right _) ?_) | (refine And.intro (fun h => ?_) (fun h => ?_) <;> (try simp only [n1, n2, n3, n4, n5, n6] at h) <;> first | (exfalso; omega) | (cases h; done) | skip) | refine And.intro (by omega) ?_ | refine Exists.intro _ (And.intro (by first | exact And.intro rfl rfl | exact Pl.den (by repeat constructor) | with_reducible rfl | exact cast_succ _ | assumption | exact (Int.toNat_of_nonneg (by omega)).symm | rfl) ?_) | refine hD _ _ ?_ | refine hL _ _ ?_ | (intro h; (try simp only [n1, n2, n3, n4, n5, n6] at h); first | (exfalso; omega) | (cases h; done) | skip)) <;> (conv => whnf))
    refine round_next tok ?_
    conv => whnf
    repeat' ((first | (refine Exists.intro _ (And.intro (Int.toNat_of_nonneg (and63_bound _).1).symm (And.intro (and63_lt _) ?_))) | refine And.intro (by repeat' first | exact trivial | refine And.intro rfl ?_) (And.intro (by first | exact fun _ h => h | exact fun _ => List.mem_cons_of_mem _ | exact fun _ => List.mem_append_right _) ?_) | (refine And.intro (fun h => ?_) (fun h => ?_) <;> (try simp only [n1, n2, n3, n4, n5, n6] at h) <;> first | (exfalso; omega) | (cases h; done) | skip) | refine And.intro (by omega) ?_ | refine Exists.intro _ (And.intro (by first | exact And.intro rfl rfl | exact Pl.den (by repeat constructor) | with_reducible rfl | exact cast_succ _ | assumption | exact (Int.toNat_of_nonneg (by omega)).symm | rfl) ?_) | refine hD _ _ ?_ | refine hL _ _ ?_ | (intro h; (try simp only [n1, n2, n3, n4, n5, n6] at h); first | (exfalso; omega) | (cases h; done) | skip)) <;> (conv => whnf))
    refine Tri.use (tWriteByte _ _ (by simp at hout ⊢; omega)) [0] rfl (args_ren rfl rfl) ⟨OSub.ren rfl rfl, trivial⟩ (fun f hf => by first | exact hf | cases hf | simp_all) (fun u hu => ?_)
    conv => whnf
    repeat' ((first | refine And.intro (by repeat' first | exact trivial | refine And.intro rfl ?_) (And.intro (by first | exact fun _ h => h | exact fun _ => List.mem_cons_of_mem _ | exact fun _ => List.mem_append_right _) ?_) | (refine And.intro (fun h => ?_) (fun h => ?_) <;> (try simp only [n1, n2, n3, n4, n5, n6] at h) <;> first | (exfalso; omega) | (cases h; done) | skip) | refine And.intro (by omega) ?_ | refine Exists.intro _ (And.intro (by first | exact And.intro rfl rfl | exact Pl.den (by repeat constructor) | with_reducible rfl | exact cast_succ _ | assumption | exact (Int.toNat_of_nonneg (by omega)).symm | rfl) ?_) | refine hD _ _ ?_ | refine hL _ _ ?_ | (intro h; (try simp only [n1, n2, n3, n4, n5, n6] at h); first | (exfalso; omega) | (cases h; done) | skip)) <;> (conv => whnf))
    refine round_next tok ?_
    conv => whnf
    repeat' ((first | (refine Exists.intro _ (And.intro (Int.toNat_of_nonneg (and63_bound _).1).symm (And.intro (and63_lt _) ?_))) | refine And.intro (by repeat' first | exact trivial | refine And.intro rfl ?_) (And.intro (by first | exact fun _ h => h | exact fun _ => List.mem_cons_of_mem _ | exact fun _ => List.mem_append_right _) ?_) | (refine And.intro (fun h => ?_) (fun h => ?_) <;> (try simp only [n1, n2, n3, n4, n5, n6] at h) <;> first | (exfalso; omega) | (cases h; done) | skip) | refine And.intro (by omega) ?_ | refine Exists.intro _ (And.intro (by first | exact And.intro rfl rfl | exact Pl.den (by repeat constructor) | with_reducible rfl | exact cast_succ _ | assumption | exact (Int.toNat_of_nonneg (by omega)).symm | rfl) ?_) | refine hD _ _ ?_ | refine hL _ _ ?_ | (intro h; (try simp only [n1, n2, n3, n4, n5, n6] at h); first | (exfalso; omega) | (cases h; done) | skip)) <;> (conv => whnf))
    refine Tri.use (tWriteByte _ 61 (by simp at hout ⊢; omega)) [0] rfl (args_ren rfl rfl) ⟨OSub.ren rfl rfl, trivial⟩ (fun f hf => by first | exact hf | cases hf | simp_all) (fun u hu => ?_)
    conv => whnf
    repeat' ((first | refine And.intro (by repeat' first | exact trivial | refine And.intro rfl ?_) (And.intro (by first | exact fun _ h => h | exact fun _ => List.mem_cons_of_mem _ | exact fun _ => List.mem_append_right _) ?_) | (refine And.intro (fun h => ?_) (fun h => ?_) <;> (try simp only [n1, n2, n3, n4, n5, n6] at h) <;> first | (exfalso; omega) | (cases h; done) | skip) | refine And.intro (by omega) ?_ | refine Exists.intro _ (And.intro (by first | exact And.intro rfl rfl | exact Pl.den (by repeat constructor) | with_reducible rfl | exact cast_succ _ | assumption | exact (Int.toNat_of_nonneg (by omega)).symm | rfl) ?_) | refine hD _ _ ?_ | refine hL _ _ ?_ | (intro h; (try simp only [n1, n2, n3, n4, n5, n6] at h); first | (exfalso; omega) | (cases h; done) | skip)) <;> (conv => whnf))
    refine round_next tok ?_
    conv => whnf
    repeat' ((first | refine And.intro (by repeat' first | exact trivial | refine And.intro rfl ?_) (And.intro (by first | exact fun _ h => h | exact fun _ => List.mem_cons_of_mem _ | exact fun _ => List.mem_append_right _) ?_) | (refine And.intro (fun h => ?_) (fun h => ?_) <;> (try simp only [n1, n2, n3, n4, n5, n6] at h) <;> first | (exfalso; omega) | (cases h; done) | skip) | refine And.intro (by omega) ?_ | refine Exists.intro _ (And.intro (by first | exact And.intro rfl rfl | exact Pl.den (by repeat constructor) | with_reducible rfl | exact cast_succ _ | assumption | exact (Int.toNat_of_nonneg (by omega)).symm | rfl) ?_) | refine hD _ _ ?_ | refine hL _ _ ?_ | (intro h; (try simp only [n1, n2, n3, n4, n5, n6] at h); first | (exfalso; omega) | (cases h; done) | skip)) <;> (conv => whnf))
    have := bv_lt a
    have := bv_lt b
    refine ⟨⟨some (if cap = 2 then ad else ad.add (2 * 1)), 0, cap - 2, [], _⟩, [0], _, ⟨⟨?_, rfl, Nat.zero_le _, ⟨(fun h => nomatch h), fun _ _ j y hj => (by simp at hj)⟩⟩, by simp⟩, Fold.refl _, rfl, ⟨SEq.eq (by rfl), SEq.eq rfl, SEq.ren rfl rfl, trivial⟩, ⟨OSub.ren rfl rfl, trivial⟩, fun f hf => hf⟩
    dsimp only
    rw [acc0, acc1 _ _ (by omega), shl1 _ (by omega), sgn_at _ _ (by omega), sgn_at _ _ (by omega), sgn_at _ _ (by omega), ← h1]
    have k1 : (a.toNat * 256 + b.toNat) * 256 / 262144 % 64 = a.toNat / 4 := by omega
    have k2 : (a.toNat * 256 + b.toNat) * 256 / 4096 % 64 = a.toNat % 4 * 16 + b.toNat / 16 := by omega
    have k3 : (a.toNat * 256 + b.toNat) * 256 / 64 % 64 = b.toNat % 16 * 4 := by omega
    rw [k1, k2, k3]
    simp [enc]
  have e2 := h4.2 ad rfl 2 c rfl
  obtain rfl : n = rest.length + 3 := h2
  conv => whnf
  repeat' ((first | refine And.intro (by repeat' first | exact trivial | refine And.intro rfl ?_) (And.intro (by first | exact fun _ h => h | exact fun _ => List.mem_cons_of_mem _ | exact fun _ => List.mem_append_right _) ?_) | (refine And.intro (fun h => ?_) (fun h => ?_) <;> (try simp only [n1, n2, n3, n4, n5, n6] at h) <;> first | (exfalso; omega) | (cases h; done) | skip) | refine And.intro (by omega) ?_ | refine Exists.intro _ (And.intro (by first | exact And.intro rfl rfl | exact Pl.den (by repeat constructor) | with_reducible rfl | exact cast_succ _ | assumption | exact (Int.toNat_of_nonneg (by omega)).symm | rfl) ?_) | refine hD _ _ ?_ | refine hL _ _ ?_ | (intro h; (try simp only [n1, n2, n3, n4, n5, n6] at h); first | (exfalso; omega) | (cases h; done) | skip)) <;> (conv => whnf))
  refine loop_rounds 4 (round_next tok ?_)
  conv => whnf
  repeat' ((first | refine And.intro (by repeat' first | exact trivial | refine And.intro rfl ?_) (And.intro (by first | exact fun _ h => h | exact fun _ => List.mem_cons_of_mem _ | exact fun _ => List.mem_append_right _) ?_) | (refine And.intro (fun h => ?_) (fun h => ?_) <;> (try simp only [n1, n2, n3, n4, n5, n6] at h) <;> first | (exfalso; omega) | (cases h; done) | skip) | refine And.intro (by omega) ?_ | refine Exists.intro _ (And.intro (by first | exact And.intro rfl rfl | exact Pl.den (by repeat constructor) | with_reducible rfl | exact cast_succ _ | assumption | exact (Int.toNat_of_nonneg (by omega)).symm | rfl) ?_) | refine hD _ _ ?_ | refine hL _ _ ?_ | (intro h; (try simp only [n1, n2, n3, n4, n5, n6] at h); first | (exfalso; omega) | (cases h; done) | skip)) <;> (conv => whnf))
  refine round_next tok ?_
  conv => whnf
  repeat' ((first | refine And.intro (by repeat' first | exact trivial | refine And.intro rfl ?_) (And.intro (by first | exact fun _ h => h | exact fun _ => List.mem_cons_of_mem _ | exact fun _ => List.mem_append_right _) ?_) | (refine And.intro (fun h => ?_) (fun h => ?_) <;> (try simp only [n1, n2, n3, n4, n5, n6] at h) <;> first | (exfalso; omega) | (cases h; done) | skip) | refine And.intro (by omega) ?_ | refine Exists.intro _ (And.intro (by first | exact And.intro rfl rfl | exact Pl.den (by repeat constructor) | with_reducible rfl | exact cast_succ _ | assumption | exact (Int.toNat_of_nonneg (by omega)).symm | rfl) ?_) | refine hD _ _ ?_ | refine hL _ _ ?_ | (intro h; (try simp only [n1, n2, n3, n4, n5, n6] at h); first | (exfalso; omega) | (cases h; done) | skip)) <;> (conv => whnf))
  refine round_next tok ?_
  conv => whnf
  repeat' ((first | refine And.intro (by repeat' first | exact trivial | refine And.intro rfl ?_) (And.intro (by first | exact fun _ h => h | exact fun _ => List.mem_cons_of_mem _ | exact fun _ => List.mem_append_right _) ?_) | (refine And.intro (fun h => ?_) (fun h => ?_) <;> (try simp only [n1, n2, n3, n4, n5, n6] at h) <;> first | (exfalso; omega) | (cases h; done) | skip) | refine And.intro (by omega) ?_ | refine Exists.intro _ (And.intro (by first | exact And.intro rfl rfl | exact Pl.den (by repeat constructor) | with_reducible rfl | exact cast_succ _ | assumption | exact (Int.toNat_of_nonneg (by omega)).symm | rfl) ?_) | refine hD _ _ ?_ | refine hL _ _ ?_ | (intro h; (try simp only [n1, n2, n3, n4, n5, n6] at h); first | (exfalso; omega) | (cases h; done) | skip)) <;> (conv => whnf))
  refine round_next tok ?_
  conv => whnf
  repeat' ((first | refine And.intro (by repeat' first | exact trivial | refine And.intro rfl ?_) (And.intro (by first | exact fun _ h => h | exact fun _ => List.mem_cons_of_mem _ | exact fun _ => List.mem_append_right _) ?_) | (refine And.intro (fun h => ?_) (fun h => ?_) <;> (try simp only [n1, n2, n3, n4, n5, n6] at h) <;> first | (exfalso; omega) | (cases h; done) | skip) | refine And.intro (by omega) ?_ | refine Exists.intro _ (And.intro (by first | exact And.intro rfl rfl | exact Pl.den (by repeat constructor) | with_reducible rfl | exact cast_succ _ | assumption | exact (Int.toNat_of_nonneg (by omega)).symm | rfl) ?_) | refine hD _ _ ?_ | refine hL _ _ ?_ | (intro h; (try simp only [n1, n2, n3, n4, n5, n6] at h); first | (exfalso; omega) | (cases h; done) | skip)) <;> (conv => whnf))
  refine loop_rounds 5 (round_next tok ?_)
  conv => whnf
  repeat' ((first | (refine Exists.intro _ (And.intro (Int.toNat_of_nonneg (and63_bound _).1).symm (And.intro (and63_lt _) ?_))) | refine And.intro (by repeat' first | exact trivial | refine And.intro rfl ?_) (And.intro (by first | exact fun _ h => h | exact fun _ => List.mem_cons_of_mem _ | exact fun _ => List.mem_append_right _) ?_) | (refine And.intro (fun h => ?_) (fun h => ?_) <;> (try simp only [n1, n2, n3, n4, n5, n6] at h) <;> first | (exfalso; omega) | (cases h; done) | skip) | refine And.intro (by omega) ?_ | refine Exists.intro _ (And.intro (by first | exact And.intro rfl rfl | exact Pl.den (by repeat constructor) | with_reducible rfl | exact cast_succ _ | assumption | exact (Int.toNat_of_nonneg (by omega)).symm | rfl) ?_) | refine hD _ _ ?_ | refine hL _ _ ?_ | (intro h; (try simp only [n1, n2, n3, n4, n5, n6] at h); first | (exfalso; omega) | (cases h; done) | skip)) <;> (conv => whnf))
  refine Tri.use (tWriteByte _ _ (by simp at hout ⊢; omega)) [0] rfl (args_ren rfl rfl) ⟨OSub.ren rfl rfl, trivial⟩ (fun f hf => by first | exact hf | cases hf | simp_all) (fun u hu => ?_)
  conv => whnf
  repeat' ((first | refine And.intro (by repeat' first | exact trivial | refine And.intro rfl ?_) (And.intro (by first | exact fun _ h => h | exact fun _ => List.mem_cons_of_mem _ | exact fun _ => List.mem_append_right _) ?_) | (refine And.intro (fun h => ?_) (fun h => ?_) <;> (try simp only [n1, n2, n3, n4, n5, n6] at h) <;> first | (exfalso; omega) | (cases h; done) | skip) | refine And.intro (by omega) ?_ | refine Exists.intro _ (And.intro (by first | exact And.intro rfl rfl | exact Pl.den (by repeat constructor) | with_reducible rfl | exact cast_succ _ | assumption | exact (Int.toNat_of_nonneg (by omega)).symm | rfl) ?_) | refine hD _ _ ?_ | refine hL _ _ ?_ | (intro h; (try simp only [n1, n2, n3, n4, n5, n6] at h); first | (exfalso; omega) | (cases h; done) | skip)) <;> (conv => whnf))
  refine round_next tok ?_
  conv => whnf
  repeat' ((first | (refine Exists.intro _ (And.intro (Int.toNat_of_nonneg (and63_bound _).1).symm (And.intro (and63_lt _) ?_))) | refine And.intro (by repeat' first | exact trivial | refine And.intro rfl ?_) (And.intro (by first | exact fun _ h => h | exact fun _ => List.mem_cons_of_mem _ | exact fun _ => List.mem_append_right _) ?_) | (refine And.intro (fun h => ?_) (fun h => ?_) <;> (try simp only [n1, n2, n3, n4, n5, n6] at h) <;> first | (exfalso; omega) | (cases h; done) | skip) | refine And.intro (by omega) ?_ | refine Exists.intro _ (And.intro (by first | exact And.intro rfl rfl | exact Pl.den (by repeat constructor) | with_reducible rfl | exact cast_succ _ | assumption | exact (Int.toNat_of_nonneg (by omega)).symm | rfl) ?_) | refine hD _ _ ?_ | refine hL _ _ ?_ | (intro h; (try simp only [n1, n2, n3, n4, n5, n6] at h); first | (exfalso; omega) | (cases h; done) | skip)) <;> (conv => whnf))
  refine Tri.use (tWriteByte _ _ (by simp at hout ⊢; omega)) [0] rfl (args_ren rfl rfl) ⟨OSub.ren rfl rfl, trivial⟩ (fun f hf => by first | exact hf | cases hf | simp_all) (fun u hu => ?_)
  conv => whnf
  repeat' ((first | refine And.intro (by repeat' first | exact trivial | refine And.intro rfl ?_) (And.intro (by first | exact fun _ h => h | exact fun _ => List.mem_cons_of_mem _ | exact fun _ => List.mem_append_right _) ?_) | (refine And.intro (fun h => ?_) (fun h => ?_) <;> (try simp only [n1, n2, n3, n4, n5, n6] at h) <;> first | (exfalso; omega) | (cases h; done) | skip) | refine And.intro (by omega) ?_ | refine Exists.intro _ (And.intro (by first | exact And.intro rfl rfl | exact Pl.den (by repeat constructor) | with_reducible rfl | exact cast_succ _ | assumption | exact (Int.toNat_of_nonneg (by omega)).symm | rfl) ?_) | refine hD _ _ ?_ | refine hL _ _ ?_ | (intro h; (try simp only [n1, n2, n3, n4, n5, n6] at h); first | (exfalso; omega) | (cases h; done) | skip)) <;> (conv => whnf))
  refine round_next tok ?_
  conv => whnf
  repeat' ((first | (refine Exists.intro _ (And.intro (Int.toNat_of_nonneg (and63_bound _).1).symm (And.intro (and63_lt _) ?_))) | refine And.intro (by repeat' first | exact trivial | refine And.intro rfl ?_) (And.intro (by first | exact fun _ h => h | exact fun _ => List.mem_cons_of_mem _ | exact fun _ => List.mem_append_right _) ?_) | (refine And.intro (fun h => ?_) (fun h => ?_) <;> (try simp only [n1, n2, n3, n4, n5, n6] at h) <;> first | (exfalso; omega) | (cases h; done) | skip) | refine And.intro (by omega) ?_ | refine Exists.intro _ (And.intro (by first | exact And.intro rfl rfl | exact Pl.den (by repeat constructor) | with_reducible rfl | exact cast_succ _ | assumption | exact (Int.toNat_of_nonneg (by omega)).symm | rfl) ?_) | refine hD _ _ ?_ | refine hL _ _ ?_ | (intro h; (try simp only [n1, n2, n3, n4, n5, n6] at h); first | (exfalso; omega) | (cases h; done) | skip)) <;> (conv => whnf))
  refine Tri.use (tWriteByte _ _ (by simp at hout ⊢; omega)) [0] rfl (args_ren rfl rfl) ⟨OSub.ren rfl rfl, trivial⟩ (fun f hf => by first | exact hf | cases hf | simp_all) (fun u hu => ?_)
  conv => whnf
  repeat' ((first | refine And.intro (by repeat' first | exact trivial | refine And.intro rfl ?_) (And.intro (by first | exact fun _ h => h | exact fun _ => List.mem_cons_of_mem _ | exact fun _ => List.mem_append_right _) ?_) | (refine And.intro (fun h => ?_) (fun h => ?_) <;> (try simp only [n1, n2, n3, n4, n5, n6] at h) <;> first | (exfalso; omega) | (cases h; done) | skip) | refine And.intro (by omega) ?_ | refine Exists.intro _ (And.intro (by first | exact And.intro rfl rfl | exact Pl.den (by repeat constructor) | with_reducible rfl | exact cast_succ _ | assumption | exact (Int.toNat_of_nonneg (by omega)).symm | rfl) ?_) | refine hD _ _ ?_ | refine hL _ _ ?_ | (intro h; (try simp only [n1, n2, n3, n4, n5, n6] at h); first | (exfalso; omega) | (cases h; done) | skip)) <;> (conv => whnf))
  refine round_next tok ?_
  conv => whnf
  repeat' ((first | (refine Exists.intro _ (And.intro (Int.toNat_of_nonneg (and63_bound _).1).symm (And.intro (and63_lt _) ?_))) | refine And.intro (by repeat' first | exact trivial | refine And.intro rfl ?_) (And.intro (by first | exact fun _ h => h | exact fun _ => List.mem_cons_of_mem _ | exact fun _ => List.mem_append_right _) ?_) | (refine And.intro (fun h => ?_) (fun h => ?_) <;> (try simp only [n1, n2, n3, n4, n5, n6] at h) <;> first | (exfalso; omega) | (cases h; done) | skip) | refine And.intro (by omega) ?_ | refine Exists.intro _ (And.intro (by first | exact And.intro rfl rfl | exact Pl.den (by repeat constructor) | with_reducible rfl | exact cast_succ _ | assumption | exact (Int.toNat_of_nonneg (by omega)).symm | rfl) ?_) | refine hD _ _ ?_ | refine hL _ _ ?_ | (intro h; (try simp only [n1, n2, n3, n4, n5, n6] at h); first | (exfalso; omega) | (cases h; done) | skip)) <;> (conv => whnf))
  refine Tri.use (tWriteByte _ _ (by simp at hout ⊢; omega)) [0] rfl (args_ren rfl rfl) ⟨OSub.ren rfl rfl, trivial⟩ (fun f hf => by first | exact hf | cases hf | simp_all) (fun u hu => ?_)
  conv => whnf
  repeat' ((first | refine And.intro (by repeat' first | exact trivial | refine And.intro rfl ?_) (And.intro (by first | exact fun _ h => h | exact fun _ => List.mem_cons_of_mem _ | exact fun _ => List.mem_append_right _) ?_) | (refine And.intro (fun h => ?_) (fun h => ?_) <;> (try simp only [n1, n2, n3, n4, n5, n6] at h) <;> first | (exfalso; omega) | (cases h; done) | skip) | refine And.intro (by omega) ?_ | refine Exists.intro _ (And.intro (by first | exact And.intro rfl rfl | exact Pl.den (by repeat constructor) | with_reducible rfl | exact cast_succ _ | assumption | exact (Int.toNat_of_nonneg (by omega)).symm | rfl) ?_) | refine hD _ _ ?_ | refine hL _ _ ?_ | (intro h; (try simp only [n1, n2, n3, n4, n5, n6] at h); first | (exfalso; omega) | (cases h; done) | skip)) <;> (conv => whnf))
  refine round_next tok ?_
  conv => whnf
  repeat' ((first | refine And.intro (by repeat' first | exact trivial | refine And.intro rfl ?_) (And.intro (by first | exact fun _ h => h | exact fun _ => List.mem_cons_of_mem _ | exact fun _ => List.mem_append_right _) ?_) | (refine And.intro (fun h => ?_) (fun h => ?_) <;> (try simp only [n1, n2, n3, n4, n5, n6] at h) <;> first | (exfalso; omega) | (cases h; done) | skip) | refine And.intro (by omega) ?_ | refine Exists.intro _ (And.intro (by first | exact And.intro rfl rfl | exact Pl.den (by repeat constructor) | with_reducible rfl | exact cast_succ _ | assumption | exact (Int.toNat_of_nonneg (by omega)).symm | rfl) ?_) | refine hD _ _ ?_ | refine hL _ _ ?_ | (intro h; (try simp only [n1, n2, n3, n4, n5, n6] at h); first | (exfalso; omega) | (cases h; done) | skip)) <;> (conv => whnf))
  have := bv_lt a
  have := bv_lt b
  have := bv_lt c
  have hm : (if (3 : Int) < ((rest.length + 3 : Nat) : Int) then (3 : Int) else ((rest.length + 3 : Nat) : Int)).toNat = 3 := by
    split <;> omega
  refine ⟨⟨some (if cap = 3 then ad else ad.add (3 * 1)), rest.length, cap - 3, rest, _⟩, [0], _, ⟨⟨?_, rfl, (by simp only; omega), ⟨(fun h => nomatch h), ?_⟩⟩, by simp only [List.length_cons]; omega⟩, Fold.refl _, rfl, ⟨SEq.eq (by rw [hm]; rfl), SEq.eq rfl, SEq.ren rfl rfl, trivial⟩, ⟨OSub.ren rfl rfl, trivial⟩, fun f hf => hf⟩
  · dsimp only
    rw [acc0, acc1 _ _ (by omega), acc1 _ _ (by omega), sgn_at _ _ (by omega), sgn_at _ _ (by omega), sgn_at _ _ (by omega), sgn_at _ _ (by omega), ← h1]
    have k1 : ((a.toNat * 256 + b.toNat) * 256 + c.toNat) / 262144 % 64 = a.toNat / 4 := by omega
    have k2 : ((a.toNat * 256 + b.toNat) * 256 + c.toNat) / 4096 % 64 = a.toNat % 4 * 16 + b.toNat / 16 := by omega
    have k3 : ((a.toNat * 256 + b.toNat) * 256 + c.toNat) / 64 % 64 = b.toNat % 16 * 4 + c.toNat / 64 := by omega
    have k4 : ((a.toNat * 256 + b.toNat) * 256 + c.toNat) / 1 % 64 = c.toNat % 64 := by omega
    rw [k1, k2, k3, k4]
    simp [enc]
  · intro ad' h j y hj
    have h5 := h4.2 ad rfl (j + 3) y hj
    have hj' : j < rest.length := (List.getElem?_eq_some_iff.1 hj).1
    simp only [Option.some.injEq] at h
    rw [if_neg (by omega)] at h
    subst h
    have e : (ad.add (3 * 1)).add j = ad.add (j + 3) := by
      simp only [Addr.add]
      split <;> split <;> simp_all <;> omega
    rw [e]; exact h5
end Go.Proofs.YtekgjjanikicnaaDoor.Sx

namespace Go.Proofs.YtekgjjanikicnaaDoor.Sx
open Go
set_option maxRecDepth 100000
set_option linter.unusedSimpArgs false
set_option linter.unusedVariables false

theorem tAwake (fx : List Fact) : Tri Tryd.prog 48 [] [] 0 fx (Ret 0 (.b true) [] 0 []) := by
  refine Tri.of_code tok Tryd.func48 rfl rfl rfl (by decide) rfl (Nat.le_of_ble_eq_true rfl) ?_
  conv => whnf
  repeat' ((first | refine And.intro (by repeat' first | exact trivial | refine And.intro rfl ?_) (And.intro (by first | exact fun _ h => h | exact fun _ => List.mem_cons_of_mem _ | exact fun _ => List.mem_append_right _) ?_) | (refine And.intro (fun h => ?_) (fun h => ?_) <;> (try simp only [n1, n2, n3, n4, n5, n6] at h) <;> first | (exfalso; omega) | (cases h; done) | skip) | refine And.intro (by omega) ?_ | refine Exists.intro _ (And.intro (by first | exact And.intro rfl rfl | exact Pl.den (by repeat constructor) | with_reducible rfl | exact cast_succ _ | assumption | exact (Int.toNat_of_nonneg (by omega)).symm | rfl) ?_) | refine hD _ _ ?_ | refine hL _ _ ?_ | (intro h; (try simp only [n1, n2, n3, n4, n5, n6] at h); first | (exfalso; omega) | (cases h; done) | skip)) <;> (conv => whnf))
  refine Tri.lend 0 (xs := [bv 97, bv 98]) (T := 5) (fun b => [.v (.slice (some ⟨b, 0, none⟩) 2 2)]) (List.mem_cons_self ..) (rowOf.cells fun _ => rfl) (fun _ => rfl) fun b => ?_
  refine Tri.use (tEncode (rowFact b [bv 97, bv 98] 5 :: fx) _ 2 [97, 98] (by simp) (by simp) (BytesAt.row (List.mem_cons_self ..) rfl)).one [] rfl (fun _ _ _ => rfl) trivial (fun f hf => hf) fun u hu => ?_
  conv => whnf
  refine And.intro rfl ?_
  conv => whnf
  repeat' ((first | refine And.intro (by repeat' first | exact trivial | refine And.intro rfl ?_) (And.intro (by first | exact fun _ h => h | exact fun _ => List.mem_cons_of_mem _ | exact fun _ => List.mem_append_right _) ?_) | (refine And.intro (fun h => ?_) (fun h => ?_) <;> (try simp only [n1, n2, n3, n4, n5, n6] at h) <;> first | (exfalso; omega) | (cases h; done) | skip) | refine And.intro (by omega) ?_ | refine Exists.intro _ (And.intro (by first | exact And.intro rfl rfl | exact Pl.den (by repeat constructor) | with_reducible rfl | exact cast_succ _ | assumption | exact (Int.toNat_of_nonneg (by omega)).symm | rfl) ?_) | refine hD _ _ ?_ | refine hL _ _ ?_ | (intro h; (try simp only [n1, n2, n3, n4, n5, n6] at h); first | (exfalso; omega) | (cases h; done) | skip)) <;> (conv => whnf))
  exact Ret.noneS rfl (fun _ _ => rfl) (fun _ h => nomatch h)
theorem enc_append : ∀ (a b : List UInt8), a.length % 3 = 0 → enc (a ++ b) = enc a ++ enc b
  | [], b, _ => by simp [enc]
  | [_], _, h => by simp at h
  | [_, _], _, h => by simp at h
  | x :: y :: z :: r, b, h => by
    simp only [List.length_cons] at h
    simp only [List.cons_append, enc]
    rw [enc_append r b (by omega)]
end Go.Proofs.YtekgjjanikicnaaDoor.Sx

namespace Go.Proofs.YtekgjjanikicnaaDoor.Sx
open Go Go.RowKit
set_option maxRecDepth 100000
set_option linter.unusedSimpArgs false
set_option linter.unusedVariables false
abbrev tens : ByteArray := ⟨#[48, 49, 50, 51, 52, 53, 54, 55, 56, 57]⟩
theorem ten_cut {d : Nat} (h : d < 10) : tens.extract d (d + 1) = ⟨#[UInt8.ofNat (48 + d)]⟩ := by
  have : d = 0 ∨ d = 1 ∨ d = 2 ∨ d = 3 ∨ d = 4 ∨ d = 5 ∨ d = 6 ∨ d = 7 ∨ d = 8 ∨ d = 9 := by omega
  rcases this with rfl | rfl | rfl | rfl | rfl | rfl | rfl | rfl | rfl | rfl <;> decide
theorem ba_app (l m : List UInt8) : (⟨l.toArray⟩ ++ ⟨m.toArray⟩ : ByteArray) = ⟨(l ++ m).toArray⟩ := by
  apply ByteArray.ext
  apply Array.toList_inj.1
  simp [app_list]
theorem decDigits_size (x : Nat) (h : x < 18446744073709551616) : (⟨(Lib.decDigits x).toArray⟩ : ByteArray).size = Lib.nDigits x := by
  rw [← decDigits_len]; simp [ByteArray.size]
theorem ten_hi (x : Nat) : (x % Int.natAbs 10 + 1) % ((2 : Int) ^ IntKind.u64.bits).natAbs = x % 10 + 1 := by
  have e1 : Int.natAbs 10 = 10 := rfl
  have e2 : ((2 : Int) ^ IntKind.u64.bits).natAbs = 18446744073709551616 := by decide
  rw [e1, e2]
  omega
theorem tRefDigits (fx : List Fact) : ∀ (n x : Nat), x ≤ n → x < 18446744073709551616 → Tri Tryd.prog 50 [.v (.int .u64 (x : Int))] [] 0 fx (Ret 0 (.v (.string ⟨(Lib.decDigits x).toArray⟩)) [] 0 []) := by
  intro n
  induction n with
  | zero =>
    intro x h h2
    obtain rfl : x = 0 := by omega
    refine Tri.of_code tok Tryd.func50 rfl rfl rfl (by decide) rfl (Nat.le_of_ble_eq_true rfl) ?_
    conv => whnf
    repeat' ((first | (refine And.intro (show (0 + 1 : Nat) ≤ 10 by omega) ?_) | (refine And.intro (show (0 : Nat) ≤ 0 + 1 by omega) ?_) | refine And.intro (by repeat' first | exact trivial | refine And.intro rfl ?_) (And.intro (by first | exact fun _ h => h | exact fun _ => List.mem_cons_of_mem _ | exact fun _ => List.mem_append_right _) ?_) | (refine And.intro (fun h => ?_) (fun h => ?_) <;> (try simp only [n1, n2, n3, n4, n5, n6] at h) <;> first | (exfalso; omega) | (cases h; done) | skip) | refine And.intro (by omega) ?_ | refine Exists.intro _ (And.intro (by first | exact And.intro rfl rfl | exact Pl.den (by repeat constructor) | with_reducible rfl | exact cast_succ _ | assumption | exact (Int.toNat_of_nonneg (by omega)).symm | rfl) ?_) | refine hD _ _ ?_ | refine hL _ _ ?_ | (intro h; (try simp only [n1, n2, n3, n4, n5, n6] at h); first | (exfalso; omega) | (cases h; done) | skip)) <;> (conv => whnf))
    refine Ret.noneS rfl (fun _ _ => ?_) (fun g hg => by cases hg)
    simp only [den]
    rw [Lib.decDigits_one (by omega)]
    rfl
  | succ n ih =>
    intro x h h2
    refine Tri.of_code tok Tryd.func50 rfl rfl rfl (by decide) rfl (Nat.le_of_ble_eq_true rfl) ?_
    conv => whnf
    repeat' ((first | refine And.intro (by repeat' first | exact trivial | refine And.intro rfl ?_) (And.intro (by first | exact fun _ h => h | exact fun _ => List.mem_cons_of_mem _ | exact fun _ => List.mem_append_right _) ?_) | (refine And.intro (fun h => ?_) (fun h => ?_) <;> (try simp only [n1, n2, n3, n4, n5, n6] at h) <;> first | (exfalso; omega) | (cases h; done) | skip) | refine And.intro (by omega) ?_ | refine Exists.intro _ (And.intro (by first | exact And.intro rfl rfl | exact Pl.den (by repeat constructor) | with_reducible rfl | exact cast_succ _ | assumption | exact (Int.toNat_of_nonneg (by omega)).symm | rfl) ?_) | refine hD _ _ ?_ | refine hL _ _ ?_ | (intro h; (try simp only [n1, n2, n3, n4, n5, n6] at h); first | (exfalso; omega) | (cases h; done) | skip)) <;> (conv => whnf))
    rw [ten_hi]
    refine And.intro (show x % 10 + 1 ≤ 10 by omega) ?_
    conv => whnf
    repeat' ((first | refine And.intro (by repeat' first | exact trivial | refine And.intro rfl ?_) (And.intro (by first | exact fun _ h => h | exact fun _ => List.mem_cons_of_mem _ | exact fun _ => List.mem_append_right _) ?_) | (refine And.intro (fun h => ?_) (fun h => ?_) <;> (try simp only [n1, n2, n3, n4, n5, n6] at h) <;> first | (exfalso; omega) | (cases h; done) | skip) | refine And.intro (by omega) ?_ | refine Exists.intro _ (And.intro (by first | exact And.intro rfl rfl | exact Pl.den (by repeat constructor) | with_reducible rfl | exact cast_succ _ | assumption | exact (Int.toNat_of_nonneg (by omega)).symm | rfl) ?_) | refine hD _ _ ?_ | refine hL _ _ ?_ | (intro h; (try simp only [n1, n2, n3, n4, n5, n6] at h); first | (exfalso; omega) | (cases h; done) | skip)) <;> (conv => whnf))
    · rename_i h10
      refine Ret.noneS rfl (fun _ _ => ?_) (fun g hg => by cases hg)
      simp only [den]
      rw [Lib.decDigits_one (by omega)]
      refine congrArg Value.string (Eq.trans ?_ (ten_cut (Nat.mod_lt x (show 0 < 10 by omega))).symm)
      rw [Nat.mod_eq_of_lt (by omega)]
    · refine Tri.use ((ih (x / 10) (by omega) (by omega)).one) [] rfl (fun _ _ _ => rfl) trivial (fun f hf => by first | exact hf | cases hf) (fun u hu => ?_)
      conv => whnf
      have e := ten_cut (Nat.mod_lt x (show 0 < 10 by omega))
      have e2 : tens.extract ((some ((x : Int) % 10).toNat).getD 0) (x % 10 + 1) = ⟨#[UInt8.ofNat (48 + x % 10)]⟩ := e
      rw [e2]
      have hsz := decDigits_size (x / 10) (by omega)
      refine And.intro ?_ ?_
      · rw [hsz]
        have h20 := nDigits_le (x / 10) (by omega)
        show ((Lib.nDigits (x / 10) + 1 : Nat) : Int) ≤ _
        omega
      conv => whnf
      repeat' ((first | refine And.intro (by repeat' first | exact trivial | refine And.intro rfl ?_) (And.intro (by first | exact fun _ h => h | exact fun _ => List.mem_cons_of_mem _ | exact fun _ => List.mem_append_right _) ?_) | (refine And.intro (fun h => ?_) (fun h => ?_) <;> (try simp only [n1, n2, n3, n4, n5, n6] at h) <;> first | (exfalso; omega) | (cases h; done) | skip) | refine And.intro (by omega) ?_ | refine Exists.intro _ (And.intro (by first | exact And.intro rfl rfl | exact Pl.den (by repeat constructor) | with_reducible rfl | exact cast_succ _ | assumption | exact (Int.toNat_of_nonneg (by omega)).symm | rfl) ?_) | refine hD _ _ ?_ | refine hL _ _ ?_ | (intro h; (try simp only [n1, n2, n3, n4, n5, n6] at h); first | (exfalso; omega) | (cases h; done) | skip)) <;> (conv => whnf))
      refine Ret.noneS rfl (fun _ _ => ?_) (fun g hg => by cases hg)
      simp only [den]
      have ed : Lib.decDigits x = Lib.decDigits (x / 10) ++ [UInt8.ofNat (48 + x % 10)] := by conv => lhs; rw [Lib.decDigits, dif_neg (by omega)]
      rw [ed]
      exact congrArg Value.string (ba_app _ _).symm
theorem num_step (n : Nat) (c : UInt8) : IntKind.u64.wrap (IntKind.u64.wrap (IntKind.u64.wrap ((n : Int) * 10) + IntKind.u64.wrap (c.toNat : Int)) - 48) = (((n * 10 + c.toNat + (18446744073709551616 - 48)) % 18446744073709551616 : Nat) : Int) := by
  simp only [IntKind.wrap, IntKind.signed, IntKind.bits]
  simp
  omega
theorem tRefNumber (fx : List Fact) (s : ByteArray) (hs : s.size ≤ 281474976710656) : Tri Tryd.prog 49 [.v (.string s)] [] 0 fx (Ret 0 (numS (numOf s.data.toList)) [] 0 []) := by
  obtain ⟨M, hM⟩ : ∃ M : Nat, M = 18446744073709551616 := ⟨_, rfl⟩
  refine Tri.of_code tok Tryd.func49 rfl rfl rfl (by decide) rfl (Nat.le_of_ble_eq_true rfl) ?_
  conv => whnf
  repeat' ((first | refine And.intro (by repeat' first | exact trivial | refine And.intro rfl ?_) (And.intro (by first | exact fun _ h => h | exact fun _ => List.mem_cons_of_mem _ | exact fun _ => List.mem_append_right _) ?_) | (refine And.intro (fun h => ?_) (fun h => ?_) <;> (try simp only [n1, n2, n3, n4, n5, n6] at h) <;> first | (exfalso; omega) | (cases h; done) | skip) | refine And.intro (by omega) ?_ | refine Exists.intro _ (And.intro (by first | exact And.intro rfl rfl | exact Pl.den (by repeat constructor) | with_reducible rfl | exact cast_succ _ | assumption | exact (Int.toNat_of_nonneg (by omega)).symm | rfl) ?_) | refine hD _ _ ?_ | refine hL _ _ ?_ | (intro h; (try simp only [n1, n2, n3, n4, n5, n6] at h); first | (exfalso; omega) | (cases h; done) | skip)) <;> (conv => whnf))
  refine loop_by tok (α := Nat) (fun i => ⟨[(0, .v (.string s)), (4, .v (.int .u64 (foldM M (s.data.toList.take i)))), (5, .v (.int .i64 i))], [], 0, fx⟩) (fun i => i ≤ s.size ∧ i ≤ 20) (fun i => s.size - i) 0 [] ⟨by omega, by omega⟩ ⟨rfl, ?_, trivial, fun f hf => hf⟩ ?_
  · exact ⟨fun _ _ _ => rfl, fun _ _ _ => rfl, fun _ _ _ => rfl, trivial⟩
  · rintro i ⟨hi, ha⟩
    conv => whnf
    repeat' ((first | refine And.intro (by repeat' first | exact trivial | refine And.intro rfl ?_) (And.intro (by first | exact fun _ h => h | exact fun _ => List.mem_cons_of_mem _ | exact fun _ => List.mem_append_right _) ?_) | (refine And.intro (fun h => ?_) (fun h => ?_) <;> (try simp only [n1, n2, n3, n4, n5, n6] at h) <;> first | (exfalso; omega) | (cases h; done) | skip) | refine And.intro (by omega) ?_ | refine Exists.intro _ (And.intro (by first | exact And.intro rfl rfl | exact Pl.den (by repeat constructor) | with_reducible rfl | exact cast_succ _ | assumption | exact (Int.toNat_of_nonneg (by omega)).symm | rfl) ?_) | refine hD _ _ ?_ | refine hL _ _ ?_ | (intro h; (try simp only [n1, n2, n3, n4, n5, n6] at h); first | (exfalso; omega) | (cases h; done) | skip)) <;> (conv => whnf))
    · obtain rfl : M = 18446744073709551616 := hM
      refine ⟨i + 1, [], ⟨⟨by omega, by omega⟩, by omega⟩, rfl, ⟨fun _ _ _ => rfl, fun _ _ _ => ?_, fun _ _ _ => rfl, trivial⟩, trivial, fun f hf => hf⟩
      simp only [den]
      rw [take_succ_of (sbyte_get (show i < s.size by omega)), foldM_app, num_step]
    · have hi20 : i = 20 := by omega
      subst hi20
      refine Tri.use ((tRefDigits fx _ _ (Nat.le_refl _) (by rw [← hM]; exact foldM_lt (by omega) _)).one) [] rfl (fun _ _ _ => rfl) trivial (fun f hf => by first | exact hf | cases hf) (fun u hu => ?_)
      conv => whnf
      repeat' ((first | refine And.intro (by repeat' first | exact trivial | refine And.intro rfl ?_) (And.intro (by first | exact fun _ h => h | exact fun _ => List.mem_cons_of_mem _ | exact fun _ => List.mem_append_right _) ?_) | (refine And.intro (fun h => ?_) (fun h => ?_) <;> (try simp only [n1, n2, n3, n4, n5, n6] at h) <;> first | (exfalso; omega) | (cases h; done) | skip) | refine And.intro (by omega) ?_ | refine Exists.intro _ (And.intro (by first | exact And.intro rfl rfl | exact Pl.den (by repeat constructor) | with_reducible rfl | exact cast_succ _ | assumption | exact (Int.toNat_of_nonneg (by omega)).symm | rfl) ?_) | refine hD _ _ ?_ | refine hL _ _ ?_ | (intro h; (try simp only [n1, n2, n3, n4, n5, n6] at h); first | (exfalso; omega) | (cases h; done) | skip)) <;> (conv => whnf))
      · have hn : numOf s.data.toList = none := by
          rw [numOf_foldM hM]
          exact if_neg (by simpa using h)
        rw [hn]
        exact Ret.noneS rfl (fun _ _ => rfl) (fun g hg => by cases hg)
      · have hn : numOf s.data.toList = some (foldM M (s.data.toList.take 20)) := by
          rw [numOf_foldM hM]
          exact if_pos (by simpa using h)
        rw [hn]
        exact Ret.noneS rfl (fun _ _ => rfl) (fun g hg => by cases hg)
    · have hi20 : s.data.toList.take i = s.data.toList.take 20 := by
        rw [List.take_of_length_le (by rw [list_size]; omega), List.take_of_length_le (by rw [list_size]; omega)]
      rw [hi20]
      refine Tri.use ((tRefDigits fx _ _ (Nat.le_refl _) (by rw [← hM]; exact foldM_lt (by omega) _)).one) [] rfl (fun _ _ _ => rfl) trivial (fun f hf => by first | exact hf | cases hf) (fun u hu => ?_)
      conv => whnf
      repeat' ((first | refine And.intro (by repeat' first | exact trivial | refine And.intro rfl ?_) (And.intro (by first | exact fun _ h => h | exact fun _ => List.mem_cons_of_mem _ | exact fun _ => List.mem_append_right _) ?_) | (refine And.intro (fun h => ?_) (fun h => ?_) <;> (try simp only [n1, n2, n3, n4, n5, n6] at h) <;> first | (exfalso; omega) | (cases h; done) | skip) | refine And.intro (by omega) ?_ | refine Exists.intro _ (And.intro (by first | exact And.intro rfl rfl | exact Pl.den (by repeat constructor) | with_reducible rfl | exact cast_succ _ | assumption | exact (Int.toNat_of_nonneg (by omega)).symm | rfl) ?_) | refine hD _ _ ?_ | refine hL _ _ ?_ | (intro h; (try simp only [n1, n2, n3, n4, n5, n6] at h); first | (exfalso; omega) | (cases h; done) | skip)) <;> (conv => whnf))
      · have hn : numOf s.data.toList = none := by
          rw [numOf_foldM hM]
          exact if_neg (by simpa using h)
        rw [hn]
        exact Ret.noneS rfl (fun _ _ => rfl) (fun g hg => by cases hg)
      · have hn : numOf s.data.toList = some (foldM M (s.data.toList.take 20)) := by
          rw [numOf_foldM hM]
          exact if_pos (by simpa using h)
        rw [hn]
        exact Ret.noneS rfl (fun _ _ => rfl) (fun g hg => by cases hg)
theorem tRefName (fx : List Fact) (s : ByteArray) (hs : s.size < 9223372036854775808) : Tri Tryd.prog 52 [.v (.string s)] [] 0 fx (Ret 0 (.v (.bool (nameOk s.data.toList))) [] 0 []) := by
  refine Tri.of_code tok Tryd.func52 rfl rfl rfl (by decide) rfl (Nat.le_of_ble_eq_true rfl) ?_
  conv => whnf
  repeat' ((first | refine And.intro (by repeat' first | exact trivial | refine And.intro rfl ?_) (And.intro (by first | exact fun _ h => h | exact fun _ => List.mem_cons_of_mem _ | exact fun _ => List.mem_append_right _) ?_) | (refine And.intro (fun h => ?_) (fun h => ?_) <;> (try simp only [n1, n2, n3, n4, n5, n6] at h) <;> first | (exfalso; omega) | (cases h; done) | skip) | refine And.intro (by omega) ?_ | refine Exists.intro _ (And.intro (by first | exact And.intro rfl rfl | exact Pl.den (by repeat constructor) | with_reducible rfl | exact cast_succ _ | assumption | exact (Int.toNat_of_nonneg (by omega)).symm | rfl) ?_) | refine hD _ _ ?_ | refine hL _ _ ?_ | (intro h; (try simp only [n1, n2, n3, n4, n5, n6] at h); first | (exfalso; omega) | (cases h; done) | skip)) <;> (conv => whnf))
  refine loop_by tok (α := Nat) (fun i => ⟨[(0, .v (.string s)), (3, .v (.int .i64 i))], [], 0, fx⟩) (fun i => i ≤ s.size ∧ (s.data.toList.take i).all nameSign = true) (fun i => s.size - i) 0 [] (by simp) ⟨rfl, ?_, trivial, fun f hf => hf⟩ ?_
  · exact ⟨fun _ _ _ => rfl, fun _ _ _ => rfl, trivial⟩
  · rintro i ⟨hi, ha⟩
    conv => whnf
    repeat' ((first | refine And.intro (by repeat' first | exact trivial | refine And.intro rfl ?_) (And.intro (by first | exact fun _ h => h | exact fun _ => List.mem_cons_of_mem _ | exact fun _ => List.mem_append_right _) ?_) | (refine And.intro (fun h => ?_) (fun h => ?_) <;> (try simp only [n1, n2, n3, n4, n5, n6] at h) <;> first | (exfalso; omega) | (cases h; done) | skip) | refine And.intro (by omega) ?_ | refine Exists.intro _ (And.intro (by first | exact And.intro rfl rfl | exact Pl.den (by repeat constructor) | with_reducible rfl | exact cast_succ _ | assumption | exact (Int.toNat_of_nonneg (by omega)).symm | rfl) ?_) | refine hD _ _ ?_ | refine hL _ _ ?_ | (intro h; (try simp only [n1, n2, n3, n4, n5, n6] at h); first | (exfalso; omega) | (cases h; done) | skip)) <;> (conv => whnf))
    all_goals (try simp only [Int.toNat_natCast] at *)
    all_goals first
      | (refine ⟨i + 1, [], ⟨⟨by omega, sbyte_take (by omega) _ ha ?_⟩, by omega⟩, rfl, ⟨fun _ _ _ => rfl, fun _ _ _ => rfl, trivial⟩, trivial, fun f hf => hf⟩
         simp only [nameSign, Bool.or_eq_true, Bool.and_eq_true, decide_eq_true_eq, beq_iff_eq]; omega)
      | (refine Ret.none rfl (fun ρ => ?_) (fun g h => by cases h)
         have hf : nameSign (sbyte s i) = false := by
           rw [← Bool.not_eq_true]
           simp only [nameSign, Bool.or_eq_true, Bool.and_eq_true, decide_eq_true_eq, beq_iff_eq]; omega
         simp only [nameOk, all_false (by omega) _ hf]; rfl)
      | (refine Ret.none rfl (fun ρ => ?_) (fun g h => by cases h)
         obtain rfl : i = s.size := by omega
         rw [List.take_of_length_le (by simp)] at ha
         simp only [den, nameOk, ha, Bool.true_and]
         congr 1
         rw [Bool.eq_iff_iff]
         simp; omega)
end Go.Proofs.YtekgjjanikicnaaDoor.Sx

namespace Go.Proofs.YtekgjjanikicnaaDoor.Sx
open Go
set_option linter.unusedSimpArgs false
set_option linter.unusedVariables false

def plainSign (c : UInt8) : Bool := (65 ≤ c.toNat && c.toNat ≤ 90) || (97 ≤ c.toNat && c.toNat ≤ 122) || (48 ≤ c.toNat && c.toNat ≤ 57) || c.toNat == 43 || c.toNat == 47
/-- What a sign tells. -/
def val6 (c : UInt8) : Nat :=
  if 65 ≤ c.toNat ∧ c.toNat ≤ 90 then c.toNat - 65
  else if 97 ≤ c.toNat ∧ c.toNat ≤ 122 then c.toNat - 71
  else if 48 ≤ c.toNat ∧ c.toNat ≤ 57 then c.toNat + 4
  else if c.toNat = 43 then 62
  else if c.toNat = 47 then 63
  else 64
theorem sgn_all : (List.range 64).all (fun n => plainSign (sgn6 n) && (val6 (sgn6 n) == n)) = true := by decide +kernel
theorem sgn_plain {n : Nat} (h : n < 64) : plainSign (sgn6 n) = true := by
  have := List.all_eq_true.1 sgn_all n (List.mem_range.2 h)
  simp only [Bool.and_eq_true] at this
  exact this.1
theorem val_sgn {n : Nat} (h : n < 64) : val6 (sgn6 n) = n := by
  have := List.all_eq_true.1 sgn_all n (List.mem_range.2 h)
  simp only [Bool.and_eq_true, beq_iff_eq] at this
  exact this.2
theorem plain_ne {c : UInt8} (h : plainSign c = true) : c ≠ 61 := by
  rintro rfl
  revert h
  decide
theorem enc_form : ∀ bs, ∃ p k, enc bs = p ++ List.replicate k 61 ∧ k ≤ 2 ∧ ∀ c ∈ p, plainSign c = true
  | a :: b :: c :: r => by
    obtain ⟨p, k, h1, h2, h3⟩ := enc_form r
    have := bv_lt a
    have := bv_lt b
    have := bv_lt c
    refine ⟨sgn6 (a.toNat / 4) :: sgn6 (a.toNat % 4 * 16 + b.toNat / 16) :: sgn6 (b.toNat % 16 * 4 + c.toNat / 64) :: sgn6 (c.toNat % 64) :: p, k, by simp [enc, h1], h2, ?_⟩
    intro x hx
    simp only [List.mem_cons] at hx
    rcases hx with rfl | rfl | rfl | rfl | hx
    · exact sgn_plain (by omega)
    · exact sgn_plain (by omega)
    · exact sgn_plain (by omega)
    · exact sgn_plain (by omega)
    · exact h3 x hx
  | [a, b] => by
    have := bv_lt a
    have := bv_lt b
    refine ⟨[sgn6 (a.toNat / 4), sgn6 (a.toNat % 4 * 16 + b.toNat / 16), sgn6 (b.toNat % 16 * 4)], 1, by simp [enc], by decide, ?_⟩
    intro x hx
    simp only [List.mem_cons, List.not_mem_nil, or_false] at hx
    rcases hx with rfl | rfl | rfl
    · exact sgn_plain (by omega)
    · exact sgn_plain (by omega)
    · exact sgn_plain (by omega)
  | [a] => by
    have := bv_lt a
    refine ⟨[sgn6 (a.toNat / 4), sgn6 (a.toNat % 4 * 16)], 2, by simp [enc], by decide, ?_⟩
    intro x hx
    simp only [List.mem_cons, List.not_mem_nil, or_false] at hx
    rcases hx with rfl | rfl
    · exact sgn_plain (by omega)
    · exact sgn_plain (by omega)
  | [] => ⟨[], 0, by simp [enc], by decide, by simp⟩
/-- The bytes of a text, where it is one. -/
def unenc : List UInt8 → List UInt8
  | x :: y :: z :: w :: r =>
    if z = 61 then [UInt8.ofNat (val6 x * 4 + val6 y / 16)]
    else if w = 61 then [UInt8.ofNat (val6 x * 4 + val6 y / 16), UInt8.ofNat (val6 y % 16 * 16 + val6 z / 4)]
    else UInt8.ofNat (val6 x * 4 + val6 y / 16) :: UInt8.ofNat (val6 y % 16 * 16 + val6 z / 4) :: UInt8.ofNat (val6 z % 4 * 64 + val6 w) :: unenc r
  | _ => []
theorem ofNat_eq {n : Nat} {a : UInt8} (h : n = a.toNat) : UInt8.ofNat n = a := by rw [h]; simp
theorem unenc_enc : ∀ bs, unenc (enc bs) = bs
  | a :: b :: c :: r => by
    have := bv_lt a
    have := bv_lt b
    have := bv_lt c
    simp only [enc, unenc]
    rw [if_neg (plain_ne (sgn_plain (by omega))), if_neg (plain_ne (sgn_plain (by omega))), val_sgn (by omega), val_sgn (by omega), val_sgn (by omega), val_sgn (by omega), unenc_enc r,
      ofNat_eq (a := a) (by omega), ofNat_eq (a := b) (by omega), ofNat_eq (a := c) (by omega)]
  | [a, b] => by
    have := bv_lt a
    have := bv_lt b
    simp only [enc, unenc]
    rw [if_neg (plain_ne (sgn_plain (by omega))), if_pos trivial, val_sgn (by omega), val_sgn (by omega), val_sgn (by omega), ofNat_eq (a := a) (by omega), ofNat_eq (a := b) (by omega)]
  | [a] => by
    have := bv_lt a
    simp only [enc, unenc]
    rw [if_pos trivial, val_sgn (by omega), val_sgn (by omega), ofNat_eq (a := a) (by omega)]
  | [] => rfl
theorem enc_inj {a b : List UInt8} (h : enc a = enc b) : a = b := by rw [← unenc_enc a, h, unenc_enc]
end Go.Proofs.YtekgjjanikicnaaDoor.Sx

namespace Go.Proofs.YtekgjjanikicnaaDoor.Sx
open Go
set_option linter.unusedSimpArgs false
set_option linter.unusedVariables false

/-- n bits p are at hand, and the signs that follow: the bytes, or none. -/
def decGo : List UInt8 → Nat → Nat → Option (List UInt8)
  | [], _, _ => some []
  | c :: r, p, n =>
    if val6 c = 64 then none
    else if 2 ≤ n then (decGo r ((p * 64 + val6 c) % 2 ^ (n - 2)) (n - 2)).map (UInt8.ofNat ((p * 64 + val6 c) / 2 ^ (n - 2)) :: ·)
    else decGo r (p * 64 + val6 c) (n + 6)
theorem val6_le (c : UInt8) : val6 c ≤ 64 := by
  unfold val6
  have := bv_lt c
  repeat' split
  all_goals omega
theorem dec_no {c : UInt8} {r : List UInt8} {p n : Nat} (h : val6 c = 64) : decGo (c :: r) p n = none := by
  rw [decGo, if_pos h]
theorem dec_lo {c : UInt8} {r : List UInt8} {p n : Nat} (h : val6 c < 64) (hn : n < 2) : decGo (c :: r) p n = decGo r (p * 64 + val6 c) (n + 6) := by
  rw [decGo, if_neg (by omega), if_neg (by omega)]
theorem dec_hi {c : UInt8} {r : List UInt8} {p n : Nat} (h : val6 c < 64) (hn : 2 ≤ n) :
    decGo (c :: r) p n = (decGo r ((p * 64 + val6 c) % 2 ^ (n - 2)) (n - 2)).map (UInt8.ofNat ((p * 64 + val6 c) / 2 ^ (n - 2)) :: ·) := by
  rw [decGo, if_neg (by omega), if_pos hn]
theorem dec_four {x y z w : Nat} (hx : x < 64) (hy : y < 64) (hz : z < 64) (hw : w < 64) (r : List UInt8) : decGo (sgn6 x :: sgn6 y :: sgn6 z :: sgn6 w :: r) 0 0 =
    (decGo r 0 0).map fun l => UInt8.ofNat (x * 4 + y / 16) :: UInt8.ofNat (y % 16 * 16 + z / 4) :: UInt8.ofNat (z % 4 * 64 + w) :: l := by
  have vx := val_sgn hx
  have vy := val_sgn hy
  have vz := val_sgn hz
  have vw := val_sgn hw
  rw [dec_lo (by omega) (by omega), dec_hi (by omega) (by omega), dec_hi (by omega) (by omega), dec_hi (by omega) (by omega), vx, vy, vz, vw]
  simp only [Nat.reduceAdd, Nat.reduceSub, Nat.reducePow, Nat.mod_one, Nat.div_one, Nat.zero_mul, Nat.zero_add, Option.map_map]
  have e1 : (x * 64 + y) / 16 = x * 4 + y / 16 := by omega
  have e2 : ((x * 64 + y) % 16 * 64 + z) / 4 = y % 16 * 16 + z / 4 := by omega
  have e3 : ((x * 64 + y) % 16 * 64 + z) % 4 * 64 + w = z % 4 * 64 + w := by omega
  rw [e1, e2, e3]
  rfl
theorem dec_three {x y z : Nat} (hx : x < 64) (hy : y < 64) (hz : z < 64) : decGo [sgn6 x, sgn6 y, sgn6 z] 0 0 = some [UInt8.ofNat (x * 4 + y / 16), UInt8.ofNat (y % 16 * 16 + z / 4)] := by
  have vx := val_sgn hx
  have vy := val_sgn hy
  have vz := val_sgn hz
  rw [dec_lo (by omega) (by omega), dec_hi (by omega) (by omega), dec_hi (by omega) (by omega), vx, vy, vz]
  simp only [decGo, Nat.reduceAdd, Nat.reduceSub, Nat.reducePow, Nat.zero_mul, Nat.zero_add, Option.map_some]
  have e1 : (x * 64 + y) / 16 = x * 4 + y / 16 := by omega
  have e2 : ((x * 64 + y) % 16 * 64 + z) / 4 = y % 16 * 16 + z / 4 := by omega
  rw [e1, e2]
theorem dec_two {x y : Nat} (hx : x < 64) (hy : y < 64) : decGo [sgn6 x, sgn6 y] 0 0 = some [UInt8.ofNat (x * 4 + y / 16)] := by
  have vx := val_sgn hx
  have vy := val_sgn hy
  rw [dec_lo (by omega) (by omega), dec_hi (by omega) (by omega), vx, vy]
  simp only [decGo, Nat.reduceAdd, Nat.reduceSub, Nat.reducePow, Nat.zero_mul, Nat.zero_add, Option.map_some]
  have e1 : (x * 64 + y) / 16 = x * 4 + y / 16 := by omega
  rw [e1]
/-- What a sign tells, or nought. -/
def val0 (c : UInt8) : Nat := if val6 c = 64 then 0 else val6 c
theorem val0_lt (c : UInt8) : val0 c < 64 := by
  unfold val0
  have := val6_le c
  split <;> omega
theorem val0_sgn {n : Nat} (h : n < 64) : val0 (sgn6 n) = n := by
  unfold val0
  rw [val_sgn h, if_neg (by omega)]
theorem val0_eq : val0 61 = 0 := by decide
/-- Three bytes for four signs each. -/
def rdec : List UInt8 → List UInt8
  | x :: y :: z :: w :: r =>
    UInt8.ofNat ((((val0 x * 64 + val0 y) * 64 + val0 z) * 64 + val0 w) / 65536) :: UInt8.ofNat ((((val0 x * 64 + val0 y) * 64 + val0 z) * 64 + val0 w) / 256 % 256) ::
      UInt8.ofNat ((((val0 x * 64 + val0 y) * 64 + val0 z) * 64 + val0 w) % 256) :: rdec r
  | _ => []
theorem rdec_length : ∀ (s : List UInt8), (rdec s).length = s.length / 4 * 3
  | x :: y :: z :: w :: r => by simp only [rdec, List.length_cons, rdec_length r]; omega
  | [] => rfl
  | [_] => by simp [rdec]
  | [_, _] => by simp [rdec]
  | [_, _, _] => by simp [rdec]
/-- A text of bytes: its signs, its ends, and what the decoders make of it. -/
theorem enc_dec : ∀ bs, ∃ p k e, enc bs = p ++ List.replicate k 61 ∧ k ≤ 2 ∧ (∀ c ∈ p, plainSign c = true) ∧ decGo p 0 0 = some bs ∧ rdec (enc bs) = bs ++ e ∧ e.length = k ∧ (bs ≠ [] → p ≠ []) ∧ (bs = [] → k = 0)
  | a :: b :: c :: r => by
    obtain ⟨p, k, e, h1, h2, h3, h4, h5, h6, h7, h8⟩ := enc_dec r
    have := bv_lt a
    have := bv_lt b
    have := bv_lt c
    refine ⟨sgn6 (a.toNat / 4) :: sgn6 (a.toNat % 4 * 16 + b.toNat / 16) :: sgn6 (b.toNat % 16 * 4 + c.toNat / 64) :: sgn6 (c.toNat % 64) :: p, k, e, by simp [enc, h1], h2, ?_, ?_, ?_, h6, by simp, by simp⟩
    · intro x hx
      simp only [List.mem_cons] at hx
      rcases hx with rfl | rfl | rfl | rfl | hx
      · exact sgn_plain (by omega)
      · exact sgn_plain (by omega)
      · exact sgn_plain (by omega)
      · exact sgn_plain (by omega)
      · exact h3 x hx
    · rw [dec_four (by omega) (by omega) (by omega) (by omega), h4, Option.map_some, ofNat_eq (a := a) (by omega), ofNat_eq (a := b) (by omega), ofNat_eq (a := c) (by omega)]
    · simp only [enc, rdec, h5]
      rw [val0_sgn (by omega), val0_sgn (by omega), val0_sgn (by omega), val0_sgn (by omega), ofNat_eq (a := a) (by omega), ofNat_eq (a := b) (by omega), ofNat_eq (a := c) (by omega)]
      rfl
  | [a, b] => by
    have := bv_lt a
    have := bv_lt b
    refine ⟨[sgn6 (a.toNat / 4), sgn6 (a.toNat % 4 * 16 + b.toNat / 16), sgn6 (b.toNat % 16 * 4)], 1, [UInt8.ofNat ((((a.toNat / 4 * 64 + (a.toNat % 4 * 16 + b.toNat / 16)) * 64 + b.toNat % 16 * 4) * 64 + 0) % 256)], by simp [enc], by decide, ?_, ?_, ?_, rfl, by simp, by simp⟩
    · intro x hx
      simp only [List.mem_cons, List.not_mem_nil, or_false] at hx
      rcases hx with rfl | rfl | rfl
      · exact sgn_plain (by omega)
      · exact sgn_plain (by omega)
      · exact sgn_plain (by omega)
    · rw [dec_three (by omega) (by omega) (by omega), ofNat_eq (a := a) (by omega), ofNat_eq (a := b) (by omega)]
    · simp only [enc, rdec]
      rw [val0_sgn (by omega), val0_sgn (by omega), val0_sgn (by omega), val0_eq, ofNat_eq (a := a) (by omega), ofNat_eq (a := b) (by omega)]
      rfl
  | [a] => by
    have := bv_lt a
    refine ⟨[sgn6 (a.toNat / 4), sgn6 (a.toNat % 4 * 16)], 2, [UInt8.ofNat ((((a.toNat / 4 * 64 + a.toNat % 4 * 16) * 64 + 0) * 64 + 0) / 256 % 256), UInt8.ofNat ((((a.toNat / 4 * 64 + a.toNat % 4 * 16) * 64 + 0) * 64 + 0) % 256)], by simp [enc], by decide, ?_, ?_, ?_, rfl, by simp, by simp⟩
    · intro x hx
      simp only [List.mem_cons, List.not_mem_nil, or_false] at hx
      rcases hx with rfl | rfl
      · exact sgn_plain (by omega)
      · exact sgn_plain (by omega)
    · rw [dec_two (by omega) (by omega), ofNat_eq (a := a) (by omega)]
    · simp only [enc, rdec]
      rw [val0_sgn (by omega), val0_sgn (by omega), val0_eq, ofNat_eq (a := a) (by omega)]
      rfl
  | [] => ⟨[], 0, [], by simp [enc], by decide, by simp, rfl, rfl, rfl, by simp, fun _ => rfl⟩
/-- One = at the end is let go. -/
def strip1 (l : List UInt8) : List UInt8 := Lib.trimSuffix l [61]
theorem strip_one (l : List UInt8) : strip1 (l ++ [61]) = l := by
  unfold strip1 Lib.trimSuffix Lib.hasSuffix
  rw [if_pos (by simp [List.isSuffixOf_iff_suffix])]
  simp
theorem strip_no {l : List UInt8} (h : ∀ c ∈ l, plainSign c = true) : strip1 l = l := by
  unfold strip1 Lib.trimSuffix Lib.hasSuffix
  rw [if_neg]
  rw [List.isSuffixOf_iff_suffix]
  rintro ⟨t, rfl⟩
  exact plain_ne (h 61 (by simp)) rfl
theorem strip_enc {p : List UInt8} {k : Nat} (h : ∀ c ∈ p, plainSign c = true) (hk : k ≤ 2) : strip1 (strip1 (p ++ List.replicate k 61)) = p := by
  have : k = 0 ∨ k = 1 ∨ k = 2 := by omega
  rcases this with rfl | rfl | rfl
  · simp only [List.replicate_zero, List.append_nil, strip_no h]
  · rw [show List.replicate 1 (61 : UInt8) = [61] from rfl, strip_one, strip_no h]
  · rw [show p ++ List.replicate 2 (61 : UInt8) = (p ++ [61]) ++ [61] by simp [List.replicate]]
    rw [strip_one, strip_one]
theorem dec_enc (bs : List UInt8) : decGo (strip1 (strip1 (enc bs))) 0 0 = some bs := by
  obtain ⟨p, k, e, h1, h2, h3, h4, _⟩ := enc_dec bs
  rw [h1, strip_enc h3 h2, h4]
/-- How many bytes are let go at the end. -/
def rcut (s o : List UInt8) : Nat :=
  if 0 < o.length ∧ s[s.length - 1]? = some 61 then (if 1 < o.length ∧ s[s.length - 2]? = some 61 then 2 else 1) else 0
theorem rcut_enc (bs : List UInt8) : (rdec (enc bs)).take ((rdec (enc bs)).length - rcut (enc bs) (rdec (enc bs))) = bs := by
  obtain ⟨p, k, e, h1, h2, h3, h4, h5, h6, h7, h8⟩ := enc_dec bs
  have hr : rcut (enc bs) (rdec (enc bs)) = k := by
    by_cases hb : bs = []
    · obtain rfl := h8 hb
      subst hb
      have : e = [] := List.length_eq_zero_iff.1 h6
      subst this
      rw [h5]; rfl
    · have hl : 0 < bs.length := List.length_pos_iff.2 hb
      have hpl : 0 < p.length := List.length_pos_iff.2 (h7 hb)
      have last : ∀ j, j < k → (enc bs)[(enc bs).length - 1 - j]? = some 61 := by
        intro j hj
        rw [h1, List.length_append, List.length_replicate, List.getElem?_append_right (by omega), List.getElem?_replicate]
        rw [if_pos (by omega)]
      have lastp : (enc bs)[(enc bs).length - 1 - k]? ≠ some 61 := by
        rw [h1, List.length_append, List.length_replicate, List.getElem?_append_left (by omega)]
        intro h
        exact plain_ne (h3 _ (List.mem_of_getElem? h)) rfl
      have hlen : (rdec (enc bs)).length = bs.length + k := by rw [h5, List.length_append, h6]
      unfold rcut
      rw [hlen]
      have : k = 0 ∨ k = 1 ∨ k = 2 := by omega
      rcases this with rfl | rfl | rfl
      · rw [if_neg (fun h => lastp h.2)]
      · rw [if_pos ⟨by omega, last 0 (by omega)⟩, if_neg (fun h => lastp h.2)]
      · rw [if_pos ⟨by omega, last 0 (by omega)⟩, if_pos ⟨by omega, last 1 (by omega)⟩]
  rw [hr, h5, List.length_append, h6, Nat.add_sub_cancel, List.take_left]
/-- What IndexByte tells of a sign. -/
def sgnL : List UInt8 := (List.range 64).map sgn6
theorem index_all : (List.range 256).all (fun n => Lib.indexByte sgnL (UInt8.ofNat n) == (if val6 (UInt8.ofNat n) = 64 then -1 else (val6 (UInt8.ofNat n) : Int))) = true := by decide +kernel
theorem index_sgn (c : UInt8) : Lib.indexByte sgnL c = if val6 c = 64 then -1 else (val6 c : Int) := by
  have := List.all_eq_true.1 index_all c.toNat (List.mem_range.2 (bv_lt c))
  simpa using this
end Go.Proofs.YtekgjjanikicnaaDoor.Sx

namespace Go.Proofs.YtekgjjanikicnaaDoor.Sx
open Go
set_option maxRecDepth 100000
set_option linter.unusedSimpArgs false
set_option linter.unusedVariables false

/-- A call that computes a plain value, and leaves the world as it was. -/
theorem Tri.ofCalls {P : Program} {n : Nat} {args : List SV} {vs : List Value} {v : Value} {fx : List Fact} (hen : ∀ xs w, (callFunc n xs).run P w = .ok (.enter n xs) w) (hargs : ∀ ρ, denL ρ args = vs)
    (h : ∀ w, Calls P n vs.toArray w fun e w' => e = .returned v ∧ w' = w) : Tri P n args [] 0 fx (Ret 0 (.v v) [] 0 []) :=
  Tri.gone hen fun ρ F w hh => by
    rw [hargs ρ]
    exact (h w).mono fun e w' ⟨he, hw⟩ => ⟨he, by subst hw; exact Keeps.refl _ _⟩
set_option maxHeartbeats 1000000 in
theorem cTrim (s p : ByteArray) (w : World) (hs : s.size ≤ 9223372036854775807) :
    Calls Tryd.prog 129 #[.string s, .string p] w fun e w' => e = .returned (.string ⟨(Lib.trimSuffix s.data.toList p.data.toList).toArray⟩) ∧ w' = w := by
  have hlo : p.size ≤ s.size → ((s.size : Int) - (p.size : Int) + 9223372036854775808) % 18446744073709551616 - 9223372036854775808 = ((s.size - p.size : Nat) : Int) := fun _ => by omega
  go_enter Tryd.func129, Tryd.ntmps129
  go_wp2
  · have h1 : p.size ≤ s.size := by assumption
    have h2 : ((s.extract (s.size - p.size) s.size).toList == p.toList) = true := by assumption
    go_ret
    refine ⟨?_, rfl⟩
    rw [Lib.trimSuffix_hit s p h1 h2]
    rfl
  · have h2 : ((s.extract (s.size - p.size) s.size).toList == p.toList) = false := by assumption
    go_ret
    refine ⟨?_, rfl⟩
    rw [Lib.trimSuffix_miss s p (by rw [h2]; simp)]
    rfl
  · have h1 : ¬ p.size ≤ s.size := by assumption
    go_ret
    refine ⟨?_, rfl⟩
    rw [Lib.trimSuffix_miss s p (by simp [h1])]
    rfl
set_option maxHeartbeats 1000000 in
theorem cIndexIn (s : ByteArray) (c : Int) (w : World) :
    Calls Tryd.prog 161 #[.string s, .int .u8 c] w fun e w' => e = .returned (.int .i64 (Lib.indexByte s.data.toList c.toNat.toUInt8)) ∧ w' = w := by
  go_enter Tryd.func161, Tryd.ntmps161
  go_wp2
  rw [run_callFunc_extern Tryd.func183 (by kernel_rfl) (by kernel_rfl) (by kernel_rfl) (e := Extern.BytealgIndexByte.indexByte) (by kernel_rfl), Lib.run_indexByteString]
  simp only [Result.andThen]
  rw [Oper.upon_value]
  go_wp2
  go_ret
  exact ⟨rfl, rfl⟩
set_option maxHeartbeats 1000000 in
theorem cIndex (s : ByteArray) (c : Int) (w : World) :
    Calls Tryd.prog 130 #[.string s, .int .u8 c] w fun e w' => e = .returned (.int .i64 (Lib.indexByte s.data.toList c.toNat.toUInt8)) ∧ w' = w := by
  go_enter Tryd.func130, Tryd.ntmps130
  go_wp2_with (go_at_call 161; refine (cIndexIn _ _ _).mono ?_; rintro e w' ⟨rfl, rfl⟩)
  go_ret
  exact ⟨rfl, rfl⟩
theorem tTrim (fx : List Fact) (s : ByteArray) (hs : s.size ≤ 9223372036854775807) :
    Tri Tryd.prog 129 [.v (.string s), .v (.string ⟨#[61]⟩)] [] 0 fx (Ret 0 (.v (.string ⟨(strip1 s.data.toList).toArray⟩)) [] 0 []) :=
  Tri.ofCalls (fun xs w => by simp [callFunc, Tryd.func129, Tryd.f129]) (fun ρ => rfl) (fun w => cTrim s ⟨#[61]⟩ w hs)
theorem signs_list : signsB.data.toList = sgnL := by decide +kernel
theorem tIndex (fx : List Fact) (c : UInt8) :
    Tri Tryd.prog 130 [.v (.string signsB), .v (bv c)] [] 0 fx (Ret 0 (.v (.int .i64 (if val6 c = 64 then -1 else (val6 c : Int)))) [] 0 []) :=
  Tri.ofCalls (fun xs w => by simp [callFunc, Tryd.func130, Tryd.f130]) (fun ρ => rfl) (fun w => by
    have h := cIndex signsB (c.toNat : Int) w
    have e : ((c.toNat : Int)).toNat.toUInt8 = c := by simp
    rw [e, signs_list] at h
    rw [← index_sgn]
    exact h)
end Go.Proofs.YtekgjjanikicnaaDoor.Sx

namespace Go.Proofs.YtekgjjanikicnaaDoor.Sx
open Go
set_option maxRecDepth 100000
set_option linter.unusedSimpArgs false
set_option linter.unusedVariables false

theorem BytesAt.get {fx : List Fact} {A : Option Addr} {bs : List UInt8} (h : BytesAt fx A bs) {i : Nat} (hi : i < bs.length) : ∃ ad, A = some ad ∧ FC fx (ad.add (i * 1)) (bv bs[i]) := by
  cases A with
  | none => rw [h.1 rfl] at hi; simp at hi
  | some ad => exact ⟨ad, rfl, by rw [Nat.mul_one]; exact h.2 ad rfl i _ (List.getElem?_eq_getElem hi)⟩
theorem tSame (fx : List Fact) (A B : Option Addr) (ca cb : Nat) (a b : List UInt8) (hA : BytesAt fx A a) (hB : BytesAt fx B b) (hl : a.length < 9223372036854775808) :
    Tri Tryd.prog 42 [.v (.slice A a.length ca), .v (.slice B b.length cb)] [] 0 fx (Ret 0 (.v (.bool (decide (a = b)))) [] 0 []) := by
  refine Tri.of_code tok Tryd.func42 rfl rfl rfl (by decide) rfl (Nat.le_of_ble_eq_true rfl) ?_
  conv => whnf
  repeat' ((first | refine And.intro (by repeat' first | exact trivial | refine And.intro rfl ?_) (And.intro (by first | exact fun _ h => h | exact fun _ => List.mem_cons_of_mem _ | exact fun _ => List.mem_append_right _) ?_) | (refine And.intro (fun h => ?_) (fun h => ?_) <;> (try simp only [n1, n2, n3, n4, n5, n6] at h) <;> first | (exfalso; omega) | (cases h; done) | skip) | refine And.intro (by omega) ?_ | refine Exists.intro _ (And.intro (by first | exact And.intro rfl rfl | exact Pl.den (by repeat constructor) | with_reducible rfl | exact cast_succ _ | assumption | exact (Int.toNat_of_nonneg (by omega)).symm | rfl) ?_) | refine hD _ _ ?_ | refine hL _ _ ?_ | (intro h; (try simp only [n1, n2, n3, n4, n5, n6] at h); first | (exfalso; omega) | (cases h; done) | skip)) <;> (conv => whnf))
  · refine Ret.none rfl (fun ρ => ?_) (fun _ h => nomatch h)
    have hne : a ≠ b := fun e => by subst e; exact h rfl
    simp [den, hne]
  have hlen : a.length = b.length := by omega
  refine loop_by tok (α := Nat) (fun i => ⟨[(0, .v (.slice A a.length ca)), (1, .v (.slice B b.length cb)), (4, .b false), (5, .v (.int .i64 i))], [], 0, fx⟩) (fun i => i ≤ a.length ∧ a.take i = b.take i) (fun i => a.length - i) 0 [] (by simp) ⟨rfl, ?_, trivial, fun f hf => hf⟩ ?_
  · exact ⟨fun _ _ _ => rfl, fun _ _ _ => rfl, fun _ _ _ => rfl, fun _ _ _ => rfl, trivial⟩
  rintro i ⟨hi, he⟩
  conv => whnf
  repeat' ((first | refine And.intro (by repeat' first | exact trivial | refine And.intro rfl ?_) (And.intro (by first | exact fun _ h => h | exact fun _ => List.mem_cons_of_mem _ | exact fun _ => List.mem_append_right _) ?_) | (refine And.intro (fun h => ?_) (fun h => ?_) <;> (try simp only [n1, n2, n3, n4, n5, n6] at h) <;> first | (exfalso; omega) | (cases h; done) | skip) | refine And.intro (by omega) ?_ | refine Exists.intro _ (And.intro (by first | exact And.intro rfl rfl | exact Pl.den (by repeat constructor) | with_reducible rfl | exact cast_succ _ | assumption | exact (Int.toNat_of_nonneg (by omega)).symm | rfl) ?_) | refine hD _ _ ?_ | refine hL _ _ ?_ | (intro h; (try simp only [n1, n2, n3, n4, n5, n6] at h); first | (exfalso; omega) | (cases h; done) | skip)) <;> (conv => whnf))
  · refine draw_rule tok (by kernel_rfl) [.any 0, .any 1, .any 2, .any 4, .any 5, .any 6, .load 3, .load 7, .any 8] [] [] (by kernel_rfl) rfl rfl trivial ?_
    have hi1 : i < a.length := by omega
    have hi2 : i < b.length := by omega
    obtain ⟨ad, rfl, h1⟩ := hA.get hi1
    obtain ⟨bd, rfl, h2⟩ := hB.get hi2
    conv => whnf
    repeat' ((first | refine And.intro (by repeat' first | exact trivial | refine And.intro rfl ?_) (And.intro (by first | exact fun _ h => h | exact fun _ => List.mem_cons_of_mem _ | exact fun _ => List.mem_append_right _) ?_) | (refine And.intro (fun h => ?_) (fun h => ?_) <;> (try simp only [n1, n2, n3, n4, n5, n6] at h) <;> first | (exfalso; omega) | (cases h; done) | skip) | refine And.intro (by omega) ?_ | refine Exists.intro _ (And.intro (by first | exact And.intro rfl rfl | exact Pl.den (by repeat constructor) | with_reducible rfl | exact cast_succ _ | assumption | exact (Int.toNat_of_nonneg (by omega)).symm | rfl) ?_) | refine hD _ _ ?_ | refine hL _ _ ?_ | (intro h; (try simp only [n1, n2, n3, n4, n5, n6] at h); first | (exfalso; omega) | (cases h; done) | skip)) <;> (conv => whnf))
    · refine Ret.none rfl (fun ρ => ?_) (fun _ h => nomatch h)
      have hne : a ≠ b := fun e => by
        subst e
        exact h rfl
      simp [den, hne]
    · refine ⟨i + 1, [], ⟨⟨by omega, ?_⟩, by omega⟩, rfl, ⟨(fun _ _ _ => rfl), (fun _ _ _ => rfl), (fun _ _ _ => rfl), (fun _ _ _ => rfl), trivial⟩, trivial, fun f hf => hf⟩
      have hab : a[i] = b[i] := UInt8.toNat_inj.1 (by omega)
      rw [take_succ_of (List.getElem?_eq_getElem hi1), take_succ_of (List.getElem?_eq_getElem hi2), he, hab]
  · refine Ret.none rfl (fun ρ => ?_) (fun _ h => nomatch h)
    obtain rfl : i = a.length := by omega
    have hab : a = b := by
      rw [List.take_length, hlen, List.take_length] at he
      exact he
    simp [den, hab]
end Go.Proofs.YtekgjjanikicnaaDoor.Sx
