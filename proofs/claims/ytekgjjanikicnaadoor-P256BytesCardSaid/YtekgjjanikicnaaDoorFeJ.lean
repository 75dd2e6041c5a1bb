/- What the laws of the curve are handed, opened: points, numbers; what the package-level variables hold. -/
import Derived.Test.YtekgjjanikicnaaDoorFeA
import Derived.Test.YtekgjjanikicnaaDoorSxO
import Derived.Test.YtekgjjanikicnaaDoorRows
import Derived.LaidLaws
import Derived.LaidHandle
import Derived.LaidMore
import Derived.MakeChecks
import Derived.Lib.LaidTab
import Derived.Lib.LaidU8
import Derived.OpenShut
import Derived.JoinedOf
import Derived.Stop.Joined
namespace Go.Proofs.YtekgjjanikicnaaDoor.Sx
open Go Go.ChangeShapes Go.WideShapes Go.ChangeAt Go.RowKit
set_option maxRecDepth 100000
set_option linter.unusedVariables false
set_option linter.unusedSimpArgs false

section
variable {H : Type} {enc : TypeId × Value → H} {W : World}
theorem four_of {α : Type} : ∀ {l : List α}, l.length = 4 → ∃ a b c d, l = [a, b, c, d]
  | [a, b, c, d], _ => ⟨a, b, c, d, rfl⟩
theorem nine_of {α : Type} : ∀ {l : List α}, l.length = 9 → ∃ a b c d e f g h i, l = [a, b, c, d, e, f, g, h, i]
  | [a, b, c, d, e, f, g, h, i], _ => ⟨a, b, c, d, e, f, g, h, i, rfl⟩
theorem u64_nat {n : Int} (h : (Lit.int .u64 n).wf = true) : ∃ m : Nat, m < 18446744073709551616 ∧ n = (m : Int) := by
  have hb : 0 ≤ n ∧ n ≤ 18446744073709551615 := by
    simp only [Lit.wf, Bool.and_eq_true, decide_eq_true_iff] at h
    exact ⟨by simpa [IntKind.min, IntKind.signed] using h.1, by simpa [IntKind.max, IntKind.signed, IntKind.bits] using h.2⟩
  exact ⟨n.toNat, by omega, by omega⟩
def N4.vs (x : N4) : List Value := [.int .u64 (x.a : Int), .int .u64 (x.b : Int), .int .u64 (x.c : Int), .int .u64 (x.d : Int)]
theorem trod_n4 {t base fuel : Nat} {sp : Nat → Bool} {held : Bool} {cs : List Value} {x : DataW H × List MemPlace} (ht : Tryd.prog.underlying t = some (.array 4 22)) (hc : Tryd.prog.cellsOf t = 4) (h : DataW.trod enc Tryd.prog W base sp held fuel t cs = some x) : ∃ n : N4, n.Ok ∧ cs = n.vs := by
  obtain ⟨h1, h2⟩ := trod_part ht h
  have c22 : Tryd.prog.cellsOf 22 = 1 := by kernel_rfl
  rw [hc] at h1
  obtain ⟨a, b, c, d, rfl⟩ := four_of h1
  have key : ∀ i, i < 4 → ∃ m : Nat, m < 18446744073709551616 ∧ (([a, b, c, d].drop i).take 1) = [.int .u64 (m : Int)] := fun i hi => by
    obtain ⟨f, y, k⟩ := h2 i hi
    rw [c22, Nat.mul_one] at k
    obtain ⟨n, e, _, w⟩ := DataW.trod_int Tryd.underlying22 k
    obtain ⟨m, hm, rfl⟩ := u64_nat w
    exact ⟨m, hm, e⟩
  obtain ⟨m0, k0, e0⟩ := key 0 (by decide)
  obtain ⟨m1, k1, e1⟩ := key 1 (by decide)
  obtain ⟨m2, k2, e2⟩ := key 2 (by decide)
  obtain ⟨m3, k3, e3⟩ := key 3 (by decide)
  simp only [List.drop_zero, List.drop_succ_cons, List.take_succ_cons, List.take_zero, List.cons.injEq, and_true] at e0 e1 e2 e3
  subst e0 e1 e2 e3
  exact ⟨⟨m0, m1, m2, m3⟩, ⟨k0, k1, k2, k3⟩, rfl⟩
theorem open_nat {r : Reach} {b0 : Nat} {v : Value} {d : DataW H} {ps : List MemPlace} {base : Nat} {sp : Nat → Bool} {held : Bool}
    (hval : Value.okWide Tryd.prog W r b0 24 v) (hd : DataW.Trod enc Tryd.prog W base sp held 24 v d ps) : ∃ n : N4, v = .agg ⟨n.vs⟩ ∧ n.Ok := by
  obtain ⟨fuel, cs, rfl, hf⟩ := open_agg (.inr ⟨4, 22, Tryd.underlying24⟩) hval hd
  obtain ⟨n, h1, rfl⟩ := trod_n4 Tryd.underlying24 (by kernel_rfl) hf
  exact ⟨n, rfl, h1⟩
theorem open_point {r : Reach} {b0 : Nat} {v : Value} {d : DataW H} {ps : List MemPlace} {base : Nat} {sp : Nat → Bool} {held : Bool}
    (hval : Value.okWide Tryd.prog W r b0 26 v) (hd : DataW.Trod enc Tryd.prog W base sp held 26 v d ps) : ∃ p : Pt4, v = .agg ⟨p.vs⟩ ∧ p.Ok := by
  obtain ⟨fuel, cs, rfl, hf⟩ := open_agg (.inl ⟨_, Tryd.underlying26⟩) hval hd
  obtain ⟨h1, h2⟩ := trod_field Tryd.underlying26 hf
  have hc : Tryd.prog.cellsOf 26 = 9 := by kernel_rfl
  have c24 : Tryd.prog.cellsOf 24 = 4 := by kernel_rfl
  have c4 : Tryd.prog.cellsOf 4 = 1 := by kernel_rfl
  rw [hc] at h1
  obtain ⟨a, b, c, d, e, f, g, h, i, rfl⟩ := nine_of h1
  obtain ⟨f0, y0, k0⟩ : ∃ fu y, DataW.trod enc Tryd.prog W base sp held fu 24 (List.take (Tryd.prog.cellsOf 24) (List.drop 0 [a, b, c, d, e, f, g, h, i])) = some y := h2 0 _ rfl
  obtain ⟨f1, y1, k1⟩ : ∃ fu y, DataW.trod enc Tryd.prog W base sp held fu 24 (List.take (Tryd.prog.cellsOf 24) (List.drop 4 [a, b, c, d, e, f, g, h, i])) = some y := h2 1 _ rfl
  obtain ⟨f2, y2, k2⟩ : ∃ fu y, DataW.trod enc Tryd.prog W base sp held fu 4 (List.take (Tryd.prog.cellsOf 4) (List.drop 8 [a, b, c, d, e, f, g, h, i])) = some y := h2 2 _ rfl
  simp only [c24, c4, List.drop_zero, List.drop_succ_cons, List.take_succ_cons, List.take_zero] at k0 k1 k2
  obtain ⟨x, hx, e1⟩ := trod_n4 Tryd.underlying24 c24 k0
  obtain ⟨y, hy, e2⟩ := trod_n4 Tryd.underlying24 c24 k1
  obtain ⟨n, e3, _⟩ := DataW.trod_bool Tryd.underlying4 k2
  simp only [N4.vs, List.cons.injEq, and_true] at e1 e2 e3
  obtain ⟨rfl, rfl, rfl, rfl⟩ := e1
  obtain ⟨rfl, rfl, rfl, rfl⟩ := e2
  subst e3
  exact ⟨⟨x, y, n⟩, rfl, ⟨hx, hy⟩⟩
end
/-! ### The package-level variables -/
theorem gnB : Tryd.prog.globalNamed "chronicle/p256.b" = some 0 := by kernel_rfl
theorem gnOne : Tryd.prog.globalNamed "chronicle/p256.one" = some 1 := by kernel_rfl
theorem gnM : Tryd.prog.globalNamed "chronicle/field.moduli" = some 3 := by kernel_rfl
theorem gtB : (Tryd.prog.globals[0]?).map (·.type) = some 24 := by kernel_rfl
theorem gtOne : (Tryd.prog.globals[1]?).map (·.type) = some 24 := by kernel_rfl
theorem gtM : (Tryd.prog.globals[3]?).map (·.type) = some 185 := by kernel_rfl
theorem var_cells {W : World} {name : String} {g : Nat} {cs : Array Value} {vs : List Value} (hg : Tryd.prog.globalNamed name = some g) (hv : W.var? Tryd.prog name = some cs) (he : ∀ (j : Nat) (y : Value), vs[j]? = some y → cs.toList[j]? = some y) : ∀ (j : Nat) (y : Value), vs[j]? = some y → W.cell? ⟨g, j, none⟩ = some y := fun j y hj => by
  have h1 := World.var?_cell hg hv j
  rw [h1]
  have := he j y hj
  rwa [Array.getElem?_toList] at this
theorem read_at {W : World} {l : List (String × DataW Unit)} (h : laidMet Tryd.prog l W) {n : String} {d : DataW Unit} (hm : (n, d) ∈ l) {g t : Nat} (hg : Tryd.prog.globalNamed n = some g) (ht : (Tryd.prog.globals[g]?).map (·.type) = some t) :
    ∃ cs fuel p, W.var? Tryd.prog n = some cs ∧ DataW.trod (fun _ => ()) Tryd.prog W 0 (fun _ => true) false fuel t cs.toList = some (d, p) := by
  obtain ⟨g', t', cs, fuel, p, hg', ht', hv, hd⟩ := Lib.laidMet.reads h hm
  obtain rfl := Option.some.inj (hg.symm.trans hg')
  obtain rfl := Option.some.inj (ht.symm.trans ht')
  exact ⟨cs, fuel, p, hv, hd⟩
theorem tab4 {W : World} {fuel t : Nat} {sp : Nat → Bool} {held : Bool} {base : Nat} {cs : List Value} {p : List MemPlace} {a b c d : Int} (ht : Tryd.prog.underlying t = some (.array 4 22)) (hc : Tryd.prog.cellsOf t = 4)
    (h : DataW.trod (fun _ => ()) Tryd.prog W base sp held fuel t cs = some ((.agg [.lit (.int .u64 a), .lit (.int .u64 b), .lit (.int .u64 c), .lit (.int .u64 d)] : DataW Unit), p)) : cs = [.int .u64 a, .int .u64 b, .int .u64 c, .int .u64 d] :=
  Lib.cells_of_tab (zs := [a, b, c, d]) ht Tryd.underlying22 (by kernel_rfl) hc h
theorem mod_cells {W : World} {fuel : Nat} {sp : Nat → Bool} {held : Bool} {base : Nat} {cs : List Value} {p : List MemPlace} {a b c d a' b' c' d' e : Int}
    (h : DataW.trod (fun _ => ()) Tryd.prog W base sp held fuel 161 cs = some ((.agg [.agg [.lit (.int .u64 a), .lit (.int .u64 b), .lit (.int .u64 c), .lit (.int .u64 d)], .agg [.lit (.int .u64 a'), .lit (.int .u64 b'), .lit (.int .u64 c'), .lit (.int .u64 d')], .lit (.int .u64 e)] : DataW Unit), p)) :
    cs = [.int .u64 a, .int .u64 b, .int .u64 c, .int .u64 d, .int .u64 a', .int .u64 b', .int .u64 c', .int .u64 d', .int .u64 e] := by
  obtain ⟨xs, n, _, hx, hl, h3, hel⟩ := DataW.trod_struct Tryd.underlying161 h
  have hc : Tryd.prog.cellsOf 161 = 9 := by kernel_rfl
  have c24 : Tryd.prog.cellsOf 24 = 4 := by kernel_rfl
  have c22 : Tryd.prog.cellsOf 22 = 1 := by kernel_rfl
  rw [hc] at hl
  obtain ⟨q0, q1, q2, q3, q4, q5, q6, q7, q8, rfl⟩ := nine_of hl
  have k0 := hel 0 _ rfl
  have k1 := hel 1 _ rfl
  have k2 := hel 2 _ rfl
  simp only [Prod.mk.injEq, DataW.agg.injEq] at hx
  match xs, hx with
  | [x0, x1, x2], hx =>
    simp only [List.map_cons, List.map_nil, List.cons.injEq, and_true] at hx
    obtain ⟨⟨e0, e1, e2⟩, _⟩ := hx
    have k0 : DataW.trod (fun _ => ()) Tryd.prog W base sp held n 24 (List.take (Tryd.prog.cellsOf 24) (List.drop 0 [q0, q1, q2, q3, q4, q5, q6, q7, q8])) = some (x0.1, x0.2) := k0
    have k1 : DataW.trod (fun _ => ()) Tryd.prog W base sp held n 24 (List.take (Tryd.prog.cellsOf 24) (List.drop 4 [q0, q1, q2, q3, q4, q5, q6, q7, q8])) = some (x1.1, x1.2) := k1
    have k2 : DataW.trod (fun _ => ()) Tryd.prog W base sp held n 22 (List.take (Tryd.prog.cellsOf 22) (List.drop 8 [q0, q1, q2, q3, q4, q5, q6, q7, q8])) = some (x2.1, x2.2) := k2
    rw [← e0, c24] at k0
    rw [← e1, c24] at k1
    rw [← e2, c22] at k2
    have g0 := tab4 Tryd.underlying24 c24 k0
    have g1 := tab4 Tryd.underlying24 c24 k1
    obtain ⟨m, g2, g3, _⟩ := DataW.trod_int Tryd.underlying22 k2
    simp only [Prod.mk.injEq, DataW.lit.injEq, Lit.int.injEq, true_and] at g3
    obtain ⟨rfl, _⟩ := g3
    simp only [List.drop_zero, List.drop_succ_cons, List.take_succ_cons, List.take_zero, List.cons.injEq, and_true] at g0 g1 g2
    obtain ⟨rfl, rfl, rfl, rfl⟩ := g0
    obtain ⟨rfl, rfl, rfl, rfl⟩ := g1
    obtain rfl := g2
    rfl
theorem moduli_cells {W : World} {fuel : Nat} {sp : Nat → Bool} {held : Bool} {base : Nat} {cs : List Value} {p : List MemPlace} (h : DataW.trod (fun _ => ()) Tryd.prog W base sp held fuel 185 cs = some (Rows.laid_chronicle_field_moduli, p)) : ∀ (j : Nat) (y : Value), gM0[j]? = some y → cs[j]? = some y := by
  obtain ⟨xs, n, _, hx, hl, h3, hel⟩ := DataW.trod_array Tryd.underlying185 h
  have c161 : Tryd.prog.cellsOf 161 = 9 := by kernel_rfl
  have k0 := hel 0 (by decide)
  simp only [Prod.mk.injEq, Rows.laid_chronicle_field_moduli, DataW.agg.injEq] at hx
  match xs, hx, k0 with
  | x0 :: r, hx, k0 =>
    simp only [List.map_cons, List.cons.injEq] at hx
    obtain ⟨⟨e0, _⟩, _⟩ := hx
    rw [Nat.zero_mul, List.drop_zero, c161] at k0
    have k0 : DataW.trod (fun _ => ()) Tryd.prog W base sp held n 161 (cs.take 9) = some (x0.1, x0.2) := k0
    rw [← e0] at k0
    have g := mod_cells k0
    intro j y hj
    have hlt : j < 9 := (List.getElem?_eq_some_iff.1 hj).1
    have : (cs.take 9)[j]? = some y := by rw [g]; exact hj
    rwa [List.getElem?_take, if_pos hlt] at this
theorem glob_of_laid {W : World} {l : List (String × DataW Unit)} (h : laidMetH Tryd.prog l W) (hh : (l.all fun x => x.2.handleName?.isNone) = true) (hm : ("chronicle/field.moduli", Rows.laid_chronicle_field_moduli) ∈ l) (hb : ("chronicle/p256.b", Rows.laid_chronicle_p256_b) ∈ l) : glob.φ W := by
  rw [MakeChecks.laidMetH_plain _ _ _ hh] at h
  have c24 : Tryd.prog.cellsOf 24 = 4 := by kernel_rfl
  obtain ⟨c0, f0, p0, v0, d0⟩ := read_at h hb gnB gtB
  obtain ⟨c3, f3, p3, v3, d3⟩ := read_at h hm gnM gtM
  have e0 := tab4 Tryd.underlying24 c24 d0
  exact ⟨var_cells gnB v0 (fun j y hj => by rw [e0]; exact hj), var_cells gnM v3 (moduli_cells d3)⟩
theorem glob1_of_laid {W : World} {l : List (String × DataW Unit)} (h : laidMetH Tryd.prog l W) (hh : (l.all fun x => x.2.handleName?.isNone) = true) (h1 : ("chronicle/p256.one", Rows.laid_chronicle_p256_one) ∈ l) : glob1.φ W := by
  rw [MakeChecks.laidMetH_plain _ _ _ hh] at h
  have c24 : Tryd.prog.cellsOf 24 = 4 := by kernel_rfl
  obtain ⟨c1, f1, p1, v1, d1⟩ := read_at h h1 gnOne gtOne
  have e1 := tab4 Tryd.underlying24 c24 d1
  exact var_cells gnOne v1 (fun j y hj => by rw [e1]; exact hj)
end Go.Proofs.YtekgjjanikicnaaDoor.Sx
namespace Go.Proofs.YtekgjjanikicnaaDoor.Sx
open Go Go.ChangeShapes Go.WideShapes Go.ChangeAt Go.RowKit
set_option maxRecDepth 100000
set_option linter.unusedVariables false
theorem Tri.callsF {P : Program} {n : Nat} {args : List SV} {W : World} {fx : List Fact} {post : SV → List (Nat × SObj) → Nat → List Fact → Prop} (hen : ∀ xs w, (callFunc n xs).run P w = .ok (.enter n xs) w) (T : Tri P n args [] 0 fx post) (hfx : ∀ f, f ∈ fx → f.φ W ∧ ∀ k, f.G k → k < W.heap.size) {vs : List Value} (hvs : ∀ ρ, denL ρ args = vs)
    {v : Value} (hv : ∀ y h m f, post y h m f → ∀ ρ, den ρ y = v) : Calls P n vs.toArray W fun e W' => e = .returned v ∧ Keeps (fun _ => False) W W' := by
  have h0 : HpOk id (fun _ _ => False) [] 0 fx W := by
    refine ⟨fun _ _ r o hm => (by cases hm), fun r o hm => (by cases hm), fun r o r' o' hm => (by cases hm), fun r o hm => (by cases hm), fun f hf => ?_⟩
    exact ⟨(hfx f hf).1, fun k hk => ⟨fun ⟨r, o, hm, _⟩ => (by cases hm), (hfx f hf).2 k hk⟩⟩
  have h1 := (T.run id (fun _ _ => False) W h0 (fun ρ' _ => by rw [hvs, hvs])).enters (hen _ _)
  rw [hvs] at h1
  refine h1.mono fun e w' ⟨y, h', m', fx', ρ', F', hp, he, hy, hh1, hag, hm, hk, ho, hf⟩ => ⟨?_, hk.mono fun k ⟨r, o, hm, _⟩ => by cases hm⟩
  rw [he, hv _ _ _ _ hp]
theorem glob_lt {W : World} (h : glob.φ W) : ∀ k, glob.G k → k < W.heap.size := by
  rintro k (rfl | rfl)
  · exact World.block_lt_of_cell? W ⟨0, 0, none⟩ (h.1 0 _ rfl)
  · exact World.block_lt_of_cell? W ⟨3, 0, none⟩ (h.2 0 _ rfl)
theorem glob_old {W : World} (h : glob.φ W) : ∀ f, f ∈ [glob, oldFact W] → f.φ W ∧ ∀ k, f.G k → k < W.heap.size := by
  intro f hf
  rcases List.mem_cons.1 hf with rfl | hf
  · exact ⟨h, glob_lt h⟩
  · obtain rfl := List.mem_singleton.1 hf
    exact ⟨fun k _ => rfl, fun k hk => hk⟩
theorem glob_old3 {W : World} (h : glob.φ W ∧ glob1.φ W) : ∀ f, f ∈ [glob, glob1, oldFact W] → f.φ W ∧ ∀ k, f.G k → k < W.heap.size := by
  intro f hf
  rcases List.mem_cons.1 hf with rfl | hf
  · exact ⟨h.1, glob_lt h.1⟩
  rcases List.mem_cons.1 hf with rfl | hf
  · exact ⟨h.2, fun k hk => by have e : k = 1 := hk; subst e; exact World.block_lt_of_cell? W ⟨1, 0, none⟩ (h.2 0 _ rfl)⟩
  · obtain rfl := List.mem_singleton.1 hf
    exact ⟨fun k _ => rfl, fun k hk => hk⟩
end Go.Proofs.YtekgjjanikicnaaDoor.Sx
