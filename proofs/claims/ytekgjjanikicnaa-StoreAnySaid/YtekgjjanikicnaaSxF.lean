/- A symbolic executor for the model's code, part 15: from what a call is shown to do to what a row's form asks of a law. -/
import Derived.Test.YtekgjjanikicnaaSxE
import Derived.ChangeSame
import Derived.ReadAgain
import Derived.OpenShut
import Derived.WalkKit
import Derived.ProofKit
namespace Go.Proofs.Ytekgjjanikicnaa.Sx
open Go Go.ChangeShapes Go.WideShapes Go.ChangeAt Go.RowKit
set_option linter.unusedVariables false
set_option linter.unusedSimpArgs false

/-- All blocks that there are, as they are. -/
def oldFact (W : World) : Fact := ⟨fun k => k < W.heap.size, fun w => ∀ k, k < W.heap.size → w.heap[k]? = W.heap[k]?, fun h e k hk => (e k hk).trans (h k hk)⟩
theorem oldFact_FC {W : World} {fx : List Fact} (h : oldFact W ∈ fx) {ad : Addr} {x : Value} (hc : W.cell? ad = some x) : FC fx ad x :=
  ⟨_, h, fun w hw => by rw [World.cell?_of_block (w := W) (hw ad.block (World.block_lt_of_cell? W ad hc))]; exact hc⟩
theorem Tri.calls {P : Program} {n : Nat} {args : List SV} {W : World} {post : SV → List (Nat × SObj) → Nat → List Fact → Prop} (hen : ∀ xs w, (callFunc n xs).run P w = .ok (.enter n xs) w) (T : Tri P n args [] 0 [oldFact W] post) {vs : List Value} (hvs : ∀ ρ, denL ρ args = vs)
    {v : Value} (hv : ∀ y h m f, post y h m f → ∀ ρ, den ρ y = v) : Calls P n vs.toArray W fun e W' => e = .returned v ∧ Keeps (fun _ => False) W W' := by
  have h0 : HpOk id (fun _ _ => False) [] 0 [oldFact W] W := by
    refine ⟨fun _ _ r o hm => (by cases hm), fun r o hm => (by cases hm), fun r o r' o' hm => (by cases hm), fun r o hm => (by cases hm), fun f hf => ?_⟩
    obtain rfl := List.mem_singleton.1 hf
    exact ⟨fun k _ => rfl, fun k hk => ⟨fun ⟨r, o, hm, _⟩ => (by cases hm), hk⟩⟩
  have h1 := (T.run id (fun _ _ => False) W h0 (fun ρ' _ => by rw [hvs, hvs])).enters (hen _ _)
  rw [hvs] at h1
  refine h1.mono fun e w' ⟨y, h', m', fx', ρ', F', hp, he, hy, hh1, hag, hm, hk, ho, hf⟩ => ⟨?_, hk.mono fun k ⟨r, o, hm, _⟩ => by cases hm⟩
  rw [he, hv _ _ _ _ hp]
section
variable {H : Type} {enc : TypeId × Value → H} {P : Program}
theorem trodAll_keeps {W W' : World} (hk : ∀ k, k < W.heap.size → W'.heap[k]? = W.heap[k]?) {base : Nat} {sp : Nat → Bool} {held : Bool} : ∀ {ts : List TypeId} {vs : List Value} {ds : List (DataW H)} {ps : List MemPlace},
    (∀ p ∈ ps, p.block < W.heap.size) → DataW.TrodAll enc P W base sp held ts vs ds ps → DataW.TrodAll enc P W' base sp held ts vs ds ps
  | [], [], [], _, _, h => h
  | _ :: _, _ :: _, _ :: _, _, hl, ⟨p, q, ⟨fuel, h1⟩, h2, e⟩ => by
    subst e
    refine ⟨p, q, ⟨fuel, DataW.trod_carry _ _ _ _ h1 fun x hx => ?_⟩, trodAll_keeps hk (fun x hx => hl x (List.mem_append_right _ hx)) h2, rfl⟩
    have hb := hk x.block (hl x (List.mem_append_left _ hx))
    cases x with
    | cell b off => exact World.cell?_of_block (w := W) (a := ⟨b, off, none⟩) hb
    | map b => exact hb
theorem keptBut_keeps {W W' : World} (hk : Keeps (fun _ => False) W W') (may : MemPlace → Prop) : W.keptBut W' may := by
  refine ⟨hk.os, hk.output, fun i hi => ?_⟩
  have e := hk.block i hi (fun h => h)
  rw [e]
  cases h : W.heap[i]? with
  | none => trivial
  | some o =>
    cases o with
    | cells c t fr => exact ⟨rfl, rfl, rfl, fun _ _ => rfl⟩
    | map es clk => exact Or.inr ⟨rfl, rfl⟩
    | _ => rfl
theorem post_law {f : Func} {s : ChangeSpec} {apart fresh handsOn : Bool} {W W' : World} {args : Array Value} {ds gs : List (DataW H)} {before : List MemPlace} {tb : TypeId}
    (hl : laidOutB P = true) (hm : mapsRowed P = true) (hz : ((List.range P.types.size).all fun t => match P.underlying t with | some (.slice e) => decide (0 < P.cellsOf e) | _ => true) = true)
    (hts : f.params.toList.all (fun t => decide (t < P.types.size)) = true) (hW : DataW.Whole enc P f.params.toList s.vars apart W args.toList ds gs before) (hk : Keeps (fun _ => False) W W')
    (hvars : s.vars = []) (hrt : f.resultTypes = #[tb]) (hb : P.underlying tb = some .bool) (hfn : s.fn H ds = { results := [.lit (.bool true)], args := ds }) :
    s.post enc P f apart fresh handsOn false W args (.bool true) W' := by
  have hlt := hW.lt
  have hW' := hW
  obtain ⟨p, q, hA, hV, he, hfz, hap⟩ := hW
  rw [hvars] at hV
  obtain ⟨rfl, rfl⟩ := trodVars_none hV
  have he' : before = p := by rw [he]; simp
  subst he'
  have hT : ∀ t ∈ f.params.toList, t < P.types.size := fun t ht => by simpa using List.all_eq_true.1 hts t ht
  have hA' := trodAll_keeps (W' := W') (fun k hk' => hk.block k hk' fun h => h) (fun x hx => hlt x hx) hA
  have hA2 := DataW.TrodAll.respare (spare' := fun b => decide (b < W.heap.size)) (kids_rows hl hm) (fun t e => slices_full_of P hz t e) hT hA' (fun x hx => by simpa using hlt x hx)
  refine ⟨ds, [], before, [], before, [], hW', ?_, ?_, ?_, keptBut_keeps hk _, fun h => by cases h⟩
  · rw [List.append_nil, hfn, hrt]
    exact trodAll_mk1 (shut_bool hb true)
  · rw [List.append_nil, hfn]
    exact hA2
  · rw [hvars, List.append_nil, hfn]
    rfl
end
end Go.Proofs.Ytekgjjanikicnaa.Sx
