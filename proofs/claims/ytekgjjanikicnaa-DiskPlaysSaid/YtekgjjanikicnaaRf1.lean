/- The reference's disk, as a region of its own; what its calls do. -/
import Derived.Test.YtekgjjanikicnaaDk8
import Derived.Test.YtekgjjanikicnaaSxP
namespace Go.Proofs.Ytekgjjanikicnaa.Sx
open Go
set_option maxRecDepth 100000
set_option linter.unusedSimpArgs false
set_option linter.unusedVariables false

/-- The rows of the reference's disk: of each sector a slice that lasts, and one that was written since. -/
structure RefOk (fx : List Fact) (ls ns : List Value) (d : DS) : Prop where
  ll : d.l.length ≤ ls.length
  nl : d.l.length ≤ ns.length
  las : ∀ (i : Nat) s, d.l[i]? = some s → ∃ A cap, ls[i]? = some (Value.slice A 64 cap) ∧ BytesAt fx A s ∧ 64 ≤ cap
  non : ∀ i : Nat, i < d.l.length → d.c i = none → ns[i]? = some (Value.slice none 0 0)
  new : ∀ (i : Nat) t, d.c i = some t → ∃ A cap, ns[i]? = some (Value.slice A 64 cap) ∧ BytesAt fx A t ∧ 64 ≤ cap
theorem RefOk.mono {fx fx' : List Fact} {ls ns : List Value} {d : DS} (h : RefOk fx ls ns d) (hf : ∀ f, f ∈ fx → f ∈ fx') : RefOk fx' ls ns d :=
  ⟨h.ll, h.nl, fun i s hi => by obtain ⟨A, cap, h1, h2⟩ := h.las i s hi; exact ⟨A, cap, h1, h2.1.mono hf, h2.2⟩, h.non, fun i s hi => by obtain ⟨A, cap, h1, h2⟩ := h.new i s hi; exact ⟨A, cap, h1, h2.1.mono hf, h2.2⟩⟩
inductive RefV (fx : List Fact) (d : DS) where
  | zero (h : d.l = [])
  | rows (ls ns : List Value) (h : RefOk fx ls ns d)
def refL {fx : List Fact} {d : DS} : RefV fx d → List (Nat × SObj)
  | .zero _ => [(0, .cells [.v (.slice none 0 0), .v (.slice none 0 0), .v (.int .i64 d.fuse), .v (.bool d.down)] 59)]
  | .rows ls ns _ => [(0, .cells [.s 1 0 d.l.length ls.length, .s 2 0 d.l.length ns.length, .v (.int .i64 d.fuse), .v (.bool d.down)] 59), (1, .row ls 22), (2, .row ns 22)]
def refA (fx : List Fact) (d : DS) : AR := bun (refL (fx := fx) (d := d))
abbrev ref (r : Nat) (fx : List Fact) (d : DS) : Nat × SObj := (r, .abs (refA fx d))
theorem told_ref (fx : List Fact) (d : DS) : Told (refA fx d) (fun i r m => renH (nm r m) (refL (fx := fx) (d := d) i)) 2 := by
  refine told_bun _ 2 fun i j o hm => ?_
  cases i with
  | zero h =>
    simp only [refL, List.mem_singleton, Prod.mk.injEq] at hm
    obtain ⟨rfl, rfl⟩ := hm
    exact ⟨by decide, rfl⟩
  | rows ls ns h =>
    simp only [refL, List.mem_cons, List.not_mem_nil, or_false, Prod.mk.injEq] at hm
    rcases hm with ⟨rfl, rfl⟩ | ⟨rfl, rfl⟩ | ⟨rfl, rfl⟩ <;> exact ⟨by decide, rfl⟩
theorem ref_mono {fx fx' : List Fact} {d : DS} (hf : ∀ f, f ∈ fx → f ∈ fx') : ∀ w b F, (refA fx d).A w b F → (refA fx' d).A w b F := by
  rintro w b F ⟨i, ρ, G, h1, h2, h3, h4⟩
  cases i with
  | zero h => exact ⟨.zero h, ρ, G, h1, h2, h3, h4⟩
  | rows ls ns h => exact ⟨.rows ls ns (h.mono hf), ρ, G, h1, h2, h3, h4⟩
theorem ref_zero {fx : List Fact} {d : DS} {σ : List Nat} {h : List (Nat × SObj)} {cs : List SV} (h1 : (sg σ 0, SObj.cells cs 59) ∈ h) (hd : d.l = []) (hc : ∀ ρ, denL ρ cs = [Value.slice Option.none 0 0, .slice Option.none 0 0, .int .i64 d.fuse, .bool d.down]) :
    Fold h (ref (sg σ 0) fx d :: restH [sg σ 0] h) :=
  bun_fold (L := refL (fx := fx) (d := d)) (.zero hd) σ rfl ⟨⟨_, h1, OSame.cells fun ρ => by rw [hc]; rfl⟩, trivial⟩
theorem ref_rows {fx : List Fact} {d : DS} {σ : List Nat} {h : List (Nat × SObj)} {cs : List SV} {ls ns : List Value} (h1 : (sg σ 0, SObj.cells cs 59) ∈ h) (h2 : (sg σ 1, SObj.row ls 22) ∈ h) (h3 : (sg σ 2, SObj.row ns 22) ∈ h)
    (hσ : injB σ [0, 1, 2] = true) (hd : RefOk fx ls ns d) (hc : ∀ ρ, denL ρ cs = [Value.slice (some ⟨ρ (sg σ 1), 0, Option.none⟩) d.l.length ls.length, .slice (some ⟨ρ (sg σ 2), 0, Option.none⟩) d.l.length ns.length, .int .i64 d.fuse, .bool d.down]) :
    Fold h (ref (sg σ 0) fx d :: restH [sg σ 0, sg σ 1, sg σ 2] h) :=
  bun_fold (L := refL (fx := fx) (d := d)) (.rows ls ns hd) σ hσ ⟨⟨_, h1, OSame.cells fun ρ => by rw [hc]; rfl⟩, ⟨_, h2, OSame.ren rfl⟩, ⟨_, h3, OSame.ren rfl⟩, trivial⟩
/-- What a call leaves of the reference's disk. -/
theorem Ret.ref0 {fx : List Fact} {d : DS} {h : List (Nat × SObj)} {cs : List SV} {v y : SV} {n : Nat} {f' f : List Fact} (h1 : (0, SObj.cells cs 59) ∈ h) (hn : namesOk 1 n 1 [0] [0] = true) (hd : d.l = []) (hv : SEq 1 [0] v y)
    (hc : ∀ ρ, denL ρ cs = [Value.slice Option.none 0 0, .slice Option.none 0 0, .int .i64 d.fuse, .bool d.down]) (hg : ∀ g, g ∈ f' → g ∈ f) : Ret 1 v [ref 0 fx d] 1 f' y h n f :=
  Ret.mk [0] [ref 0 fx d] ((ref_zero (σ := [0]) h1 hd hc).trans (Fold.drop fun e he => by obtain rfl := List.mem_singleton.1 he; exact List.mem_cons_self ..)) hn hv ⟨OSub.ren rfl rfl, trivial⟩ hg
theorem Ret.ref3 {fx : List Fact} {d : DS} {h : List (Nat × SObj)} {cs : List SV} {ls ns : List Value} {v y : SV} {n : Nat} {f' f : List Fact} (h1 : (0, SObj.cells cs 59) ∈ h) (h2 : (1, SObj.row ls 22) ∈ h) (h3 : (2, SObj.row ns 22) ∈ h) (hn : namesOk 1 n 1 [0] [0] = true) (hd : RefOk fx ls ns d) (hv : SEq 1 [0] v y)
    (hc : ∀ ρ, denL ρ cs = [Value.slice (some ⟨ρ 1, 0, Option.none⟩) d.l.length ls.length, .slice (some ⟨ρ 2, 0, Option.none⟩) d.l.length ns.length, .int .i64 d.fuse, .bool d.down]) (hg : ∀ g, g ∈ f' → g ∈ f) : Ret 1 v [ref 0 fx d] 1 f' y h n f :=
  Ret.mk [0] [ref 0 fx d] ((ref_rows (σ := [0, 1, 2]) h1 h2 h3 rfl hd hc).trans (Fold.drop fun e he => by obtain rfl := List.mem_singleton.1 he; exact List.mem_cons_self ..)) hn hv ⟨OSub.ren rfl rfl, trivial⟩ hg
end Go.Proofs.Ytekgjjanikicnaa.Sx
