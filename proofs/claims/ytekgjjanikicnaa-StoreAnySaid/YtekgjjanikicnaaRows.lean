/-
  No cell of these rows narrows 'for every input' (looked for: loops, veiled, ifaces, maps, wideKeys, modest, calm, conditions, laid).
  DERIVED. THE GIVEN ROWS OF THIS SEAT. 18 by the template 'for every input the law returns true; each argument reads behind the call as it read before'; 0 by the template 'total and deterministic' (their statements: YtekgjjanikicnaaTotals.lean).
  GIVEN WITH THE SEED: the statements are not yours to turn. If you find one false, say at which input.
  Laid BY PROGRAM, IN A SANDBOX (cutbox-rows.mjs): the forced cells as the released guide's own fill.sh prints them over the translation c09864f76116a0cd… (all of the seat's roots in one cut). By AI agents, Wed Nov 11 2026. No macro, syntax, notation, axiom, sorry.
-/
import Derived.Test.YtekgjjanikicnaaChecked
import GoSem.Claim
import GoSem.ClaimJoined
import GoSem.ClaimMapViews
import Derived.JoinedTies
import Derived.KernelRfl
namespace Go.Proofs.Ytekgjjanikicnaa
/- THE CELL 'sum', in the pinned program and in every row, IS THE sha256 OF THE DUMP (.gsa) THAT YtekgjjanikicnaaProg.lean LOADS. Nothing in Lean hashes anything: it is a label: what it is worth is what the hold of that sum in a sandbox is worth. -/
noncomputable def Try.pinned : Pinned := { name := "ytekgjjanikicnaa", sum := "c09864f76116a0cdc08372f08b607c09f9208f61a7e1b9157fa6e7b2558c67bc", checked := Try.checked }
namespace Rows
def none {H : Type} : Left H := { results := [], args := [] }

/-- 'chroniclelaw04.TextParts': WHATEVER THE INPUT: true; the input reads as it did. -/
def textPartsSpec : ChangeSpec := { name := "textParts", fn := fun _ => fun
  | [d1, d2] => { results := [.lit (.bool true)], args := [d1, d2] }
  | _ => none }
def textPartsRow : OpenClaim := { program := "ytekgjjanikicnaa", sum := "c09864f76116a0cdc08372f08b607c09f9208f61a7e1b9157fa6e7b2558c67bc", func := "chronicle/chroniclelaw04.TextParts", spec := "textParts", inPlace := ["internal/abi.NoEscape"], apart := false }
def TextPartsSaid : Prop := textPartsRow.holds Try.pinned (OpenSpec.ofChange textPartsSpec)

/-- ITS FALSE NEIGHBOUR: 'it returns false'. Refute it at one input. -/
def textPartsWrong : ChangeSpec := { name := "textParts", fn := fun _ => fun
  | [d1, d2] => { results := [.lit (.bool false)], args := [d1, d2] }
  | _ => none }
def TextPartsWrongFalsely : Prop := textPartsRow.holds Try.pinned (OpenSpec.ofChange textPartsWrong)

/-- 'chroniclelaw04.TextSigns': WHATEVER THE INPUT: true; the input reads as it did. -/
def textSignsSpec : ChangeSpec := { name := "textSigns", fn := fun _ => fun
  | [d1, d2] => { results := [.lit (.bool true)], args := [d1, d2] }
  | _ => none }
def textSignsRow : OpenClaim := { program := "ytekgjjanikicnaa", sum := "c09864f76116a0cdc08372f08b607c09f9208f61a7e1b9157fa6e7b2558c67bc", func := "chronicle/chroniclelaw04.TextSigns", spec := "textSigns", inPlace := ["internal/abi.NoEscape"], apart := false }
def TextSignsSaid : Prop := textSignsRow.holds Try.pinned (OpenSpec.ofChange textSignsSpec)

/-- ITS FALSE NEIGHBOUR: 'it returns false'. Refute it at one input. -/
def textSignsWrong : ChangeSpec := { name := "textSigns", fn := fun _ => fun
  | [d1, d2] => { results := [.lit (.bool false)], args := [d1, d2] }
  | _ => none }
def TextSignsWrongFalsely : Prop := textSignsRow.holds Try.pinned (OpenSpec.ofChange textSignsWrong)

/-- 'chroniclelaw04.TextNames': WHATEVER THE INPUT: true; the input reads as it did. -/
def textNamesSpec : ChangeSpec := { name := "textNames", fn := fun _ => fun
  | [d1, d2, d3] => { results := [.lit (.bool true)], args := [d1, d2, d3] }
  | _ => none }
def textNamesRow : OpenClaim := { program := "ytekgjjanikicnaa", sum := "c09864f76116a0cdc08372f08b607c09f9208f61a7e1b9157fa6e7b2558c67bc", func := "chronicle/chroniclelaw04.TextNames", spec := "textNames", inPlace := ["internal/abi.NoEscape"], apart := false }
def TextNamesSaid : Prop := textNamesRow.holds Try.pinned (OpenSpec.ofChange textNamesSpec)

/-- ITS FALSE NEIGHBOUR: 'it returns false'. Refute it at one input. -/
def textNamesWrong : ChangeSpec := { name := "textNames", fn := fun _ => fun
  | [d1, d2, d3] => { results := [.lit (.bool false)], args := [d1, d2, d3] }
  | _ => none }
def TextNamesWrongFalsely : Prop := textNamesRow.holds Try.pinned (OpenSpec.ofChange textNamesWrong)

/-- 'chroniclelaw13.DiskKeeps': WHATEVER THE INPUT: true; the input reads as it did. -/
def diskKeepsSpec : ChangeSpec := { name := "diskKeeps", fn := fun _ => fun
  | [d1, d2, d3] => { results := [.lit (.bool true)], args := [d1, d2, d3] }
  | _ => none }
def diskKeepsRow : OpenClaim := { program := "ytekgjjanikicnaa", sum := "c09864f76116a0cdc08372f08b607c09f9208f61a7e1b9157fa6e7b2558c67bc", func := "chronicle/chroniclelaw13.DiskKeeps", spec := "diskKeeps", apart := false }
def DiskKeepsSaid : Prop := diskKeepsRow.holds Try.pinned (OpenSpec.ofChange diskKeepsSpec)

/-- ITS FALSE NEIGHBOUR: 'it returns false'. Refute it at one input. -/
def diskKeepsWrong : ChangeSpec := { name := "diskKeeps", fn := fun _ => fun
  | [d1, d2, d3] => { results := [.lit (.bool false)], args := [d1, d2, d3] }
  | _ => none }
def DiskKeepsWrongFalsely : Prop := diskKeepsRow.holds Try.pinned (OpenSpec.ofChange diskKeepsWrong)

/-- 'chroniclelaw04.TextEncodes': WHATEVER THE INPUT: true; the input reads as it did. -/
def textEncodesSpec : ChangeSpec := { name := "textEncodes", fn := fun _ => fun
  | [d1, d2] => { results := [.lit (.bool true)], args := [d1, d2] }
  | _ => none }
def textEncodesRow : OpenClaim := { program := "ytekgjjanikicnaa", sum := "c09864f76116a0cdc08372f08b607c09f9208f61a7e1b9157fa6e7b2558c67bc", func := "chronicle/chroniclelaw04.TextEncodes", spec := "textEncodes", inPlace := ["internal/abi.NoEscape", "internal/bytealg.IndexByteString"], apart := false }
def TextEncodesSaid : Prop := textEncodesRow.holds Try.pinned (OpenSpec.ofChange textEncodesSpec)

/-- ITS FALSE NEIGHBOUR: 'it returns false'. Refute it at one input. -/
def textEncodesWrong : ChangeSpec := { name := "textEncodes", fn := fun _ => fun
  | [d1, d2] => { results := [.lit (.bool false)], args := [d1, d2] }
  | _ => none }
def TextEncodesWrongFalsely : Prop := textEncodesRow.holds Try.pinned (OpenSpec.ofChange textEncodesWrong)

/-- 'chroniclelaw04.TextBack': WHATEVER THE INPUT: true; the input reads as it did. -/
def textBackSpec : ChangeSpec := { name := "textBack", fn := fun _ => fun
  | [d1, d2] => { results := [.lit (.bool true)], args := [d1, d2] }
  | _ => none }
def textBackRow : OpenClaim := { program := "ytekgjjanikicnaa", sum := "c09864f76116a0cdc08372f08b607c09f9208f61a7e1b9157fa6e7b2558c67bc", func := "chronicle/chroniclelaw04.TextBack", spec := "textBack", inPlace := ["internal/abi.NoEscape", "internal/bytealg.IndexByteString"], apart := false }
def TextBackSaid : Prop := textBackRow.holds Try.pinned (OpenSpec.ofChange textBackSpec)

/-- ITS FALSE NEIGHBOUR: 'it returns false'. Refute it at one input. -/
def textBackWrong : ChangeSpec := { name := "textBack", fn := fun _ => fun
  | [d1, d2] => { results := [.lit (.bool false)], args := [d1, d2] }
  | _ => none }
def TextBackWrongFalsely : Prop := textBackRow.holds Try.pinned (OpenSpec.ofChange textBackWrong)

/-- 'chroniclelaw13.DiskLasts': WHATEVER THE INPUT: true; the input reads as it did. -/
def diskLastsSpec : ChangeSpec := { name := "diskLasts", fn := fun _ => fun
  | [d1, d2] => { results := [.lit (.bool true)], args := [d1, d2] }
  | _ => none }
def diskLastsRow : OpenClaim := { program := "ytekgjjanikicnaa", sum := "c09864f76116a0cdc08372f08b607c09f9208f61a7e1b9157fa6e7b2558c67bc", func := "chronicle/chroniclelaw13.DiskLasts", spec := "diskLasts", apart := false }
def DiskLastsSaid : Prop := diskLastsRow.holds Try.pinned (OpenSpec.ofChange diskLastsSpec)

/-- ITS FALSE NEIGHBOUR: 'it returns false'. Refute it at one input. -/
def diskLastsWrong : ChangeSpec := { name := "diskLasts", fn := fun _ => fun
  | [d1, d2] => { results := [.lit (.bool false)], args := [d1, d2] }
  | _ => none }
def DiskLastsWrongFalsely : Prop := diskLastsRow.holds Try.pinned (OpenSpec.ofChange diskLastsWrong)

/-- 'chroniclelaw13.DiskPlays': WHATEVER THE INPUT: true; the input reads as it did. -/
def diskPlaysSpec : ChangeSpec := { name := "diskPlays", fn := fun _ => fun
  | [d1, d2] => { results := [.lit (.bool true)], args := [d1, d2] }
  | _ => none }
def diskPlaysRow : OpenClaim := { program := "ytekgjjanikicnaa", sum := "c09864f76116a0cdc08372f08b607c09f9208f61a7e1b9157fa6e7b2558c67bc", func := "chronicle/chroniclelaw13.DiskPlays", spec := "diskPlays", apart := false }
def DiskPlaysSaid : Prop := diskPlaysRow.holds Try.pinned (OpenSpec.ofChange diskPlaysSpec)

/-- ITS FALSE NEIGHBOUR: 'it returns false'. Refute it at one input. -/
def diskPlaysWrong : ChangeSpec := { name := "diskPlays", fn := fun _ => fun
  | [d1, d2] => { results := [.lit (.bool false)], args := [d1, d2] }
  | _ => none }
def DiskPlaysWrongFalsely : Prop := diskPlaysRow.holds Try.pinned (OpenSpec.ofChange diskPlaysWrong)

/-- 'chroniclelaw13.DiskFuse': WHATEVER THE INPUT: true; the input reads as it did. -/
def diskFuseSpec : ChangeSpec := { name := "diskFuse", fn := fun _ => fun
  | [d1, d2] => { results := [.lit (.bool true)], args := [d1, d2] }
  | _ => none }
def diskFuseRow : OpenClaim := { program := "ytekgjjanikicnaa", sum := "c09864f76116a0cdc08372f08b607c09f9208f61a7e1b9157fa6e7b2558c67bc", func := "chronicle/chroniclelaw13.DiskFuse", spec := "diskFuse", apart := false }
def DiskFuseSaid : Prop := diskFuseRow.holds Try.pinned (OpenSpec.ofChange diskFuseSpec)

/-- ITS FALSE NEIGHBOUR: 'it returns false'. Refute it at one input. -/
def diskFuseWrong : ChangeSpec := { name := "diskFuse", fn := fun _ => fun
  | [d1, d2] => { results := [.lit (.bool false)], args := [d1, d2] }
  | _ => none }
def DiskFuseWrongFalsely : Prop := diskFuseRow.holds Try.pinned (OpenSpec.ofChange diskFuseWrong)

/-- 'chroniclelaw13.DiskNil': WHATEVER THE INPUT: true; the input reads as it did. -/
def diskNilSpec : ChangeSpec := { name := "diskNil", fn := fun _ => fun
  | [d1, d2, d3] => { results := [.lit (.bool true)], args := [d1, d2, d3] }
  | _ => none }
def diskNilRow : OpenClaim := { program := "ytekgjjanikicnaa", sum := "c09864f76116a0cdc08372f08b607c09f9208f61a7e1b9157fa6e7b2558c67bc", func := "chronicle/chroniclelaw13.DiskNil", spec := "diskNil", apart := false }
def DiskNilSaid : Prop := diskNilRow.holds Try.pinned (OpenSpec.ofChange diskNilSpec)

/-- ITS FALSE NEIGHBOUR: 'it returns false'. Refute it at one input. -/
def diskNilWrong : ChangeSpec := { name := "diskNil", fn := fun _ => fun
  | [d1, d2, d3] => { results := [.lit (.bool false)], args := [d1, d2, d3] }
  | _ => none }
def DiskNilWrongFalsely : Prop := diskNilRow.holds Try.pinned (OpenSpec.ofChange diskNilWrong)

/-- 'chroniclelaw14.MarkSaves': WHATEVER THE INPUT: true; the input reads as it did. -/
def markSavesSpec : ChangeSpec := { name := "markSaves", fn := fun _ => fun
  | [d] => { results := [.lit (.bool true)], args := [d] }
  | _ => none }
def markSavesRow : OpenClaim := { program := "ytekgjjanikicnaa", sum := "c09864f76116a0cdc08372f08b607c09f9208f61a7e1b9157fa6e7b2558c67bc", func := "chronicle/chroniclelaw14.MarkSaves", spec := "markSaves", apart := false }
def MarkSavesSaid : Prop := markSavesRow.holds Try.pinned (OpenSpec.ofChange markSavesSpec)

/-- ITS FALSE NEIGHBOUR: 'it returns false'. Refute it at one input. -/
def markSavesWrong : ChangeSpec := { name := "markSaves", fn := fun _ => fun
  | [d] => { results := [.lit (.bool false)], args := [d] }
  | _ => none }
def MarkSavesWrongFalsely : Prop := markSavesRow.holds Try.pinned (OpenSpec.ofChange markSavesWrong)

/-- 'chroniclelaw14.MarkNone': WHATEVER THE INPUT: true; the input reads as it did. -/
def markNoneSpec : ChangeSpec := { name := "markNone", fn := fun _ => fun
  | [d1, d2] => { results := [.lit (.bool true)], args := [d1, d2] }
  | _ => none }
def markNoneRow : OpenClaim := { program := "ytekgjjanikicnaa", sum := "c09864f76116a0cdc08372f08b607c09f9208f61a7e1b9157fa6e7b2558c67bc", func := "chronicle/chroniclelaw14.MarkNone", spec := "markNone", apart := false }
def MarkNoneSaid : Prop := markNoneRow.holds Try.pinned (OpenSpec.ofChange markNoneSpec)

/-- ITS FALSE NEIGHBOUR: 'it returns false'. Refute it at one input. -/
def markNoneWrong : ChangeSpec := { name := "markNone", fn := fun _ => fun
  | [d1, d2] => { results := [.lit (.bool false)], args := [d1, d2] }
  | _ => none }
def MarkNoneWrongFalsely : Prop := markNoneRow.holds Try.pinned (OpenSpec.ofChange markNoneWrong)

/-- 'chroniclelaw14.MarkWhole': WHATEVER THE INPUT: true; the input reads as it did. -/
def markWholeSpec : ChangeSpec := { name := "markWhole", fn := fun _ => fun
  | [d1, d2, d3] => { results := [.lit (.bool true)], args := [d1, d2, d3] }
  | _ => none }
def markWholeRow : OpenClaim := { program := "ytekgjjanikicnaa", sum := "c09864f76116a0cdc08372f08b607c09f9208f61a7e1b9157fa6e7b2558c67bc", func := "chronicle/chroniclelaw14.MarkWhole", spec := "markWhole", apart := false }
def MarkWholeSaid : Prop := markWholeRow.holds Try.pinned (OpenSpec.ofChange markWholeSpec)

/-- ITS FALSE NEIGHBOUR: 'it returns false'. Refute it at one input. -/
def markWholeWrong : ChangeSpec := { name := "markWhole", fn := fun _ => fun
  | [d1, d2, d3] => { results := [.lit (.bool false)], args := [d1, d2, d3] }
  | _ => none }
def MarkWholeWrongFalsely : Prop := markWholeRow.holds Try.pinned (OpenSpec.ofChange markWholeWrong)

/-- 'chroniclelaw14.MarkStays': WHATEVER THE INPUT: true; the input reads as it did. -/
def markStaysSpec : ChangeSpec := { name := "markStays", fn := fun _ => fun
  | [d1, d2, d3] => { results := [.lit (.bool true)], args := [d1, d2, d3] }
  | _ => none }
def markStaysRow : OpenClaim := { program := "ytekgjjanikicnaa", sum := "c09864f76116a0cdc08372f08b607c09f9208f61a7e1b9157fa6e7b2558c67bc", func := "chronicle/chroniclelaw14.MarkStays", spec := "markStays", apart := false }
def MarkStaysSaid : Prop := markStaysRow.holds Try.pinned (OpenSpec.ofChange markStaysSpec)

/-- ITS FALSE NEIGHBOUR: 'it returns false'. Refute it at one input. -/
def markStaysWrong : ChangeSpec := { name := "markStays", fn := fun _ => fun
  | [d1, d2, d3] => { results := [.lit (.bool false)], args := [d1, d2, d3] }
  | _ => none }
def MarkStaysWrongFalsely : Prop := markStaysRow.holds Try.pinned (OpenSpec.ofChange markStaysWrong)

/-- 'chroniclelaw15.StoreAny': WHATEVER THE INPUT: true; the input reads as it did. -/
def storeAnySpec : ChangeSpec := { name := "storeAny", fn := fun _ => fun
  | [d] => { results := [.lit (.bool true)], args := [d] }
  | _ => none }
def storeAnyRow : OpenClaim := { program := "ytekgjjanikicnaa", sum := "c09864f76116a0cdc08372f08b607c09f9208f61a7e1b9157fa6e7b2558c67bc", func := "chronicle/chroniclelaw15.StoreAny", spec := "storeAny", apart := false }
def StoreAnySaid : Prop := storeAnyRow.holds Try.pinned (OpenSpec.ofChange storeAnySpec)

/-- ITS FALSE NEIGHBOUR: 'it returns false'. Refute it at one input. -/
def storeAnyWrong : ChangeSpec := { name := "storeAny", fn := fun _ => fun
  | [d] => { results := [.lit (.bool false)], args := [d] }
  | _ => none }
def StoreAnyWrongFalsely : Prop := storeAnyRow.holds Try.pinned (OpenSpec.ofChange storeAnyWrong)

/-- 'chroniclelaw15.StoreFull': WHATEVER THE INPUT: true; the input reads as it did. -/
def storeFullSpec : ChangeSpec := { name := "storeFull", fn := fun _ => fun
  | [d1, d2] => { results := [.lit (.bool true)], args := [d1, d2] }
  | _ => none }
def storeFullRow : OpenClaim := { program := "ytekgjjanikicnaa", sum := "c09864f76116a0cdc08372f08b607c09f9208f61a7e1b9157fa6e7b2558c67bc", func := "chronicle/chroniclelaw15.StoreFull", spec := "storeFull", apart := false }
def StoreFullSaid : Prop := storeFullRow.holds Try.pinned (OpenSpec.ofChange storeFullSpec)

/-- ITS FALSE NEIGHBOUR: 'it returns false'. Refute it at one input. -/
def storeFullWrong : ChangeSpec := { name := "storeFull", fn := fun _ => fun
  | [d1, d2] => { results := [.lit (.bool false)], args := [d1, d2] }
  | _ => none }
def StoreFullWrongFalsely : Prop := storeFullRow.holds Try.pinned (OpenSpec.ofChange storeFullWrong)

/-- 'chroniclelaw15.StoreNil': WHATEVER THE INPUT: true; the input reads as it did. -/
def storeNilSpec : ChangeSpec := { name := "storeNil", fn := fun _ => fun
  | [d1, d2] => { results := [.lit (.bool true)], args := [d1, d2] }
  | _ => none }
def storeNilRow : OpenClaim := { program := "ytekgjjanikicnaa", sum := "c09864f76116a0cdc08372f08b607c09f9208f61a7e1b9157fa6e7b2558c67bc", func := "chronicle/chroniclelaw15.StoreNil", spec := "storeNil", apart := false }
def StoreNilSaid : Prop := storeNilRow.holds Try.pinned (OpenSpec.ofChange storeNilSpec)

/-- ITS FALSE NEIGHBOUR: 'it returns false'. Refute it at one input. -/
def storeNilWrong : ChangeSpec := { name := "storeNil", fn := fun _ => fun
  | [d1, d2] => { results := [.lit (.bool false)], args := [d1, d2] }
  | _ => none }
def StoreNilWrongFalsely : Prop := storeNilRow.holds Try.pinned (OpenSpec.ofChange storeNilWrong)

/-- 'chroniclelaw15.StoreCrashes': WHATEVER THE INPUT: true; the input reads as it did. -/
def storeCrashesSpec : ChangeSpec := { name := "storeCrashes", fn := fun _ => fun
  | [d1, d2] => { results := [.lit (.bool true)], args := [d1, d2] }
  | _ => none }
def storeCrashesRow : OpenClaim := { program := "ytekgjjanikicnaa", sum := "c09864f76116a0cdc08372f08b607c09f9208f61a7e1b9157fa6e7b2558c67bc", func := "chronicle/chroniclelaw15.StoreCrashes", spec := "storeCrashes", apart := false }
def StoreCrashesSaid : Prop := storeCrashesRow.holds Try.pinned (OpenSpec.ofChange storeCrashesSpec)

/-- ITS FALSE NEIGHBOUR: 'it returns false'. Refute it at one input. -/
def storeCrashesWrong : ChangeSpec := { name := "storeCrashes", fn := fun _ => fun
  | [d1, d2] => { results := [.lit (.bool false)], args := [d1, d2] }
  | _ => none }
def StoreCrashesWrongFalsely : Prop := storeCrashesRow.holds Try.pinned (OpenSpec.ofChange storeCrashesWrong)

/- THE SECOND FORM. 'bulk': how many values and letters a reading holds, each counted each time it is reached (what is shared counts as often as it is met; a slice's spare places count too). A statement '..UptoSaid' is the law's where the arguments, and the package variables that the reading takes, are together of bulk at most 1048576: NARROWER than '..Said'. Prove '..Said' where nothing that the law and all that it calls make is longer than what came in: it says more and counts as full. Else prove '..UptoSaid'. A law counts once. -/
mutual
def uptoBulk {H : Type} : DataW H → Nat
  | .lit (.string bytes) => bytes.length + 1
  | .lit _ => 1
  | .nil => 1
  | .ptr d => uptoBulk d + 1
  | .slice elems spare => uptoBulkAll elems + uptoBulkAll spare + 1
  | .agg parts => uptoBulkAll parts + 1
  | .iface _ d => uptoBulk d + 1
  | .map entries => uptoBulkEntries entries + 1
  | .held _ => 1
def uptoBulkAll {H : Type} : List (DataW H) → Nat
  | [] => 0
  | d :: r => uptoBulk d + uptoBulkAll r
def uptoBulkEntries {H : Type} : List (Lit × DataW H) → Nat
  | [] => 0
  | x :: r => uptoBulkEntry x + uptoBulkEntries r
def uptoBulkEntry {H : Type} : Lit × DataW H → Nat
  | (.string bytes, d) => bytes.length + uptoBulk d + 1
  | (_, d) => uptoBulk d + 1
 end
def uptoSmall : (H : Type) → List (DataW H) → Bool := fun _ ds => decide (uptoBulkAll ds ≤ 1048576)
def OpenSpec.upto (s : _root_.Go.ChangeSpec) : _root_.Go.OpenSpec := { _root_.Go.OpenSpec.ofChange s with cond := some uptoSmall }

/-- 'chroniclelaw04.TextParts', WHERE WHAT IT READS IS OF BULK AT MOST 1048576: true; the input reads as it did. -/
def textPartsUptoRow : OpenClaim := { program := "ytekgjjanikicnaa", sum := "c09864f76116a0cdc08372f08b607c09f9208f61a7e1b9157fa6e7b2558c67bc", func := "chronicle/chroniclelaw04.TextParts", spec := "textParts", inPlace := ["internal/abi.NoEscape"], apart := false, narrowed := true }
def TextPartsUptoSaid : Prop := textPartsUptoRow.holds Try.pinned (OpenSpec.upto textPartsSpec)

/-- 'chroniclelaw04.TextSigns', WHERE WHAT IT READS IS OF BULK AT MOST 1048576: true; the input reads as it did. -/
def textSignsUptoRow : OpenClaim := { program := "ytekgjjanikicnaa", sum := "c09864f76116a0cdc08372f08b607c09f9208f61a7e1b9157fa6e7b2558c67bc", func := "chronicle/chroniclelaw04.TextSigns", spec := "textSigns", inPlace := ["internal/abi.NoEscape"], apart := false, narrowed := true }
def TextSignsUptoSaid : Prop := textSignsUptoRow.holds Try.pinned (OpenSpec.upto textSignsSpec)

/-- 'chroniclelaw04.TextNames', WHERE WHAT IT READS IS OF BULK AT MOST 1048576: true; the input reads as it did. -/
def textNamesUptoRow : OpenClaim := { program := "ytekgjjanikicnaa", sum := "c09864f76116a0cdc08372f08b607c09f9208f61a7e1b9157fa6e7b2558c67bc", func := "chronicle/chroniclelaw04.TextNames", spec := "textNames", inPlace := ["internal/abi.NoEscape"], apart := false, narrowed := true }
def TextNamesUptoSaid : Prop := textNamesUptoRow.holds Try.pinned (OpenSpec.upto textNamesSpec)

/-- 'chroniclelaw13.DiskKeeps', WHERE WHAT IT READS IS OF BULK AT MOST 1048576: true; the input reads as it did. -/
def diskKeepsUptoRow : OpenClaim := { program := "ytekgjjanikicnaa", sum := "c09864f76116a0cdc08372f08b607c09f9208f61a7e1b9157fa6e7b2558c67bc", func := "chronicle/chroniclelaw13.DiskKeeps", spec := "diskKeeps", apart := false, narrowed := true }
def DiskKeepsUptoSaid : Prop := diskKeepsUptoRow.holds Try.pinned (OpenSpec.upto diskKeepsSpec)

/-- 'chroniclelaw04.TextEncodes', WHERE WHAT IT READS IS OF BULK AT MOST 1048576: true; the input reads as it did. -/
def textEncodesUptoRow : OpenClaim := { program := "ytekgjjanikicnaa", sum := "c09864f76116a0cdc08372f08b607c09f9208f61a7e1b9157fa6e7b2558c67bc", func := "chronicle/chroniclelaw04.TextEncodes", spec := "textEncodes", inPlace := ["internal/abi.NoEscape", "internal/bytealg.IndexByteString"], apart := false, narrowed := true }
def TextEncodesUptoSaid : Prop := textEncodesUptoRow.holds Try.pinned (OpenSpec.upto textEncodesSpec)

/-- 'chroniclelaw04.TextBack', WHERE WHAT IT READS IS OF BULK AT MOST 1048576: true; the input reads as it did. -/
def textBackUptoRow : OpenClaim := { program := "ytekgjjanikicnaa", sum := "c09864f76116a0cdc08372f08b607c09f9208f61a7e1b9157fa6e7b2558c67bc", func := "chronicle/chroniclelaw04.TextBack", spec := "textBack", inPlace := ["internal/abi.NoEscape", "internal/bytealg.IndexByteString"], apart := false, narrowed := true }
def TextBackUptoSaid : Prop := textBackUptoRow.holds Try.pinned (OpenSpec.upto textBackSpec)

/-- 'chroniclelaw13.DiskLasts', WHERE WHAT IT READS IS OF BULK AT MOST 1048576: true; the input reads as it did. -/
def diskLastsUptoRow : OpenClaim := { program := "ytekgjjanikicnaa", sum := "c09864f76116a0cdc08372f08b607c09f9208f61a7e1b9157fa6e7b2558c67bc", func := "chronicle/chroniclelaw13.DiskLasts", spec := "diskLasts", apart := false, narrowed := true }
def DiskLastsUptoSaid : Prop := diskLastsUptoRow.holds Try.pinned (OpenSpec.upto diskLastsSpec)

/-- 'chroniclelaw13.DiskPlays', WHERE WHAT IT READS IS OF BULK AT MOST 1048576: true; the input reads as it did. -/
def diskPlaysUptoRow : OpenClaim := { program := "ytekgjjanikicnaa", sum := "c09864f76116a0cdc08372f08b607c09f9208f61a7e1b9157fa6e7b2558c67bc", func := "chronicle/chroniclelaw13.DiskPlays", spec := "diskPlays", apart := false, narrowed := true }
def DiskPlaysUptoSaid : Prop := diskPlaysUptoRow.holds Try.pinned (OpenSpec.upto diskPlaysSpec)

/-- 'chroniclelaw13.DiskFuse', WHERE WHAT IT READS IS OF BULK AT MOST 1048576: true; the input reads as it did. -/
def diskFuseUptoRow : OpenClaim := { program := "ytekgjjanikicnaa", sum := "c09864f76116a0cdc08372f08b607c09f9208f61a7e1b9157fa6e7b2558c67bc", func := "chronicle/chroniclelaw13.DiskFuse", spec := "diskFuse", apart := false, narrowed := true }
def DiskFuseUptoSaid : Prop := diskFuseUptoRow.holds Try.pinned (OpenSpec.upto diskFuseSpec)

/-- 'chroniclelaw13.DiskNil', WHERE WHAT IT READS IS OF BULK AT MOST 1048576: true; the input reads as it did. -/
def diskNilUptoRow : OpenClaim := { program := "ytekgjjanikicnaa", sum := "c09864f76116a0cdc08372f08b607c09f9208f61a7e1b9157fa6e7b2558c67bc", func := "chronicle/chroniclelaw13.DiskNil", spec := "diskNil", apart := false, narrowed := true }
def DiskNilUptoSaid : Prop := diskNilUptoRow.holds Try.pinned (OpenSpec.upto diskNilSpec)

/-- 'chroniclelaw14.MarkSaves', WHERE WHAT IT READS IS OF BULK AT MOST 1048576: true; the input reads as it did. -/
def markSavesUptoRow : OpenClaim := { program := "ytekgjjanikicnaa", sum := "c09864f76116a0cdc08372f08b607c09f9208f61a7e1b9157fa6e7b2558c67bc", func := "chronicle/chroniclelaw14.MarkSaves", spec := "markSaves", apart := false, narrowed := true }
def MarkSavesUptoSaid : Prop := markSavesUptoRow.holds Try.pinned (OpenSpec.upto markSavesSpec)

/-- 'chroniclelaw14.MarkNone', WHERE WHAT IT READS IS OF BULK AT MOST 1048576: true; the input reads as it did. -/
def markNoneUptoRow : OpenClaim := { program := "ytekgjjanikicnaa", sum := "c09864f76116a0cdc08372f08b607c09f9208f61a7e1b9157fa6e7b2558c67bc", func := "chronicle/chroniclelaw14.MarkNone", spec := "markNone", apart := false, narrowed := true }
def MarkNoneUptoSaid : Prop := markNoneUptoRow.holds Try.pinned (OpenSpec.upto markNoneSpec)

/-- 'chroniclelaw14.MarkWhole', WHERE WHAT IT READS IS OF BULK AT MOST 1048576: true; the input reads as it did. -/
def markWholeUptoRow : OpenClaim := { program := "ytekgjjanikicnaa", sum := "c09864f76116a0cdc08372f08b607c09f9208f61a7e1b9157fa6e7b2558c67bc", func := "chronicle/chroniclelaw14.MarkWhole", spec := "markWhole", apart := false, narrowed := true }
def MarkWholeUptoSaid : Prop := markWholeUptoRow.holds Try.pinned (OpenSpec.upto markWholeSpec)

/-- 'chroniclelaw14.MarkStays', WHERE WHAT IT READS IS OF BULK AT MOST 1048576: true; the input reads as it did. -/
def markStaysUptoRow : OpenClaim := { program := "ytekgjjanikicnaa", sum := "c09864f76116a0cdc08372f08b607c09f9208f61a7e1b9157fa6e7b2558c67bc", func := "chronicle/chroniclelaw14.MarkStays", spec := "markStays", apart := false, narrowed := true }
def MarkStaysUptoSaid : Prop := markStaysUptoRow.holds Try.pinned (OpenSpec.upto markStaysSpec)

/-- 'chroniclelaw15.StoreAny', WHERE WHAT IT READS IS OF BULK AT MOST 1048576: true; the input reads as it did. -/
def storeAnyUptoRow : OpenClaim := { program := "ytekgjjanikicnaa", sum := "c09864f76116a0cdc08372f08b607c09f9208f61a7e1b9157fa6e7b2558c67bc", func := "chronicle/chroniclelaw15.StoreAny", spec := "storeAny", apart := false, narrowed := true }
def StoreAnyUptoSaid : Prop := storeAnyUptoRow.holds Try.pinned (OpenSpec.upto storeAnySpec)

/-- 'chroniclelaw15.StoreFull', WHERE WHAT IT READS IS OF BULK AT MOST 1048576: true; the input reads as it did. -/
def storeFullUptoRow : OpenClaim := { program := "ytekgjjanikicnaa", sum := "c09864f76116a0cdc08372f08b607c09f9208f61a7e1b9157fa6e7b2558c67bc", func := "chronicle/chroniclelaw15.StoreFull", spec := "storeFull", apart := false, narrowed := true }
def StoreFullUptoSaid : Prop := storeFullUptoRow.holds Try.pinned (OpenSpec.upto storeFullSpec)

/-- 'chroniclelaw15.StoreNil', WHERE WHAT IT READS IS OF BULK AT MOST 1048576: true; the input reads as it did. -/
def storeNilUptoRow : OpenClaim := { program := "ytekgjjanikicnaa", sum := "c09864f76116a0cdc08372f08b607c09f9208f61a7e1b9157fa6e7b2558c67bc", func := "chronicle/chroniclelaw15.StoreNil", spec := "storeNil", apart := false, narrowed := true }
def StoreNilUptoSaid : Prop := storeNilUptoRow.holds Try.pinned (OpenSpec.upto storeNilSpec)

/-- 'chroniclelaw15.StoreCrashes', WHERE WHAT IT READS IS OF BULK AT MOST 1048576: true; the input reads as it did. -/
def storeCrashesUptoRow : OpenClaim := { program := "ytekgjjanikicnaa", sum := "c09864f76116a0cdc08372f08b607c09f9208f61a7e1b9157fa6e7b2558c67bc", func := "chronicle/chroniclelaw15.StoreCrashes", spec := "storeCrashes", apart := false, narrowed := true }
def StoreCrashesUptoSaid : Prop := storeCrashesUptoRow.holds Try.pinned (OpenSpec.upto storeCrashesSpec)

end Rows
end Go.Proofs.Ytekgjjanikicnaa
