/-
  DERIVED. GIVEN WITH THE SEED: THE CARDS: each row of YtekgjjanikicnaaDoorRows.lean that lists a variable, with what it lists TIED to the program's text (the seventh form; the later family's looks); each row that meets fmt, with fmt's text TOLD by the authors' own Lean function (tested against real Go, not proved from fmt's source: count such statements apart). THE CARD IS WHAT COUNTS. Prove the row's statement (the work); the ties are given (YtekgjjanikicnaaDoorTie.lean); close each card by the builder's one call (the guide's Derived/Test/ToyasCard.lean, 'card_holds'). Laid BY PROGRAM, IN A SANDBOX (cutbox-door.mjs). By AI agents, Wed Nov 11 2026. No macro, syntax, notation, axiom, sorry.
-/
import Derived.Test.YtekgjjanikicnaaDoorRows
import GoSem.ClaimSeven
namespace Go.Proofs.YtekgjjanikicnaaDoor
namespace Rows

/-- THE TIED CARD OF 'chroniclelaw08.P256Adds'. -/
def p256AddsCard : Claim7 := { stood := { row := p256AddsRow, standIns := [], harness := (true, "7cb9d16cbbf1cd422912e80f585aba5864e7c347e483a7ab5d574764c1eb69c0"), looks := true }, kinds := [], alts := [], laidByText := true, laidKinds := [.data, .data, .data], laidTests := true, laidLooks := .later }
def P256AddsCardSaid : Prop := Claim7.holds Tryd.pinned (.plain (OpenSpec.ofChange p256AddsSpec)) p256AddsCard

/-- THE TIED CARD OF 'chroniclelaw08.P256Multiplies'. -/
def p256MultipliesCard : Claim7 := { stood := { row := p256MultipliesRow, standIns := [], harness := (true, "7cb9d16cbbf1cd422912e80f585aba5864e7c347e483a7ab5d574764c1eb69c0"), looks := true }, kinds := [], alts := [], laidByText := true, laidKinds := [.data, .data, .data], laidTests := true, laidLooks := .later }
def P256MultipliesCardSaid : Prop := Claim7.holds Tryd.pinned (.plain (OpenSpec.ofChange p256MultipliesSpec)) p256MultipliesCard

/-- THE TIED CARD OF 'chroniclelaw08.P256Both'. -/
def p256BothCard : Claim7 := { stood := { row := p256BothRow, standIns := [], harness := (true, "7cb9d16cbbf1cd422912e80f585aba5864e7c347e483a7ab5d574764c1eb69c0"), looks := true }, kinds := [], alts := [], laidByText := true, laidKinds := [.data, .data, .data], laidTests := true, laidLooks := .later }
def P256BothCardSaid : Prop := Claim7.holds Tryd.pinned (.plain (OpenSpec.ofChange p256BothSpec)) p256BothCard

/-- THE TIED CARD OF 'chroniclelaw08.P256Group'. -/
def p256GroupCard : Claim7 := { stood := { row := p256GroupRow, standIns := [], harness := (true, "7cb9d16cbbf1cd422912e80f585aba5864e7c347e483a7ab5d574764c1eb69c0"), looks := true }, kinds := [], alts := [], laidByText := true, laidKinds := [.data, .data, .data], laidTests := true, laidLooks := .later }
def P256GroupCardSaid : Prop := Claim7.holds Tryd.pinned (.plain (OpenSpec.ofChange p256GroupSpec)) p256GroupCard

/-- THE TIED CARD OF 'chroniclelaw08.P256Order'. -/
def p256OrderCard : Claim7 := { stood := { row := p256OrderRow, standIns := [], harness := (true, "7cb9d16cbbf1cd422912e80f585aba5864e7c347e483a7ab5d574764c1eb69c0"), looks := true }, kinds := [], alts := [], laidByText := true, laidKinds := [.data, .data, .data], laidTests := true, laidLooks := .later }
def P256OrderCardSaid : Prop := Claim7.holds Tryd.pinned (.plain (OpenSpec.ofChange p256OrderSpec)) p256OrderCard

/-- THE TIED CARD OF 'chroniclelaw08.P256Twice'. -/
def p256TwiceCard : Claim7 := { stood := { row := p256TwiceRow, standIns := [], harness := (true, "7cb9d16cbbf1cd422912e80f585aba5864e7c347e483a7ab5d574764c1eb69c0"), looks := true }, kinds := [], alts := [], laidByText := true, laidKinds := [.data, .data, .data], laidTests := true, laidLooks := .later }
def P256TwiceCardSaid : Prop := Claim7.holds Tryd.pinned (.plain (OpenSpec.ofChange p256TwiceSpec)) p256TwiceCard

/-- THE TIED CARD OF 'chroniclelaw21.NoteWrites'. -/
def noteWritesCard : Claim7 := { stood := { row := noteWritesRow, standIns := [], harness := (true, "7cb9d16cbbf1cd422912e80f585aba5864e7c347e483a7ab5d574764c1eb69c0"), looks := true }, kinds := [], alts := [], laidByText := true, laidKinds := [.data, .data, .data], laidTests := true, laidLooks := .later }
def NoteWritesCardSaid : Prop := Claim7.holds Tryd.pinned (.plain (OpenSpec.ofChange noteWritesSpec)) noteWritesCard

/-- THE TIED CARD OF 'chroniclelaw21.NoteLines'. -/
def noteLinesCard : Claim7 := { stood := { row := noteLinesRow, standIns := [], harness := (true, "7cb9d16cbbf1cd422912e80f585aba5864e7c347e483a7ab5d574764c1eb69c0"), looks := true }, kinds := [], alts := [], laidByText := true, laidKinds := [.data, .data, .data], laidTests := true, laidLooks := .later }
def NoteLinesCardSaid : Prop := Claim7.holds Tryd.pinned (.plain (OpenSpec.ofChange noteLinesSpec)) noteLinesCard

/-- THE TIED CARD OF 'chroniclelaw08.P256Bytes'. -/
def p256BytesCard : Claim7 := { stood := { row := p256BytesRow, standIns := [], harness := (true, "7cb9d16cbbf1cd422912e80f585aba5864e7c347e483a7ab5d574764c1eb69c0"), looks := true }, kinds := [], alts := [], laidByText := true, laidKinds := [.data, .data], laidTests := true, laidLooks := .later }
def P256BytesCardSaid : Prop := Claim7.holds Tryd.pinned (.plain (OpenSpec.ofChange p256BytesSpec)) p256BytesCard

/-- THE TIED CARD OF 'chroniclelaw08.P256Stray'. -/
def p256StrayCard : Claim7 := { stood := { row := p256StrayRow, standIns := [], harness := (true, "7cb9d16cbbf1cd422912e80f585aba5864e7c347e483a7ab5d574764c1eb69c0"), looks := true }, kinds := [], alts := [], laidByText := true, laidKinds := [.data, .data, .data], laidTests := true, laidLooks := .later }
def P256StrayCardSaid : Prop := Claim7.holds Tryd.pinned (.plain (OpenSpec.ofChange p256StraySpec)) p256StrayCard

/-- THE TIED CARD OF 'chroniclelaw21.NoteNumbers'. -/
def noteNumbersCard : Claim7 := { stood := { row := noteNumbersRow, standIns := [], harness := (true, "7cb9d16cbbf1cd422912e80f585aba5864e7c347e483a7ab5d574764c1eb69c0"), looks := true }, kinds := [], alts := [], laidByText := true, laidKinds := [.data, .data, .data, .data, .data], laidTests := true, laidLooks := .later }
def NoteNumbersCardSaid : Prop := Claim7.holds Tryd.pinned (.plain (OpenSpec.ofChange noteNumbersSpec)) noteNumbersCard

/-- THE TIED CARD OF 'chroniclelaw04.TextDigits'. -/
def textDigitsCard : Claim7 := { stood := { row := textDigitsRow, standIns := [], harness := (true, "7cb9d16cbbf1cd422912e80f585aba5864e7c347e483a7ab5d574764c1eb69c0"), looks := true }, kinds := [], alts := [], laidByText := true, laidKinds := [.data, .data, .data, .sentinel, .sentinel], laidTests := true, laidLooks := .later }
def TextDigitsCardSaid : Prop := Claim7.holds Tryd.pinned (.plain (OpenSpec.ofChange textDigitsSpec)) textDigitsCard

/-- THE TIED CARD OF 'chroniclelaw04.TextNumbers'. -/
def textNumbersCard : Claim7 := { stood := { row := textNumbersRow, standIns := [], harness := (true, "7cb9d16cbbf1cd422912e80f585aba5864e7c347e483a7ab5d574764c1eb69c0"), looks := true }, kinds := [], alts := [], laidByText := true, laidKinds := [.data, .data, .data, .sentinel, .sentinel], laidTests := true, laidLooks := .later }
def TextNumbersCardSaid : Prop := Claim7.holds Tryd.pinned (.plain (OpenSpec.ofChange textNumbersSpec)) textNumbersCard

/-- THE TIED CARD OF 'chroniclelaw21.NoteReads'. -/
def noteReadsCard : Claim7 := { stood := { row := noteReadsRow, standIns := [], harness := (true, "7cb9d16cbbf1cd422912e80f585aba5864e7c347e483a7ab5d574764c1eb69c0"), looks := true }, kinds := [], alts := [], laidByText := true, laidKinds := [.data, .data, .data, .data, .sentinel, .sentinel, .pinned], laidTests := true, laidLooks := .later }
def NoteReadsCardSaid : Prop := Claim7.holds Tryd.pinned (.plain (OpenSpec.ofChange noteReadsSpec)) noteReadsCard

/-- THE TIED CARD OF 'chroniclelaw21.NoteBack'. -/
def noteBackCard : Claim7 := { stood := { row := noteBackRow, standIns := [], harness := (true, "7cb9d16cbbf1cd422912e80f585aba5864e7c347e483a7ab5d574764c1eb69c0"), looks := true }, kinds := [], alts := [], laidByText := true, laidKinds := [.data, .data, .data, .data, .sentinel, .sentinel, .pinned], laidTests := true, laidLooks := .later }
def NoteBackCardSaid : Prop := Claim7.holds Tryd.pinned (.plain (OpenSpec.ofChange noteBackSpec)) noteBackCard

/-- THE SECOND FORM's CARD OF 'chroniclelaw08.P256Adds'. -/
def p256AddsUptoCard : Claim7 := { stood := { row := p256AddsUptoRow, standIns := [], harness := (true, "7cb9d16cbbf1cd422912e80f585aba5864e7c347e483a7ab5d574764c1eb69c0"), looks := true }, kinds := [], alts := [], laidByText := true, laidKinds := [.data, .data, .data], laidTests := true, laidLooks := .later }
def P256AddsUptoCardSaid : Prop := Claim7.holds Tryd.pinned (.plain (OpenSpec.upto p256AddsSpec)) p256AddsUptoCard

/-- THE SECOND FORM's CARD OF 'chroniclelaw08.P256Multiplies'. -/
def p256MultipliesUptoCard : Claim7 := { stood := { row := p256MultipliesUptoRow, standIns := [], harness := (true, "7cb9d16cbbf1cd422912e80f585aba5864e7c347e483a7ab5d574764c1eb69c0"), looks := true }, kinds := [], alts := [], laidByText := true, laidKinds := [.data, .data, .data], laidTests := true, laidLooks := .later }
def P256MultipliesUptoCardSaid : Prop := Claim7.holds Tryd.pinned (.plain (OpenSpec.upto p256MultipliesSpec)) p256MultipliesUptoCard

/-- THE SECOND FORM's CARD OF 'chroniclelaw08.P256Both'. -/
def p256BothUptoCard : Claim7 := { stood := { row := p256BothUptoRow, standIns := [], harness := (true, "7cb9d16cbbf1cd422912e80f585aba5864e7c347e483a7ab5d574764c1eb69c0"), looks := true }, kinds := [], alts := [], laidByText := true, laidKinds := [.data, .data, .data], laidTests := true, laidLooks := .later }
def P256BothUptoCardSaid : Prop := Claim7.holds Tryd.pinned (.plain (OpenSpec.upto p256BothSpec)) p256BothUptoCard

/-- THE SECOND FORM's CARD OF 'chroniclelaw08.P256Group'. -/
def p256GroupUptoCard : Claim7 := { stood := { row := p256GroupUptoRow, standIns := [], harness := (true, "7cb9d16cbbf1cd422912e80f585aba5864e7c347e483a7ab5d574764c1eb69c0"), looks := true }, kinds := [], alts := [], laidByText := true, laidKinds := [.data, .data, .data], laidTests := true, laidLooks := .later }
def P256GroupUptoCardSaid : Prop := Claim7.holds Tryd.pinned (.plain (OpenSpec.upto p256GroupSpec)) p256GroupUptoCard

/-- THE SECOND FORM's CARD OF 'chroniclelaw08.P256Order'. -/
def p256OrderUptoCard : Claim7 := { stood := { row := p256OrderUptoRow, standIns := [], harness := (true, "7cb9d16cbbf1cd422912e80f585aba5864e7c347e483a7ab5d574764c1eb69c0"), looks := true }, kinds := [], alts := [], laidByText := true, laidKinds := [.data, .data, .data], laidTests := true, laidLooks := .later }
def P256OrderUptoCardSaid : Prop := Claim7.holds Tryd.pinned (.plain (OpenSpec.upto p256OrderSpec)) p256OrderUptoCard

/-- THE SECOND FORM's CARD OF 'chroniclelaw08.P256Twice'. -/
def p256TwiceUptoCard : Claim7 := { stood := { row := p256TwiceUptoRow, standIns := [], harness := (true, "7cb9d16cbbf1cd422912e80f585aba5864e7c347e483a7ab5d574764c1eb69c0"), looks := true }, kinds := [], alts := [], laidByText := true, laidKinds := [.data, .data, .data], laidTests := true, laidLooks := .later }
def P256TwiceUptoCardSaid : Prop := Claim7.holds Tryd.pinned (.plain (OpenSpec.upto p256TwiceSpec)) p256TwiceUptoCard

/-- THE SECOND FORM's CARD OF 'chroniclelaw21.NoteWrites'. -/
def noteWritesUptoCard : Claim7 := { stood := { row := noteWritesUptoRow, standIns := [], harness := (true, "7cb9d16cbbf1cd422912e80f585aba5864e7c347e483a7ab5d574764c1eb69c0"), looks := true }, kinds := [], alts := [], laidByText := true, laidKinds := [.data, .data, .data], laidTests := true, laidLooks := .later }
def NoteWritesUptoCardSaid : Prop := Claim7.holds Tryd.pinned (.plain (OpenSpec.upto noteWritesSpec)) noteWritesUptoCard

/-- THE SECOND FORM's CARD OF 'chroniclelaw21.NoteLines'. -/
def noteLinesUptoCard : Claim7 := { stood := { row := noteLinesUptoRow, standIns := [], harness := (true, "7cb9d16cbbf1cd422912e80f585aba5864e7c347e483a7ab5d574764c1eb69c0"), looks := true }, kinds := [], alts := [], laidByText := true, laidKinds := [.data, .data, .data], laidTests := true, laidLooks := .later }
def NoteLinesUptoCardSaid : Prop := Claim7.holds Tryd.pinned (.plain (OpenSpec.upto noteLinesSpec)) noteLinesUptoCard

/-- THE SECOND FORM's CARD OF 'chroniclelaw08.P256Bytes'. -/
def p256BytesUptoCard : Claim7 := { stood := { row := p256BytesUptoRow, standIns := [], harness := (true, "7cb9d16cbbf1cd422912e80f585aba5864e7c347e483a7ab5d574764c1eb69c0"), looks := true }, kinds := [], alts := [], laidByText := true, laidKinds := [.data, .data], laidTests := true, laidLooks := .later }
def P256BytesUptoCardSaid : Prop := Claim7.holds Tryd.pinned (.plain (OpenSpec.upto p256BytesSpec)) p256BytesUptoCard

/-- THE SECOND FORM's CARD OF 'chroniclelaw08.P256Stray'. -/
def p256StrayUptoCard : Claim7 := { stood := { row := p256StrayUptoRow, standIns := [], harness := (true, "7cb9d16cbbf1cd422912e80f585aba5864e7c347e483a7ab5d574764c1eb69c0"), looks := true }, kinds := [], alts := [], laidByText := true, laidKinds := [.data, .data, .data], laidTests := true, laidLooks := .later }
def P256StrayUptoCardSaid : Prop := Claim7.holds Tryd.pinned (.plain (OpenSpec.upto p256StraySpec)) p256StrayUptoCard

/-- THE SECOND FORM's CARD OF 'chroniclelaw21.NoteNumbers'. -/
def noteNumbersUptoCard : Claim7 := { stood := { row := noteNumbersUptoRow, standIns := [], harness := (true, "7cb9d16cbbf1cd422912e80f585aba5864e7c347e483a7ab5d574764c1eb69c0"), looks := true }, kinds := [], alts := [], laidByText := true, laidKinds := [.data, .data, .data, .data, .data], laidTests := true, laidLooks := .later }
def NoteNumbersUptoCardSaid : Prop := Claim7.holds Tryd.pinned (.plain (OpenSpec.upto noteNumbersSpec)) noteNumbersUptoCard

/-- THE SECOND FORM's CARD OF 'chroniclelaw04.TextDigits'. -/
def textDigitsUptoCard : Claim7 := { stood := { row := textDigitsUptoRow, standIns := [], harness := (true, "7cb9d16cbbf1cd422912e80f585aba5864e7c347e483a7ab5d574764c1eb69c0"), looks := true }, kinds := [], alts := [], laidByText := true, laidKinds := [.data, .data, .data, .sentinel, .sentinel], laidTests := true, laidLooks := .later }
def TextDigitsUptoCardSaid : Prop := Claim7.holds Tryd.pinned (.plain (OpenSpec.upto textDigitsSpec)) textDigitsUptoCard

/-- THE SECOND FORM's CARD OF 'chroniclelaw04.TextNumbers'. -/
def textNumbersUptoCard : Claim7 := { stood := { row := textNumbersUptoRow, standIns := [], harness := (true, "7cb9d16cbbf1cd422912e80f585aba5864e7c347e483a7ab5d574764c1eb69c0"), looks := true }, kinds := [], alts := [], laidByText := true, laidKinds := [.data, .data, .data, .sentinel, .sentinel], laidTests := true, laidLooks := .later }
def TextNumbersUptoCardSaid : Prop := Claim7.holds Tryd.pinned (.plain (OpenSpec.upto textNumbersSpec)) textNumbersUptoCard

/-- THE SECOND FORM's CARD OF 'chroniclelaw21.NoteReads'. -/
def noteReadsUptoCard : Claim7 := { stood := { row := noteReadsUptoRow, standIns := [], harness := (true, "7cb9d16cbbf1cd422912e80f585aba5864e7c347e483a7ab5d574764c1eb69c0"), looks := true }, kinds := [], alts := [], laidByText := true, laidKinds := [.data, .data, .data, .data, .sentinel, .sentinel, .pinned], laidTests := true, laidLooks := .later }
def NoteReadsUptoCardSaid : Prop := Claim7.holds Tryd.pinned (.plain (OpenSpec.upto noteReadsSpec)) noteReadsUptoCard

/-- THE SECOND FORM's CARD OF 'chroniclelaw21.NoteBack'. -/
def noteBackUptoCard : Claim7 := { stood := { row := noteBackUptoRow, standIns := [], harness := (true, "7cb9d16cbbf1cd422912e80f585aba5864e7c347e483a7ab5d574764c1eb69c0"), looks := true }, kinds := [], alts := [], laidByText := true, laidKinds := [.data, .data, .data, .data, .sentinel, .sentinel, .pinned], laidTests := true, laidLooks := .later }
def NoteBackUptoCardSaid : Prop := Claim7.holds Tryd.pinned (.plain (OpenSpec.upto noteBackSpec)) noteBackUptoCard
end Rows
end Go.Proofs.YtekgjjanikicnaaDoor
