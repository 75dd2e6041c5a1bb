/-
  NARROWER THAN 'FOR EVERY INPUT', by the rows' own cells (each row's printed sentence says how): P256Adds: laid · P256Multiplies: laid · P256Both: laid · P256Group: laid · P256Order: laid · P256Twice: laid · NoteWrites: laid · NoteLines: laid · P256Bytes: laid · P256Stray: laid · NoteNumbers: laid · TextDigits: laid · TextNumbers: laid · NoteReads: laid · NoteBack: laid.
  DERIVED. THE GIVEN ROWS OF THIS SEAT. 15 by the template 'for every input the law returns true; each argument reads behind the call as it read before'; 0 by the template 'total and deterministic' (their statements: YtekgjjanikicnaaDoorTotals.lean).
  GIVEN WITH THE SEED: the statements are not yours to turn. If you find one false, say at which input.
  Laid BY PROGRAM, IN A SANDBOX (cutbox-rows.mjs): the forced cells as the released guide's own fill.sh prints them over the translation 52e88fe22b586a6d… (all of the seat's roots in one cut). By AI agents, Wed Nov 11 2026. No macro, syntax, notation, axiom, sorry.
-/
import Derived.Test.YtekgjjanikicnaaDoorChecked
import GoSem.PinnedTables
import GoSem.Claim
import GoSem.ClaimJoined
import GoSem.ClaimMapViews
import Derived.JoinedTies
import Derived.KernelRfl
namespace Go.Proofs.YtekgjjanikicnaaDoor
/- THE CELL 'sum', in the pinned program and in every row, IS THE sha256 OF THE DUMP (.gsa) THAT YtekgjjanikicnaaDoorProg.lean LOADS. Nothing in Lean hashes anything: it is a label: what it is worth is what the hold of that sum in a sandbox is worth. -/
noncomputable def Tryd.pinned : Pinned := { name := "ytekgjjanikicnaadoor", sum := "52e88fe22b586a6d6666f131c0283593e90c42c2a114616e1f0327f773979eef", checked := Tryd.checked }
namespace Rows
def none {H : Type} : Left H := { results := [], args := [] }

/- WHAT THE LISTED PACKAGE-LEVEL VARIABLES READ AS WHEN THE CALL BEGINS. Each datum BY PROGRAM (the guide's laid-datum.mjs) off the statement by which the dump's own 'gosem.cut.vars' lays the variable. In a bare row this is a premise. The card (YtekgjjanikicnaaDoorCards.lean) ties it to the program's text. -/
def laid_chronicle_field_moduli {H : Type} : DataW H := .agg [.agg [.agg [.lit (.int .u64 18446744073709551615), .lit (.int .u64 4294967295), .lit (.int .u64 0), .lit (.int .u64 18446744069414584321)], .agg [.lit (.int .u64 3), .lit (.int .u64 18446744056529682431), .lit (.int .u64 18446744073709551614), .lit (.int .u64 21474836477)], .lit (.int .u64 1)], .agg [.agg [.lit (.int .u64 17562291160714782033), .lit (.int .u64 13611842547513532036), .lit (.int .u64 18446744073709551615), .lit (.int .u64 18446744069414584320)], .agg [.lit (.int .u64 9449762124159643298), .lit (.int .u64 5087230966250696614), .lit (.int .u64 2901921493521525849), .lit (.int .u64 7413256579398063648)], .lit (.int .u64 14758798090332847183)], .agg [.agg [.lit (.int .u64 18446744073709551597), .lit (.int .u64 18446744073709551615), .lit (.int .u64 18446744073709551615), .lit (.int .u64 9223372036854775807)], .agg [.lit (.int .u64 1444), .lit (.int .u64 0), .lit (.int .u64 0), .lit (.int .u64 0)], .lit (.int .u64 9708812670373448219)], .agg [.agg [.lit (.int .u64 6346243789798364141), .lit (.int .u64 1503914060200516822), .lit (.int .u64 0), .lit (.int .u64 1152921504606846976)], .agg [.lit (.int .u64 11819153939886771969), .lit (.int .u64 14991950615390032711), .lit (.int .u64 14910419812499177061), .lit (.int .u64 259310039853996605)], .lit (.int .u64 15183074304973897243)]]
def laid_chronicle_p256_b {H : Type} : DataW H := .agg [.lit (.int .u64 4309448131093880907), .lit (.int .u64 7285987128567378166), .lit (.int .u64 12964664127075681980), .lit (.int .u64 6540974713487397863)]
def laid_chronicle_p256_one {H : Type} : DataW H := .agg [.lit (.int .u64 1), .lit (.int .u64 0), .lit (.int .u64 0), .lit (.int .u64 0)]
def laid_math_bits_deBruijn32tab {H : Type} : DataW H := .agg [.lit (.int .u8 0), .lit (.int .u8 1), .lit (.int .u8 28), .lit (.int .u8 2), .lit (.int .u8 29), .lit (.int .u8 14), .lit (.int .u8 24), .lit (.int .u8 3), .lit (.int .u8 30), .lit (.int .u8 22), .lit (.int .u8 20), .lit (.int .u8 15), .lit (.int .u8 25), .lit (.int .u8 17), .lit (.int .u8 4), .lit (.int .u8 8), .lit (.int .u8 31), .lit (.int .u8 27), .lit (.int .u8 13), .lit (.int .u8 23), .lit (.int .u8 21), .lit (.int .u8 19), .lit (.int .u8 16), .lit (.int .u8 7), .lit (.int .u8 26), .lit (.int .u8 12), .lit (.int .u8 18), .lit (.int .u8 6), .lit (.int .u8 11), .lit (.int .u8 5), .lit (.int .u8 10), .lit (.int .u8 9)]
def laid_math_bits_deBruijn64tab {H : Type} : DataW H := .agg [.lit (.int .u8 0), .lit (.int .u8 1), .lit (.int .u8 56), .lit (.int .u8 2), .lit (.int .u8 57), .lit (.int .u8 49), .lit (.int .u8 28), .lit (.int .u8 3), .lit (.int .u8 61), .lit (.int .u8 58), .lit (.int .u8 42), .lit (.int .u8 50), .lit (.int .u8 38), .lit (.int .u8 29), .lit (.int .u8 17), .lit (.int .u8 4), .lit (.int .u8 62), .lit (.int .u8 47), .lit (.int .u8 59), .lit (.int .u8 36), .lit (.int .u8 45), .lit (.int .u8 43), .lit (.int .u8 51), .lit (.int .u8 22), .lit (.int .u8 53), .lit (.int .u8 39), .lit (.int .u8 33), .lit (.int .u8 30), .lit (.int .u8 24), .lit (.int .u8 18), .lit (.int .u8 12), .lit (.int .u8 5), .lit (.int .u8 63), .lit (.int .u8 55), .lit (.int .u8 48), .lit (.int .u8 27), .lit (.int .u8 60), .lit (.int .u8 41), .lit (.int .u8 37), .lit (.int .u8 16), .lit (.int .u8 46), .lit (.int .u8 35), .lit (.int .u8 44), .lit (.int .u8 21), .lit (.int .u8 52), .lit (.int .u8 32), .lit (.int .u8 23), .lit (.int .u8 11), .lit (.int .u8 54), .lit (.int .u8 26), .lit (.int .u8 40), .lit (.int .u8 15), .lit (.int .u8 34), .lit (.int .u8 20), .lit (.int .u8 31), .lit (.int .u8 10), .lit (.int .u8 25), .lit (.int .u8 14), .lit (.int .u8 19), .lit (.int .u8 9), .lit (.int .u8 13), .lit (.int .u8 8), .lit (.int .u8 7), .lit (.int .u8 6)]
def laid_internal_strconv_uint64pow10 {H : Type} : DataW H := .agg [.lit (.int .u64 1), .lit (.int .u64 10), .lit (.int .u64 100), .lit (.int .u64 1000), .lit (.int .u64 10000), .lit (.int .u64 100000), .lit (.int .u64 1000000), .lit (.int .u64 10000000), .lit (.int .u64 100000000), .lit (.int .u64 1000000000), .lit (.int .u64 10000000000), .lit (.int .u64 100000000000), .lit (.int .u64 1000000000000), .lit (.int .u64 10000000000000), .lit (.int .u64 100000000000000), .lit (.int .u64 1000000000000000), .lit (.int .u64 10000000000000000), .lit (.int .u64 100000000000000000), .lit (.int .u64 1000000000000000000), .lit (.int .u64 10000000000000000000)]
def laid_chronicle_sha256_first {H : Type} : DataW H := .agg [.lit (.int .u32 1779033703), .lit (.int .u32 3144134277), .lit (.int .u32 1013904242), .lit (.int .u32 2773480762), .lit (.int .u32 1359893119), .lit (.int .u32 2600822924), .lit (.int .u32 528734635), .lit (.int .u32 1541459225)]
def laid_chronicle_sha256_constants {H : Type} : DataW H := .agg [.lit (.int .u32 1116352408), .lit (.int .u32 1899447441), .lit (.int .u32 3049323471), .lit (.int .u32 3921009573), .lit (.int .u32 961987163), .lit (.int .u32 1508970993), .lit (.int .u32 2453635748), .lit (.int .u32 2870763221), .lit (.int .u32 3624381080), .lit (.int .u32 310598401), .lit (.int .u32 607225278), .lit (.int .u32 1426881987), .lit (.int .u32 1925078388), .lit (.int .u32 2162078206), .lit (.int .u32 2614888103), .lit (.int .u32 3248222580), .lit (.int .u32 3835390401), .lit (.int .u32 4022224774), .lit (.int .u32 264347078), .lit (.int .u32 604807628), .lit (.int .u32 770255983), .lit (.int .u32 1249150122), .lit (.int .u32 1555081692), .lit (.int .u32 1996064986), .lit (.int .u32 2554220882), .lit (.int .u32 2821834349), .lit (.int .u32 2952996808), .lit (.int .u32 3210313671), .lit (.int .u32 3336571891), .lit (.int .u32 3584528711), .lit (.int .u32 113926993), .lit (.int .u32 338241895), .lit (.int .u32 666307205), .lit (.int .u32 773529912), .lit (.int .u32 1294757372), .lit (.int .u32 1396182291), .lit (.int .u32 1695183700), .lit (.int .u32 1986661051), .lit (.int .u32 2177026350), .lit (.int .u32 2456956037), .lit (.int .u32 2730485921), .lit (.int .u32 2820302411), .lit (.int .u32 3259730800), .lit (.int .u32 3345764771), .lit (.int .u32 3516065817), .lit (.int .u32 3600352804), .lit (.int .u32 4094571909), .lit (.int .u32 275423344), .lit (.int .u32 430227734), .lit (.int .u32 506948616), .lit (.int .u32 659060556), .lit (.int .u32 883997877), .lit (.int .u32 958139571), .lit (.int .u32 1322822218), .lit (.int .u32 1537002063), .lit (.int .u32 1747873779), .lit (.int .u32 1955562222), .lit (.int .u32 2024104815), .lit (.int .u32 2227730452), .lit (.int .u32 2361852424), .lit (.int .u32 2428436474), .lit (.int .u32 2756734187), .lit (.int .u32 3204031479), .lit (.int .u32 3329325298)]
def laid_strconv_ErrRange {H : Type} : DataW H := .iface "*errors.errorString" (.ptr (.agg [.lit (.string [118, 97, 108, 117, 101, 32, 111, 117, 116, 32, 111, 102, 32, 114, 97, 110, 103, 101])]))
def laid_strconv_ErrSyntax {H : Type} : DataW H := .iface "*errors.errorString" (.ptr (.agg [.lit (.string [105, 110, 118, 97, 108, 105, 100, 32, 115, 121, 110, 116, 97, 120])]))
def laid_unicode_utf8_acceptRanges {H : Type} : DataW H := .agg [.agg [.lit (.int .u8 128), .lit (.int .u8 191)], .agg [.lit (.int .u8 160), .lit (.int .u8 191)], .agg [.lit (.int .u8 128), .lit (.int .u8 159)], .agg [.lit (.int .u8 144), .lit (.int .u8 191)], .agg [.lit (.int .u8 128), .lit (.int .u8 143)], .agg [.lit (.int .u8 0), .lit (.int .u8 0)], .agg [.lit (.int .u8 0), .lit (.int .u8 0)], .agg [.lit (.int .u8 0), .lit (.int .u8 0)], .agg [.lit (.int .u8 0), .lit (.int .u8 0)], .agg [.lit (.int .u8 0), .lit (.int .u8 0)], .agg [.lit (.int .u8 0), .lit (.int .u8 0)], .agg [.lit (.int .u8 0), .lit (.int .u8 0)], .agg [.lit (.int .u8 0), .lit (.int .u8 0)], .agg [.lit (.int .u8 0), .lit (.int .u8 0)], .agg [.lit (.int .u8 0), .lit (.int .u8 0)], .agg [.lit (.int .u8 0), .lit (.int .u8 0)]]
/-- One of Go's own tables, pinned by name: the form's constant. -/
def laid_unicode_utf8_first : DataW Unit := Go.Pinned.utf8First

/-- 'chroniclelaw08.P256Adds': WHATEVER THE INPUT: true; the input reads as it did. -/
def p256AddsSpec : ChangeSpec := { name := "p256Adds", fn := fun _ => fun
  | [d1, d2] => { results := [.lit (.bool true)], args := [d1, d2] }
  | _ => none }
def p256AddsRow : OpenClaim := { program := "ytekgjjanikicnaadoor", sum := "52e88fe22b586a6d6666f131c0283593e90c42c2a114616e1f0327f773979eef", func := "chronicle/chroniclelaw08.P256Adds", spec := "p256Adds", inPlace := ["math/bits.Sub64", "math/bits.Add64"], unfollowed := true, recurses := true, named := ["chronicle/p256.b", "chronicle/field.moduli", "chronicle/p256.one"], apart := false, laid := [("chronicle/field.moduli", laid_chronicle_field_moduli), ("chronicle/p256.b", laid_chronicle_p256_b), ("chronicle/p256.one", laid_chronicle_p256_one)] }
def P256AddsSaid : Prop := p256AddsRow.holds Tryd.pinned (OpenSpec.ofChange p256AddsSpec)

/-- ITS FALSE NEIGHBOUR: 'it returns false'. Refute it at one input. -/
def p256AddsWrong : ChangeSpec := { name := "p256Adds", fn := fun _ => fun
  | [d1, d2] => { results := [.lit (.bool false)], args := [d1, d2] }
  | _ => none }
def P256AddsWrongFalsely : Prop := p256AddsRow.holds Tryd.pinned (OpenSpec.ofChange p256AddsWrong)

/-- 'chroniclelaw08.P256Multiplies': WHATEVER THE INPUT: true; the input reads as it did. -/
def p256MultipliesSpec : ChangeSpec := { name := "p256Multiplies", fn := fun _ => fun
  | [d1, d2] => { results := [.lit (.bool true)], args := [d1, d2] }
  | _ => none }
def p256MultipliesRow : OpenClaim := { program := "ytekgjjanikicnaadoor", sum := "52e88fe22b586a6d6666f131c0283593e90c42c2a114616e1f0327f773979eef", func := "chronicle/chroniclelaw08.P256Multiplies", spec := "p256Multiplies", inPlace := ["math/bits.Sub64", "math/bits.Add64"], unfollowed := true, recurses := true, named := ["chronicle/p256.b", "chronicle/field.moduli", "chronicle/p256.one"], apart := false, laid := [("chronicle/field.moduli", laid_chronicle_field_moduli), ("chronicle/p256.b", laid_chronicle_p256_b), ("chronicle/p256.one", laid_chronicle_p256_one)] }
def P256MultipliesSaid : Prop := p256MultipliesRow.holds Tryd.pinned (OpenSpec.ofChange p256MultipliesSpec)

/-- ITS FALSE NEIGHBOUR: 'it returns false'. Refute it at one input. -/
def p256MultipliesWrong : ChangeSpec := { name := "p256Multiplies", fn := fun _ => fun
  | [d1, d2] => { results := [.lit (.bool false)], args := [d1, d2] }
  | _ => none }
def P256MultipliesWrongFalsely : Prop := p256MultipliesRow.holds Tryd.pinned (OpenSpec.ofChange p256MultipliesWrong)

/-- 'chroniclelaw08.P256Both': WHATEVER THE INPUT: true; the input reads as it did. -/
def p256BothSpec : ChangeSpec := { name := "p256Both", fn := fun _ => fun
  | [d1, d2, d3] => { results := [.lit (.bool true)], args := [d1, d2, d3] }
  | _ => none }
def p256BothRow : OpenClaim := { program := "ytekgjjanikicnaadoor", sum := "52e88fe22b586a6d6666f131c0283593e90c42c2a114616e1f0327f773979eef", func := "chronicle/chroniclelaw08.P256Both", spec := "p256Both", inPlace := ["math/bits.Sub64", "math/bits.Add64"], unfollowed := true, recurses := true, named := ["chronicle/p256.one", "chronicle/p256.b", "chronicle/field.moduli"], apart := false, laid := [("chronicle/field.moduli", laid_chronicle_field_moduli), ("chronicle/p256.b", laid_chronicle_p256_b), ("chronicle/p256.one", laid_chronicle_p256_one)] }
def P256BothSaid : Prop := p256BothRow.holds Tryd.pinned (OpenSpec.ofChange p256BothSpec)

/-- ITS FALSE NEIGHBOUR: 'it returns false'. Refute it at one input. -/
def p256BothWrong : ChangeSpec := { name := "p256Both", fn := fun _ => fun
  | [d1, d2, d3] => { results := [.lit (.bool false)], args := [d1, d2, d3] }
  | _ => none }
def P256BothWrongFalsely : Prop := p256BothRow.holds Tryd.pinned (OpenSpec.ofChange p256BothWrong)

/-- 'chroniclelaw08.P256Group': WHATEVER THE INPUT: true; the input reads as it did. -/
def p256GroupSpec : ChangeSpec := { name := "p256Group", fn := fun _ => fun
  | [d1, d2, d3] => { results := [.lit (.bool true)], args := [d1, d2, d3] }
  | _ => none }
def p256GroupRow : OpenClaim := { program := "ytekgjjanikicnaadoor", sum := "52e88fe22b586a6d6666f131c0283593e90c42c2a114616e1f0327f773979eef", func := "chronicle/chroniclelaw08.P256Group", spec := "p256Group", inPlace := ["math/bits.Sub64", "math/bits.Add64"], unfollowed := true, recurses := true, named := ["chronicle/p256.one", "chronicle/p256.b", "chronicle/field.moduli"], apart := false, laid := [("chronicle/field.moduli", laid_chronicle_field_moduli), ("chronicle/p256.b", laid_chronicle_p256_b), ("chronicle/p256.one", laid_chronicle_p256_one)] }
def P256GroupSaid : Prop := p256GroupRow.holds Tryd.pinned (OpenSpec.ofChange p256GroupSpec)

/-- ITS FALSE NEIGHBOUR: 'it returns false'. Refute it at one input. -/
def p256GroupWrong : ChangeSpec := { name := "p256Group", fn := fun _ => fun
  | [d1, d2, d3] => { results := [.lit (.bool false)], args := [d1, d2, d3] }
  | _ => none }
def P256GroupWrongFalsely : Prop := p256GroupRow.holds Tryd.pinned (OpenSpec.ofChange p256GroupWrong)

/-- 'chroniclelaw08.P256Order': WHATEVER THE INPUT: true; the input reads as it did. -/
def p256OrderSpec : ChangeSpec := { name := "p256Order", fn := fun _ => fun
  | [d] => { results := [.lit (.bool true)], args := [d] }
  | _ => none }
def p256OrderRow : OpenClaim := { program := "ytekgjjanikicnaadoor", sum := "52e88fe22b586a6d6666f131c0283593e90c42c2a114616e1f0327f773979eef", func := "chronicle/chroniclelaw08.P256Order", spec := "p256Order", inPlace := ["math/bits.Sub64", "math/bits.Add64"], unfollowed := true, recurses := true, named := ["chronicle/p256.one", "chronicle/p256.b", "chronicle/field.moduli"], apart := false, laid := [("chronicle/field.moduli", laid_chronicle_field_moduli), ("chronicle/p256.b", laid_chronicle_p256_b), ("chronicle/p256.one", laid_chronicle_p256_one)] }
def P256OrderSaid : Prop := p256OrderRow.holds Tryd.pinned (OpenSpec.ofChange p256OrderSpec)

/-- ITS FALSE NEIGHBOUR: 'it returns false'. Refute it at one input. -/
def p256OrderWrong : ChangeSpec := { name := "p256Order", fn := fun _ => fun
  | [d] => { results := [.lit (.bool false)], args := [d] }
  | _ => none }
def P256OrderWrongFalsely : Prop := p256OrderRow.holds Tryd.pinned (OpenSpec.ofChange p256OrderWrong)

/-- 'chroniclelaw08.P256Twice': WHATEVER THE INPUT: true; the input reads as it did. -/
def p256TwiceSpec : ChangeSpec := { name := "p256Twice", fn := fun _ => fun
  | [d1, d2] => { results := [.lit (.bool true)], args := [d1, d2] }
  | _ => none }
def p256TwiceRow : OpenClaim := { program := "ytekgjjanikicnaadoor", sum := "52e88fe22b586a6d6666f131c0283593e90c42c2a114616e1f0327f773979eef", func := "chronicle/chroniclelaw08.P256Twice", spec := "p256Twice", inPlace := ["math/bits.Sub64", "math/bits.Add64"], unfollowed := true, recurses := true, named := ["chronicle/p256.one", "chronicle/p256.b", "chronicle/field.moduli"], apart := false, laid := [("chronicle/field.moduli", laid_chronicle_field_moduli), ("chronicle/p256.b", laid_chronicle_p256_b), ("chronicle/p256.one", laid_chronicle_p256_one)] }
def P256TwiceSaid : Prop := p256TwiceRow.holds Tryd.pinned (OpenSpec.ofChange p256TwiceSpec)

/-- ITS FALSE NEIGHBOUR: 'it returns false'. Refute it at one input. -/
def p256TwiceWrong : ChangeSpec := { name := "p256Twice", fn := fun _ => fun
  | [d1, d2] => { results := [.lit (.bool false)], args := [d1, d2] }
  | _ => none }
def P256TwiceWrongFalsely : Prop := p256TwiceRow.holds Tryd.pinned (OpenSpec.ofChange p256TwiceWrong)

/-- 'chroniclelaw21.NoteWrites': WHATEVER THE INPUT: true; the input reads as it did. -/
def noteWritesSpec : ChangeSpec := { name := "noteWrites", fn := fun _ => fun
  | [d1, d2] => { results := [.lit (.bool true)], args := [d1, d2] }
  | _ => none }
def noteWritesRow : OpenClaim := { program := "ytekgjjanikicnaadoor", sum := "52e88fe22b586a6d6666f131c0283593e90c42c2a114616e1f0327f773979eef", func := "chronicle/chroniclelaw21.NoteWrites", spec := "noteWrites", inPlace := ["internal/abi.NoEscape"], recurses := true, named := ["internal/strconv.uint64pow10", "math/bits.deBruijn32tab", "math/bits.deBruijn64tab"], apart := false, laid := [("math/bits.deBruijn32tab", laid_math_bits_deBruijn32tab), ("math/bits.deBruijn64tab", laid_math_bits_deBruijn64tab), ("internal/strconv.uint64pow10", laid_internal_strconv_uint64pow10)] }
def NoteWritesSaid : Prop := noteWritesRow.holds Tryd.pinned (OpenSpec.ofChange noteWritesSpec)

/-- ITS FALSE NEIGHBOUR: 'it returns false'. Refute it at one input. -/
def noteWritesWrong : ChangeSpec := { name := "noteWrites", fn := fun _ => fun
  | [d1, d2] => { results := [.lit (.bool false)], args := [d1, d2] }
  | _ => none }
def NoteWritesWrongFalsely : Prop := noteWritesRow.holds Tryd.pinned (OpenSpec.ofChange noteWritesWrong)

/-- 'chroniclelaw21.NoteLines': WHATEVER THE INPUT: true; the input reads as it did. -/
def noteLinesSpec : ChangeSpec := { name := "noteLines", fn := fun _ => fun
  | [d1, d2] => { results := [.lit (.bool true)], args := [d1, d2] }
  | _ => none }
def noteLinesRow : OpenClaim := { program := "ytekgjjanikicnaadoor", sum := "52e88fe22b586a6d6666f131c0283593e90c42c2a114616e1f0327f773979eef", func := "chronicle/chroniclelaw21.NoteLines", spec := "noteLines", inPlace := ["internal/abi.NoEscape"], named := ["internal/strconv.uint64pow10", "math/bits.deBruijn32tab", "math/bits.deBruijn64tab"], apart := false, laid := [("math/bits.deBruijn32tab", laid_math_bits_deBruijn32tab), ("math/bits.deBruijn64tab", laid_math_bits_deBruijn64tab), ("internal/strconv.uint64pow10", laid_internal_strconv_uint64pow10)] }
def NoteLinesSaid : Prop := noteLinesRow.holds Tryd.pinned (OpenSpec.ofChange noteLinesSpec)

/-- ITS FALSE NEIGHBOUR: 'it returns false'. Refute it at one input. -/
def noteLinesWrong : ChangeSpec := { name := "noteLines", fn := fun _ => fun
  | [d1, d2] => { results := [.lit (.bool false)], args := [d1, d2] }
  | _ => none }
def NoteLinesWrongFalsely : Prop := noteLinesRow.holds Tryd.pinned (OpenSpec.ofChange noteLinesWrong)

/-- 'chroniclelaw08.P256Bytes': WHATEVER THE INPUT: true; the input reads as it did. -/
def p256BytesSpec : ChangeSpec := { name := "p256Bytes", fn := fun _ => fun
  | [d1, d2] => { results := [.lit (.bool true)], args := [d1, d2] }
  | _ => none }
def p256BytesRow : OpenClaim := { program := "ytekgjjanikicnaadoor", sum := "52e88fe22b586a6d6666f131c0283593e90c42c2a114616e1f0327f773979eef", func := "chronicle/chroniclelaw08.P256Bytes", spec := "p256Bytes", inPlace := ["math/bits.Sub64", "math/bits.Add64"], named := ["chronicle/p256.b", "chronicle/field.moduli"], apart := false, laid := [("chronicle/field.moduli", laid_chronicle_field_moduli), ("chronicle/p256.b", laid_chronicle_p256_b)] }
def P256BytesSaid : Prop := p256BytesRow.holds Tryd.pinned (OpenSpec.ofChange p256BytesSpec)

/-- ITS FALSE NEIGHBOUR: 'it returns false'. Refute it at one input. -/
def p256BytesWrong : ChangeSpec := { name := "p256Bytes", fn := fun _ => fun
  | [d1, d2] => { results := [.lit (.bool false)], args := [d1, d2] }
  | _ => none }
def P256BytesWrongFalsely : Prop := p256BytesRow.holds Tryd.pinned (OpenSpec.ofChange p256BytesWrong)

/-- 'chroniclelaw08.P256Stray': WHATEVER THE INPUT: true; the input reads as it did. -/
def p256StraySpec : ChangeSpec := { name := "p256Stray", fn := fun _ => fun
  | [d1, d2] => { results := [.lit (.bool true)], args := [d1, d2] }
  | _ => none }
def p256StrayRow : OpenClaim := { program := "ytekgjjanikicnaadoor", sum := "52e88fe22b586a6d6666f131c0283593e90c42c2a114616e1f0327f773979eef", func := "chronicle/chroniclelaw08.P256Stray", spec := "p256Stray", inPlace := ["math/bits.Sub64", "math/bits.Add64"], unfollowed := true, recurses := true, named := ["chronicle/p256.b", "chronicle/field.moduli", "chronicle/p256.one"], apart := false, laid := [("chronicle/field.moduli", laid_chronicle_field_moduli), ("chronicle/p256.b", laid_chronicle_p256_b), ("chronicle/p256.one", laid_chronicle_p256_one)] }
def P256StraySaid : Prop := p256StrayRow.holds Tryd.pinned (OpenSpec.ofChange p256StraySpec)

/-- ITS FALSE NEIGHBOUR: 'it returns false'. Refute it at one input. -/
def p256StrayWrong : ChangeSpec := { name := "p256Stray", fn := fun _ => fun
  | [d1, d2] => { results := [.lit (.bool false)], args := [d1, d2] }
  | _ => none }
def P256StrayWrongFalsely : Prop := p256StrayRow.holds Tryd.pinned (OpenSpec.ofChange p256StrayWrong)

/-- 'chroniclelaw21.NoteNumbers': WHATEVER THE INPUT: true; the input reads as it did. -/
def noteNumbersSpec : ChangeSpec := { name := "noteNumbers", fn := fun _ => fun
  | [d] => { results := [.lit (.bool true)], args := [d] }
  | _ => none }
def noteNumbersRow : OpenClaim := { program := "ytekgjjanikicnaadoor", sum := "52e88fe22b586a6d6666f131c0283593e90c42c2a114616e1f0327f773979eef", func := "chronicle/chroniclelaw21.NoteNumbers", spec := "noteNumbers", inPlace := ["internal/abi.NoEscape"], named := ["internal/strconv.uint64pow10", "math/bits.deBruijn32tab", "math/bits.deBruijn64tab", "chronicle/sha256.first", "chronicle/sha256.constants"], apart := false, laid := [("math/bits.deBruijn32tab", laid_math_bits_deBruijn32tab), ("math/bits.deBruijn64tab", laid_math_bits_deBruijn64tab), ("chronicle/sha256.first", laid_chronicle_sha256_first), ("chronicle/sha256.constants", laid_chronicle_sha256_constants), ("internal/strconv.uint64pow10", laid_internal_strconv_uint64pow10)] }
def NoteNumbersSaid : Prop := noteNumbersRow.holds Tryd.pinned (OpenSpec.ofChange noteNumbersSpec)

/-- ITS FALSE NEIGHBOUR: 'it returns false'. Refute it at one input. -/
def noteNumbersWrong : ChangeSpec := { name := "noteNumbers", fn := fun _ => fun
  | [d] => { results := [.lit (.bool false)], args := [d] }
  | _ => none }
def NoteNumbersWrongFalsely : Prop := noteNumbersRow.holds Tryd.pinned (OpenSpec.ofChange noteNumbersWrong)

/-- 'chroniclelaw04.TextDigits': WHATEVER THE INPUT: true; the input reads as it did. -/
def textDigitsSpec : ChangeSpec := { name := "textDigits", fn := fun _ => fun
  | [d] => { results := [.lit (.bool true)], args := [d] }
  | _ => none }
def textDigitsRow : OpenClaim := { program := "ytekgjjanikicnaadoor", sum := "52e88fe22b586a6d6666f131c0283593e90c42c2a114616e1f0327f773979eef", func := "chronicle/chroniclelaw04.TextDigits", spec := "textDigits", inPlace := ["internal/abi.NoEscape"], named := ["internal/strconv.uint64pow10", "math/bits.deBruijn32tab", "math/bits.deBruijn64tab", "strconv.ErrSyntax", "strconv.ErrRange"], apart := false, laid := [("math/bits.deBruijn32tab", laid_math_bits_deBruijn32tab), ("math/bits.deBruijn64tab", laid_math_bits_deBruijn64tab), ("internal/strconv.uint64pow10", laid_internal_strconv_uint64pow10), ("strconv.ErrRange", laid_strconv_ErrRange), ("strconv.ErrSyntax", laid_strconv_ErrSyntax)] }
def TextDigitsSaid : Prop := textDigitsRow.holds Tryd.pinned (OpenSpec.ofChange textDigitsSpec)

/-- ITS FALSE NEIGHBOUR: 'it returns false'. Refute it at one input. -/
def textDigitsWrong : ChangeSpec := { name := "textDigits", fn := fun _ => fun
  | [d] => { results := [.lit (.bool false)], args := [d] }
  | _ => none }
def TextDigitsWrongFalsely : Prop := textDigitsRow.holds Tryd.pinned (OpenSpec.ofChange textDigitsWrong)

/-- 'chroniclelaw04.TextNumbers': WHATEVER THE INPUT: true; the input reads as it did. -/
def textNumbersSpec : ChangeSpec := { name := "textNumbers", fn := fun _ => fun
  | [d1, d2] => { results := [.lit (.bool true)], args := [d1, d2] }
  | _ => none }
def textNumbersRow : OpenClaim := { program := "ytekgjjanikicnaadoor", sum := "52e88fe22b586a6d6666f131c0283593e90c42c2a114616e1f0327f773979eef", func := "chronicle/chroniclelaw04.TextNumbers", spec := "textNumbers", inPlace := ["internal/abi.NoEscape"], recurses := true, named := ["strconv.ErrSyntax", "strconv.ErrRange", "internal/strconv.uint64pow10", "math/bits.deBruijn32tab", "math/bits.deBruijn64tab"], apart := false, laid := [("math/bits.deBruijn32tab", laid_math_bits_deBruijn32tab), ("math/bits.deBruijn64tab", laid_math_bits_deBruijn64tab), ("internal/strconv.uint64pow10", laid_internal_strconv_uint64pow10), ("strconv.ErrRange", laid_strconv_ErrRange), ("strconv.ErrSyntax", laid_strconv_ErrSyntax)] }
def TextNumbersSaid : Prop := textNumbersRow.holds Tryd.pinned (OpenSpec.ofChange textNumbersSpec)

/-- ITS FALSE NEIGHBOUR: 'it returns false'. Refute it at one input. -/
def textNumbersWrong : ChangeSpec := { name := "textNumbers", fn := fun _ => fun
  | [d1, d2] => { results := [.lit (.bool false)], args := [d1, d2] }
  | _ => none }
def TextNumbersWrongFalsely : Prop := textNumbersRow.holds Tryd.pinned (OpenSpec.ofChange textNumbersWrong)

/-- 'chroniclelaw21.NoteReads': WHATEVER THE INPUT: true; the input reads as it did. -/
def noteReadsSpec : ChangeSpec := { name := "noteReads", fn := fun _ => fun
  | [d] => { results := [.lit (.bool true)], args := [d] }
  | _ => none }
def noteReadsRow : OpenClaim := { program := "ytekgjjanikicnaadoor", sum := "52e88fe22b586a6d6666f131c0283593e90c42c2a114616e1f0327f773979eef", func := "chronicle/chroniclelaw21.NoteReads", spec := "noteReads", inPlace := ["internal/abi.NoEscape", "internal/bytealg.CountString", "internal/bytealg.IndexByteString", "internal/bytealg.IndexString"], recurses := true, named := ["internal/strconv.uint64pow10", "math/bits.deBruijn32tab", "math/bits.deBruijn64tab", "unicode/utf8.first", "unicode/utf8.acceptRanges", "internal/bytealg.MaxLen", "strconv.ErrSyntax", "strconv.ErrRange"], apart := false, laid := [("math/bits.deBruijn32tab", laid_math_bits_deBruijn32tab), ("math/bits.deBruijn64tab", laid_math_bits_deBruijn64tab), ("internal/strconv.uint64pow10", laid_internal_strconv_uint64pow10), ("unicode/utf8.acceptRanges", laid_unicode_utf8_acceptRanges), ("strconv.ErrRange", laid_strconv_ErrRange), ("strconv.ErrSyntax", laid_strconv_ErrSyntax), ("unicode/utf8.first", laid_unicode_utf8_first)] }
def NoteReadsSaid : Prop := noteReadsRow.holds Tryd.pinned (OpenSpec.ofChange noteReadsSpec)

/-- ITS FALSE NEIGHBOUR: 'it returns false'. Refute it at one input. -/
def noteReadsWrong : ChangeSpec := { name := "noteReads", fn := fun _ => fun
  | [d] => { results := [.lit (.bool false)], args := [d] }
  | _ => none }
def NoteReadsWrongFalsely : Prop := noteReadsRow.holds Tryd.pinned (OpenSpec.ofChange noteReadsWrong)

/-- 'chroniclelaw21.NoteBack': WHATEVER THE INPUT: true; the input reads as it did. -/
def noteBackSpec : ChangeSpec := { name := "noteBack", fn := fun _ => fun
  | [d1, d2, d3] => { results := [.lit (.bool true)], args := [d1, d2, d3] }
  | _ => none }
def noteBackRow : OpenClaim := { program := "ytekgjjanikicnaadoor", sum := "52e88fe22b586a6d6666f131c0283593e90c42c2a114616e1f0327f773979eef", func := "chronicle/chroniclelaw21.NoteBack", spec := "noteBack", inPlace := ["internal/abi.NoEscape", "internal/bytealg.CountString", "internal/bytealg.IndexByteString", "internal/bytealg.IndexString"], named := ["internal/strconv.uint64pow10", "math/bits.deBruijn32tab", "math/bits.deBruijn64tab", "unicode/utf8.first", "unicode/utf8.acceptRanges", "internal/bytealg.MaxLen", "strconv.ErrSyntax", "strconv.ErrRange"], apart := false, laid := [("math/bits.deBruijn32tab", laid_math_bits_deBruijn32tab), ("math/bits.deBruijn64tab", laid_math_bits_deBruijn64tab), ("internal/strconv.uint64pow10", laid_internal_strconv_uint64pow10), ("unicode/utf8.acceptRanges", laid_unicode_utf8_acceptRanges), ("strconv.ErrRange", laid_strconv_ErrRange), ("strconv.ErrSyntax", laid_strconv_ErrSyntax), ("unicode/utf8.first", laid_unicode_utf8_first)] }
def NoteBackSaid : Prop := noteBackRow.holds Tryd.pinned (OpenSpec.ofChange noteBackSpec)

/-- ITS FALSE NEIGHBOUR: 'it returns false'. Refute it at one input. -/
def noteBackWrong : ChangeSpec := { name := "noteBack", fn := fun _ => fun
  | [d1, d2, d3] => { results := [.lit (.bool false)], args := [d1, d2, d3] }
  | _ => none }
def NoteBackWrongFalsely : Prop := noteBackRow.holds Tryd.pinned (OpenSpec.ofChange noteBackWrong)

/- THE SECOND FORM. 'bulk': how many values and letters a reading holds, each counted each time it is reached (what is shared counts as often as it is met; a slice's spare places count too). A statement '..UptoSaid' is the law's where the arguments, and the package variables that the reading takes, are together of bulk at most 1048576: NARROWER than '..Said'. Prove '..Said' where nothing that the law and all that it calls make is longer than what came in: it says more and counts as full. Else prove '..UptoSaid'. A law counts once. -/
mutual
def uptoBulk {H : Type} : DataW H → Nat
  | .lit (.string bytes) => bytes.length + 1
  | .lit _ => 1
  | .nil => 1
  | .ptr d => uptoBulk d + 1
  | .slice elems spare => uptoBulkAll elems + uptoBulkAll spare + 1
  | .agg parts => uptoBulkAll parts + 1
  | .iface _ d => uptoBulk d + 1
  | .map entries => uptoBulkEntries entries + 1
  | .held _ => 1
def uptoBulkAll {H : Type} : List (DataW H) → Nat
  | [] => 0
  | d :: r => uptoBulk d + uptoBulkAll r
def uptoBulkEntries {H : Type} : List (Lit × DataW H) → Nat
  | [] => 0
  | x :: r => uptoBulkEntry x + uptoBulkEntries r
def uptoBulkEntry {H : Type} : Lit × DataW H → Nat
  | (.string bytes, d) => bytes.length + uptoBulk d + 1
  | (_, d) => uptoBulk d + 1
 end
def uptoSmall : (H : Type) → List (DataW H) → Bool := fun _ ds => decide (uptoBulkAll ds ≤ 1048576)
def OpenSpec.upto (s : _root_.Go.ChangeSpec) : _root_.Go.OpenSpec := { _root_.Go.OpenSpec.ofChange s with cond := some uptoSmall }

/-- 'chroniclelaw08.P256Adds', WHERE WHAT IT READS IS OF BULK AT MOST 1048576: true; the input reads as it did. -/
def p256AddsUptoRow : OpenClaim := { program := "ytekgjjanikicnaadoor", sum := "52e88fe22b586a6d6666f131c0283593e90c42c2a114616e1f0327f773979eef", func := "chronicle/chroniclelaw08.P256Adds", spec := "p256Adds", inPlace := ["math/bits.Sub64", "math/bits.Add64"], unfollowed := true, recurses := true, named := ["chronicle/p256.b", "chronicle/field.moduli", "chronicle/p256.one"], apart := false, laid := [("chronicle/field.moduli", laid_chronicle_field_moduli), ("chronicle/p256.b", laid_chronicle_p256_b), ("chronicle/p256.one", laid_chronicle_p256_one)], narrowed := true }
def P256AddsUptoSaid : Prop := p256AddsUptoRow.holds Tryd.pinned (OpenSpec.upto p256AddsSpec)

/-- 'chroniclelaw08.P256Multiplies', WHERE WHAT IT READS IS OF BULK AT MOST 1048576: true; the input reads as it did. -/
def p256MultipliesUptoRow : OpenClaim := { program := "ytekgjjanikicnaadoor", sum := "52e88fe22b586a6d6666f131c0283593e90c42c2a114616e1f0327f773979eef", func := "chronicle/chroniclelaw08.P256Multiplies", spec := "p256Multiplies", inPlace := ["math/bits.Sub64", "math/bits.Add64"], unfollowed := true, recurses := true, named := ["chronicle/p256.b", "chronicle/field.moduli", "chronicle/p256.one"], apart := false, laid := [("chronicle/field.moduli", laid_chronicle_field_moduli), ("chronicle/p256.b", laid_chronicle_p256_b), ("chronicle/p256.one", laid_chronicle_p256_one)], narrowed := true }
def P256MultipliesUptoSaid : Prop := p256MultipliesUptoRow.holds Tryd.pinned (OpenSpec.upto p256MultipliesSpec)

/-- 'chroniclelaw08.P256Both', WHERE WHAT IT READS IS OF BULK AT MOST 1048576: true; the input reads as it did. -/
def p256BothUptoRow : OpenClaim := { program := "ytekgjjanikicnaadoor", sum := "52e88fe22b586a6d6666f131c0283593e90c42c2a114616e1f0327f773979eef", func := "chronicle/chroniclelaw08.P256Both", spec := "p256Both", inPlace := ["math/bits.Sub64", "math/bits.Add64"], unfollowed := true, recurses := true, named := ["chronicle/p256.one", "chronicle/p256.b", "chronicle/field.moduli"], apart := false, laid := [("chronicle/field.moduli", laid_chronicle_field_moduli), ("chronicle/p256.b", laid_chronicle_p256_b), ("chronicle/p256.one", laid_chronicle_p256_one)], narrowed := true }
def P256BothUptoSaid : Prop := p256BothUptoRow.holds Tryd.pinned (OpenSpec.upto p256BothSpec)

/-- 'chroniclelaw08.P256Group', WHERE WHAT IT READS IS OF BULK AT MOST 1048576: true; the input reads as it did. -/
def p256GroupUptoRow : OpenClaim := { program := "ytekgjjanikicnaadoor", sum := "52e88fe22b586a6d6666f131c0283593e90c42c2a114616e1f0327f773979eef", func := "chronicle/chroniclelaw08.P256Group", spec := "p256Group", inPlace := ["math/bits.Sub64", "math/bits.Add64"], unfollowed := true, recurses := true, named := ["chronicle/p256.one", "chronicle/p256.b", "chronicle/field.moduli"], apart := false, laid := [("chronicle/field.moduli", laid_chronicle_field_moduli), ("chronicle/p256.b", laid_chronicle_p256_b), ("chronicle/p256.one", laid_chronicle_p256_one)], narrowed := true }
def P256GroupUptoSaid : Prop := p256GroupUptoRow.holds Tryd.pinned (OpenSpec.upto p256GroupSpec)

/-- 'chroniclelaw08.P256Order', WHERE WHAT IT READS IS OF BULK AT MOST 1048576: true; the input reads as it did. -/
def p256OrderUptoRow : OpenClaim := { program := "ytekgjjanikicnaadoor", sum := "52e88fe22b586a6d6666f131c0283593e90c42c2a114616e1f0327f773979eef", func := "chronicle/chroniclelaw08.P256Order", spec := "p256Order", inPlace := ["math/bits.Sub64", "math/bits.Add64"], unfollowed := true, recurses := true, named := ["chronicle/p256.one", "chronicle/p256.b", "chronicle/field.moduli"], apart := false, laid := [("chronicle/field.moduli", laid_chronicle_field_moduli), ("chronicle/p256.b", laid_chronicle_p256_b), ("chronicle/p256.one", laid_chronicle_p256_one)], narrowed := true }
def P256OrderUptoSaid : Prop := p256OrderUptoRow.holds Tryd.pinned (OpenSpec.upto p256OrderSpec)

/-- 'chroniclelaw08.P256Twice', WHERE WHAT IT READS IS OF BULK AT MOST 1048576: true; the input reads as it did. -/
def p256TwiceUptoRow : OpenClaim := { program := "ytekgjjanikicnaadoor", sum := "52e88fe22b586a6d6666f131c0283593e90c42c2a114616e1f0327f773979eef", func := "chronicle/chroniclelaw08.P256Twice", spec := "p256Twice", inPlace := ["math/bits.Sub64", "math/bits.Add64"], unfollowed := true, recurses := true, named := ["chronicle/p256.one", "chronicle/p256.b", "chronicle/field.moduli"], apart := false, laid := [("chronicle/field.moduli", laid_chronicle_field_moduli), ("chronicle/p256.b", laid_chronicle_p256_b), ("chronicle/p256.one", laid_chronicle_p256_one)], narrowed := true }
def P256TwiceUptoSaid : Prop := p256TwiceUptoRow.holds Tryd.pinned (OpenSpec.upto p256TwiceSpec)

/-- 'chroniclelaw21.NoteWrites', WHERE WHAT IT READS IS OF BULK AT MOST 1048576: true; the input reads as it did. -/
def noteWritesUptoRow : OpenClaim := { program := "ytekgjjanikicnaadoor", sum := "52e88fe22b586a6d6666f131c0283593e90c42c2a114616e1f0327f773979eef", func := "chronicle/chroniclelaw21.NoteWrites", spec := "noteWrites", inPlace := ["internal/abi.NoEscape"], recurses := true, named := ["internal/strconv.uint64pow10", "math/bits.deBruijn32tab", "math/bits.deBruijn64tab"], apart := false, laid := [("math/bits.deBruijn32tab", laid_math_bits_deBruijn32tab), ("math/bits.deBruijn64tab", laid_math_bits_deBruijn64tab), ("internal/strconv.uint64pow10", laid_internal_strconv_uint64pow10)], narrowed := true }
def NoteWritesUptoSaid : Prop := noteWritesUptoRow.holds Tryd.pinned (OpenSpec.upto noteWritesSpec)

/-- 'chroniclelaw21.NoteLines', WHERE WHAT IT READS IS OF BULK AT MOST 1048576: true; the input reads as it did. -/
def noteLinesUptoRow : OpenClaim := { program := "ytekgjjanikicnaadoor", sum := "52e88fe22b586a6d6666f131c0283593e90c42c2a114616e1f0327f773979eef", func := "chronicle/chroniclelaw21.NoteLines", spec := "noteLines", inPlace := ["internal/abi.NoEscape"], named := ["internal/strconv.uint64pow10", "math/bits.deBruijn32tab", "math/bits.deBruijn64tab"], apart := false, laid := [("math/bits.deBruijn32tab", laid_math_bits_deBruijn32tab), ("math/bits.deBruijn64tab", laid_math_bits_deBruijn64tab), ("internal/strconv.uint64pow10", laid_internal_strconv_uint64pow10)], narrowed := true }
def NoteLinesUptoSaid : Prop := noteLinesUptoRow.holds Tryd.pinned (OpenSpec.upto noteLinesSpec)

/-- 'chroniclelaw08.P256Bytes', WHERE WHAT IT READS IS OF BULK AT MOST 1048576: true; the input reads as it did. -/
def p256BytesUptoRow : OpenClaim := { program := "ytekgjjanikicnaadoor", sum := "52e88fe22b586a6d6666f131c0283593e90c42c2a114616e1f0327f773979eef", func := "chronicle/chroniclelaw08.P256Bytes", spec := "p256Bytes", inPlace := ["math/bits.Sub64", "math/bits.Add64"], named := ["chronicle/p256.b", "chronicle/field.moduli"], apart := false, laid := [("chronicle/field.moduli", laid_chronicle_field_moduli), ("chronicle/p256.b", laid_chronicle_p256_b)], narrowed := true }
def P256BytesUptoSaid : Prop := p256BytesUptoRow.holds Tryd.pinned (OpenSpec.upto p256BytesSpec)

/-- 'chroniclelaw08.P256Stray', WHERE WHAT IT READS IS OF BULK AT MOST 1048576: true; the input reads as it did. -/
def p256StrayUptoRow : OpenClaim := { program := "ytekgjjanikicnaadoor", sum := "52e88fe22b586a6d6666f131c0283593e90c42c2a114616e1f0327f773979eef", func := "chronicle/chroniclelaw08.P256Stray", spec := "p256Stray", inPlace := ["math/bits.Sub64", "math/bits.Add64"], unfollowed := true, recurses := true, named := ["chronicle/p256.b", "chronicle/field.moduli", "chronicle/p256.one"], apart := false, laid := [("chronicle/field.moduli", laid_chronicle_field_moduli), ("chronicle/p256.b", laid_chronicle_p256_b), ("chronicle/p256.one", laid_chronicle_p256_one)], narrowed := true }
def P256StrayUptoSaid : Prop := p256StrayUptoRow.holds Tryd.pinned (OpenSpec.upto p256StraySpec)

/-- 'chroniclelaw21.NoteNumbers', WHERE WHAT IT READS IS OF BULK AT MOST 1048576: true; the input reads as it did. -/
def noteNumbersUptoRow : OpenClaim := { program := "ytekgjjanikicnaadoor", sum := "52e88fe22b586a6d6666f131c0283593e90c42c2a114616e1f0327f773979eef", func := "chronicle/chroniclelaw21.NoteNumbers", spec := "noteNumbers", inPlace := ["internal/abi.NoEscape"], named := ["internal/strconv.uint64pow10", "math/bits.deBruijn32tab", "math/bits.deBruijn64tab", "chronicle/sha256.first", "chronicle/sha256.constants"], apart := false, laid := [("math/bits.deBruijn32tab", laid_math_bits_deBruijn32tab), ("math/bits.deBruijn64tab", laid_math_bits_deBruijn64tab), ("chronicle/sha256.first", laid_chronicle_sha256_first), ("chronicle/sha256.constants", laid_chronicle_sha256_constants), ("internal/strconv.uint64pow10", laid_internal_strconv_uint64pow10)], narrowed := true }
def NoteNumbersUptoSaid : Prop := noteNumbersUptoRow.holds Tryd.pinned (OpenSpec.upto noteNumbersSpec)

/-- 'chroniclelaw04.TextDigits', WHERE WHAT IT READS IS OF BULK AT MOST 1048576: true; the input reads as it did. -/
def textDigitsUptoRow : OpenClaim := { program := "ytekgjjanikicnaadoor", sum := "52e88fe22b586a6d6666f131c0283593e90c42c2a114616e1f0327f773979eef", func := "chronicle/chroniclelaw04.TextDigits", spec := "textDigits", inPlace := ["internal/abi.NoEscape"], named := ["internal/strconv.uint64pow10", "math/bits.deBruijn32tab", "math/bits.deBruijn64tab", "strconv.ErrSyntax", "strconv.ErrRange"], apart := false, laid := [("math/bits.deBruijn32tab", laid_math_bits_deBruijn32tab), ("math/bits.deBruijn64tab", laid_math_bits_deBruijn64tab), ("internal/strconv.uint64pow10", laid_internal_strconv_uint64pow10), ("strconv.ErrRange", laid_strconv_ErrRange), ("strconv.ErrSyntax", laid_strconv_ErrSyntax)], narrowed := true }
def TextDigitsUptoSaid : Prop := textDigitsUptoRow.holds Tryd.pinned (OpenSpec.upto textDigitsSpec)

/-- 'chroniclelaw04.TextNumbers', WHERE WHAT IT READS IS OF BULK AT MOST 1048576: true; the input reads as it did. -/
def textNumbersUptoRow : OpenClaim := { program := "ytekgjjanikicnaadoor", sum := "52e88fe22b586a6d6666f131c0283593e90c42c2a114616e1f0327f773979eef", func := "chronicle/chroniclelaw04.TextNumbers", spec := "textNumbers", inPlace := ["internal/abi.NoEscape"], recurses := true, named := ["strconv.ErrSyntax", "strconv.ErrRange", "internal/strconv.uint64pow10", "math/bits.deBruijn32tab", "math/bits.deBruijn64tab"], apart := false, laid := [("math/bits.deBruijn32tab", laid_math_bits_deBruijn32tab), ("math/bits.deBruijn64tab", laid_math_bits_deBruijn64tab), ("internal/strconv.uint64pow10", laid_internal_strconv_uint64pow10), ("strconv.ErrRange", laid_strconv_ErrRange), ("strconv.ErrSyntax", laid_strconv_ErrSyntax)], narrowed := true }
def TextNumbersUptoSaid : Prop := textNumbersUptoRow.holds Tryd.pinned (OpenSpec.upto textNumbersSpec)

/-- 'chroniclelaw21.NoteReads', WHERE WHAT IT READS IS OF BULK AT MOST 1048576: true; the input reads as it did. -/
def noteReadsUptoRow : OpenClaim := { program := "ytekgjjanikicnaadoor", sum := "52e88fe22b586a6d6666f131c0283593e90c42c2a114616e1f0327f773979eef", func := "chronicle/chroniclelaw21.NoteReads", spec := "noteReads", inPlace := ["internal/abi.NoEscape", "internal/bytealg.CountString", "internal/bytealg.IndexByteString", "internal/bytealg.IndexString"], recurses := true, named := ["internal/strconv.uint64pow10", "math/bits.deBruijn32tab", "math/bits.deBruijn64tab", "unicode/utf8.first", "unicode/utf8.acceptRanges", "internal/bytealg.MaxLen", "strconv.ErrSyntax", "strconv.ErrRange"], apart := false, laid := [("math/bits.deBruijn32tab", laid_math_bits_deBruijn32tab), ("math/bits.deBruijn64tab", laid_math_bits_deBruijn64tab), ("internal/strconv.uint64pow10", laid_internal_strconv_uint64pow10), ("unicode/utf8.acceptRanges", laid_unicode_utf8_acceptRanges), ("strconv.ErrRange", laid_strconv_ErrRange), ("strconv.ErrSyntax", laid_strconv_ErrSyntax), ("unicode/utf8.first", laid_unicode_utf8_first)], narrowed := true }
def NoteReadsUptoSaid : Prop := noteReadsUptoRow.holds Tryd.pinned (OpenSpec.upto noteReadsSpec)

/-- 'chroniclelaw21.NoteBack', WHERE WHAT IT READS IS OF BULK AT MOST 1048576: true; the input reads as it did. -/
def noteBackUptoRow : OpenClaim := { program := "ytekgjjanikicnaadoor", sum := "52e88fe22b586a6d6666f131c0283593e90c42c2a114616e1f0327f773979eef", func := "chronicle/chroniclelaw21.NoteBack", spec := "noteBack", inPlace := ["internal/abi.NoEscape", "internal/bytealg.CountString", "internal/bytealg.IndexByteString", "internal/bytealg.IndexString"], named := ["internal/strconv.uint64pow10", "math/bits.deBruijn32tab", "math/bits.deBruijn64tab", "unicode/utf8.first", "unicode/utf8.acceptRanges", "internal/bytealg.MaxLen", "strconv.ErrSyntax", "strconv.ErrRange"], apart := false, laid := [("math/bits.deBruijn32tab", laid_math_bits_deBruijn32tab), ("math/bits.deBruijn64tab", laid_math_bits_deBruijn64tab), ("internal/strconv.uint64pow10", laid_internal_strconv_uint64pow10), ("unicode/utf8.acceptRanges", laid_unicode_utf8_acceptRanges), ("strconv.ErrRange", laid_strconv_ErrRange), ("strconv.ErrSyntax", laid_strconv_ErrSyntax), ("unicode/utf8.first", laid_unicode_utf8_first)], narrowed := true }
def NoteBackUptoSaid : Prop := noteBackUptoRow.holds Tryd.pinned (OpenSpec.upto noteBackSpec)

end Rows
end Go.Proofs.YtekgjjanikicnaaDoor
