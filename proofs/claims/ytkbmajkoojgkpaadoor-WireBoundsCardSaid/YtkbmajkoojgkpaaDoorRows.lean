/-
  NARROWER THAN 'FOR EVERY INPUT', by the rows' own cells (each row's printed sentence says how): ChunkWrites: laid · ChunkBack: laid · ChunkBounds: laid · FieldLines: laid · FieldWords: laid · FieldBlanks: laid · FieldJoins: laid · FieldLists: laid · WirePieces: laid · WireBounds: laid · WireNone: laid.
  DERIVED. THE GIVEN ROWS OF THIS SEAT. 11 by the template 'for every input the law returns true; each argument reads behind the call as it read before'; 0 by the template 'total and deterministic' (their statements: YtkbmajkoojgkpaaDoorTotals.lean).
  GIVEN WITH THE SEED: the statements are not yours to turn. If you find one false, say at which input.
  Laid BY PROGRAM, IN A SANDBOX (cutbox-rows.mjs): the forced cells as the released guide's own fill.sh prints them over the translation fed87cf3ab38ad90… (all of the seat's roots in one cut). By AI agents, Wed Nov 11 2026. No macro, syntax, notation, axiom, sorry.
-/
import Derived.Test.YtkbmajkoojgkpaaDoorChecked
import GoSem.PinnedTables
import GoSem.Claim
import GoSem.ClaimJoined
import GoSem.ClaimMapViews
import Derived.JoinedTies
import Derived.KernelRfl
namespace Go.Proofs.YtkbmajkoojgkpaaDoor
/- THE CELL 'sum', in the pinned program and in every row, IS THE sha256 OF THE DUMP (.gsa) THAT YtkbmajkoojgkpaaDoorProg.lean LOADS. Nothing in Lean hashes anything: it is a label: what it is worth is what the hold of that sum in a sandbox is worth. -/
noncomputable def Tryd.pinned : Pinned := { name := "ytkbmajkoojgkpaadoor", sum := "fed87cf3ab38ad90933dd8c95f4ee81ff2310ff1199c93ad404c594d4556f4e0", checked := Tryd.checked }
namespace Rows
def none {H : Type} : Left H := { results := [], args := [] }

/- WHAT THE LISTED PACKAGE-LEVEL VARIABLES READ AS WHEN THE CALL BEGINS. Each datum BY PROGRAM (the guide's laid-datum.mjs) off the statement by which the dump's own 'gosem.cut.vars' lays the variable. In a bare row this is a premise. The card (YtkbmajkoojgkpaaDoorCards.lean) ties it to the program's text. -/
def laid_math_bits_deBruijn32tab {H : Type} : DataW H := .agg [.lit (.int .u8 0), .lit (.int .u8 1), .lit (.int .u8 28), .lit (.int .u8 2), .lit (.int .u8 29), .lit (.int .u8 14), .lit (.int .u8 24), .lit (.int .u8 3), .lit (.int .u8 30), .lit (.int .u8 22), .lit (.int .u8 20), .lit (.int .u8 15), .lit (.int .u8 25), .lit (.int .u8 17), .lit (.int .u8 4), .lit (.int .u8 8), .lit (.int .u8 31), .lit (.int .u8 27), .lit (.int .u8 13), .lit (.int .u8 23), .lit (.int .u8 21), .lit (.int .u8 19), .lit (.int .u8 16), .lit (.int .u8 7), .lit (.int .u8 26), .lit (.int .u8 12), .lit (.int .u8 18), .lit (.int .u8 6), .lit (.int .u8 11), .lit (.int .u8 5), .lit (.int .u8 10), .lit (.int .u8 9)]
def laid_math_bits_deBruijn64tab {H : Type} : DataW H := .agg [.lit (.int .u8 0), .lit (.int .u8 1), .lit (.int .u8 56), .lit (.int .u8 2), .lit (.int .u8 57), .lit (.int .u8 49), .lit (.int .u8 28), .lit (.int .u8 3), .lit (.int .u8 61), .lit (.int .u8 58), .lit (.int .u8 42), .lit (.int .u8 50), .lit (.int .u8 38), .lit (.int .u8 29), .lit (.int .u8 17), .lit (.int .u8 4), .lit (.int .u8 62), .lit (.int .u8 47), .lit (.int .u8 59), .lit (.int .u8 36), .lit (.int .u8 45), .lit (.int .u8 43), .lit (.int .u8 51), .lit (.int .u8 22), .lit (.int .u8 53), .lit (.int .u8 39), .lit (.int .u8 33), .lit (.int .u8 30), .lit (.int .u8 24), .lit (.int .u8 18), .lit (.int .u8 12), .lit (.int .u8 5), .lit (.int .u8 63), .lit (.int .u8 55), .lit (.int .u8 48), .lit (.int .u8 27), .lit (.int .u8 60), .lit (.int .u8 41), .lit (.int .u8 37), .lit (.int .u8 16), .lit (.int .u8 46), .lit (.int .u8 35), .lit (.int .u8 44), .lit (.int .u8 21), .lit (.int .u8 52), .lit (.int .u8 32), .lit (.int .u8 23), .lit (.int .u8 11), .lit (.int .u8 54), .lit (.int .u8 26), .lit (.int .u8 40), .lit (.int .u8 15), .lit (.int .u8 34), .lit (.int .u8 20), .lit (.int .u8 31), .lit (.int .u8 10), .lit (.int .u8 25), .lit (.int .u8 14), .lit (.int .u8 19), .lit (.int .u8 9), .lit (.int .u8 13), .lit (.int .u8 8), .lit (.int .u8 7), .lit (.int .u8 6)]
def laid_internal_strconv_uint64pow10 {H : Type} : DataW H := .agg [.lit (.int .u64 1), .lit (.int .u64 10), .lit (.int .u64 100), .lit (.int .u64 1000), .lit (.int .u64 10000), .lit (.int .u64 100000), .lit (.int .u64 1000000), .lit (.int .u64 10000000), .lit (.int .u64 100000000), .lit (.int .u64 1000000000), .lit (.int .u64 10000000000), .lit (.int .u64 100000000000), .lit (.int .u64 1000000000000), .lit (.int .u64 10000000000000), .lit (.int .u64 100000000000000), .lit (.int .u64 1000000000000000), .lit (.int .u64 10000000000000000), .lit (.int .u64 100000000000000000), .lit (.int .u64 1000000000000000000), .lit (.int .u64 10000000000000000000)]
def laid_unicode_utf8_acceptRanges {H : Type} : DataW H := .agg [.agg [.lit (.int .u8 128), .lit (.int .u8 191)], .agg [.lit (.int .u8 160), .lit (.int .u8 191)], .agg [.lit (.int .u8 128), .lit (.int .u8 159)], .agg [.lit (.int .u8 144), .lit (.int .u8 191)], .agg [.lit (.int .u8 128), .lit (.int .u8 143)], .agg [.lit (.int .u8 0), .lit (.int .u8 0)], .agg [.lit (.int .u8 0), .lit (.int .u8 0)], .agg [.lit (.int .u8 0), .lit (.int .u8 0)], .agg [.lit (.int .u8 0), .lit (.int .u8 0)], .agg [.lit (.int .u8 0), .lit (.int .u8 0)], .agg [.lit (.int .u8 0), .lit (.int .u8 0)], .agg [.lit (.int .u8 0), .lit (.int .u8 0)], .agg [.lit (.int .u8 0), .lit (.int .u8 0)], .agg [.lit (.int .u8 0), .lit (.int .u8 0)], .agg [.lit (.int .u8 0), .lit (.int .u8 0)], .agg [.lit (.int .u8 0), .lit (.int .u8 0)]]
/-- One of Go's own tables, pinned by name: the form's constant. -/
def laid_unicode_utf8_first : DataW Unit := Go.Pinned.utf8First
/-- One of Go's own tables, pinned by name: the form's constant. -/
def laid_unicode_CaseRanges : DataW Unit := Go.Pinned.caseRanges

/-- 'cofferlaw23.ChunkWrites': WHATEVER THE INPUT: true; the input reads as it did. -/
def chunkWritesSpec : ChangeSpec := { name := "chunkWrites", fn := fun _ => fun
  | [d1, d2] => { results := [.lit (.bool true)], args := [d1, d2] }
  | _ => none }
def chunkWritesRow : OpenClaim := { program := "ytkbmajkoojgkpaadoor", sum := "fed87cf3ab38ad90933dd8c95f4ee81ff2310ff1199c93ad404c594d4556f4e0", func := "coffer/cofferlaw23.ChunkWrites", spec := "chunkWrites", named := ["internal/strconv.uint64pow10", "math/bits.deBruijn32tab", "math/bits.deBruijn64tab"], apart := false, laid := [("math/bits.deBruijn32tab", laid_math_bits_deBruijn32tab), ("math/bits.deBruijn64tab", laid_math_bits_deBruijn64tab), ("internal/strconv.uint64pow10", laid_internal_strconv_uint64pow10)] }
def ChunkWritesSaid : Prop := chunkWritesRow.holds Tryd.pinned (OpenSpec.ofChange chunkWritesSpec)

/-- ITS FALSE NEIGHBOUR: 'it returns false'. Refute it at one input. -/
def chunkWritesWrong : ChangeSpec := { name := "chunkWrites", fn := fun _ => fun
  | [d1, d2] => { results := [.lit (.bool false)], args := [d1, d2] }
  | _ => none }
def ChunkWritesWrongFalsely : Prop := chunkWritesRow.holds Tryd.pinned (OpenSpec.ofChange chunkWritesWrong)

/-- 'cofferlaw23.ChunkBack': WHATEVER THE INPUT: true; the input reads as it did. -/
def chunkBackSpec : ChangeSpec := { name := "chunkBack", fn := fun _ => fun
  | [d1, d2, d3, d4] => { results := [.lit (.bool true)], args := [d1, d2, d3, d4] }
  | _ => none }
def chunkBackRow : OpenClaim := { program := "ytkbmajkoojgkpaadoor", sum := "fed87cf3ab38ad90933dd8c95f4ee81ff2310ff1199c93ad404c594d4556f4e0", func := "coffer/cofferlaw23.ChunkBack", spec := "chunkBack", named := ["internal/strconv.uint64pow10", "math/bits.deBruijn32tab", "math/bits.deBruijn64tab"], apart := false, laid := [("math/bits.deBruijn32tab", laid_math_bits_deBruijn32tab), ("math/bits.deBruijn64tab", laid_math_bits_deBruijn64tab), ("internal/strconv.uint64pow10", laid_internal_strconv_uint64pow10)] }
def ChunkBackSaid : Prop := chunkBackRow.holds Tryd.pinned (OpenSpec.ofChange chunkBackSpec)

/-- ITS FALSE NEIGHBOUR: 'it returns false'. Refute it at one input. -/
def chunkBackWrong : ChangeSpec := { name := "chunkBack", fn := fun _ => fun
  | [d1, d2, d3, d4] => { results := [.lit (.bool false)], args := [d1, d2, d3, d4] }
  | _ => none }
def ChunkBackWrongFalsely : Prop := chunkBackRow.holds Tryd.pinned (OpenSpec.ofChange chunkBackWrong)

/-- 'cofferlaw23.ChunkBounds': WHATEVER THE INPUT: true; the input reads as it did. -/
def chunkBoundsSpec : ChangeSpec := { name := "chunkBounds", fn := fun _ => fun
  | [d1, d2] => { results := [.lit (.bool true)], args := [d1, d2] }
  | _ => none }
def chunkBoundsRow : OpenClaim := { program := "ytkbmajkoojgkpaadoor", sum := "fed87cf3ab38ad90933dd8c95f4ee81ff2310ff1199c93ad404c594d4556f4e0", func := "coffer/cofferlaw23.ChunkBounds", spec := "chunkBounds", named := ["internal/strconv.uint64pow10", "math/bits.deBruijn32tab", "math/bits.deBruijn64tab"], apart := false, laid := [("math/bits.deBruijn32tab", laid_math_bits_deBruijn32tab), ("math/bits.deBruijn64tab", laid_math_bits_deBruijn64tab), ("internal/strconv.uint64pow10", laid_internal_strconv_uint64pow10)] }
def ChunkBoundsSaid : Prop := chunkBoundsRow.holds Tryd.pinned (OpenSpec.ofChange chunkBoundsSpec)

/-- ITS FALSE NEIGHBOUR: 'it returns false'. Refute it at one input. -/
def chunkBoundsWrong : ChangeSpec := { name := "chunkBounds", fn := fun _ => fun
  | [d1, d2] => { results := [.lit (.bool false)], args := [d1, d2] }
  | _ => none }
def ChunkBoundsWrongFalsely : Prop := chunkBoundsRow.holds Tryd.pinned (OpenSpec.ofChange chunkBoundsWrong)

/-- 'cofferlaw22.FieldLines': WHATEVER THE INPUT: true; the input reads as it did. -/
def fieldLinesSpec : ChangeSpec := { name := "fieldLines", fn := fun _ => fun
  | [d] => { results := [.lit (.bool true)], args := [d] }
  | _ => none }
def fieldLinesRow : OpenClaim := { program := "ytkbmajkoojgkpaadoor", sum := "fed87cf3ab38ad90933dd8c95f4ee81ff2310ff1199c93ad404c594d4556f4e0", func := "coffer/cofferlaw22.FieldLines", spec := "fieldLines", inPlace := ["internal/bytealg.IndexByteString", "internal/bytealg.IndexString", "internal/bytealg.CountString"], named := ["internal/bytealg.MaxLen", "unicode/utf8.first", "unicode/utf8.acceptRanges"], apart := false, laid := [("unicode/utf8.acceptRanges", laid_unicode_utf8_acceptRanges), ("unicode/utf8.first", laid_unicode_utf8_first)] }
def FieldLinesSaid : Prop := fieldLinesRow.holds Tryd.pinned (OpenSpec.ofChange fieldLinesSpec)

/-- ITS FALSE NEIGHBOUR: 'it returns false'. Refute it at one input. -/
def fieldLinesWrong : ChangeSpec := { name := "fieldLines", fn := fun _ => fun
  | [d] => { results := [.lit (.bool false)], args := [d] }
  | _ => none }
def FieldLinesWrongFalsely : Prop := fieldLinesRow.holds Tryd.pinned (OpenSpec.ofChange fieldLinesWrong)

/-- 'cofferlaw22.FieldWords': WHATEVER THE INPUT: true; the input reads as it did. -/
def fieldWordsSpec : ChangeSpec := { name := "fieldWords", fn := fun _ => fun
  | [d] => { results := [.lit (.bool true)], args := [d] }
  | _ => none }
def fieldWordsRow : OpenClaim := { program := "ytkbmajkoojgkpaadoor", sum := "fed87cf3ab38ad90933dd8c95f4ee81ff2310ff1199c93ad404c594d4556f4e0", func := "coffer/cofferlaw22.FieldWords", spec := "fieldWords", inPlace := ["internal/bytealg.IndexByteString", "internal/bytealg.IndexString", "internal/bytealg.CountString"], named := ["internal/bytealg.MaxLen", "unicode/utf8.first", "unicode/utf8.acceptRanges"], apart := false, laid := [("unicode/utf8.acceptRanges", laid_unicode_utf8_acceptRanges), ("unicode/utf8.first", laid_unicode_utf8_first)] }
def FieldWordsSaid : Prop := fieldWordsRow.holds Tryd.pinned (OpenSpec.ofChange fieldWordsSpec)

/-- ITS FALSE NEIGHBOUR: 'it returns false'. Refute it at one input. -/
def fieldWordsWrong : ChangeSpec := { name := "fieldWords", fn := fun _ => fun
  | [d] => { results := [.lit (.bool false)], args := [d] }
  | _ => none }
def FieldWordsWrongFalsely : Prop := fieldWordsRow.holds Tryd.pinned (OpenSpec.ofChange fieldWordsWrong)

/-- 'cofferlaw22.FieldBlanks': WHATEVER THE INPUT: true; the input reads as it did. -/
def fieldBlanksSpec : ChangeSpec := { name := "fieldBlanks", fn := fun _ => fun
  | [d1, d2, d3, d4, d5] => { results := [.lit (.bool true)], args := [d1, d2, d3, d4, d5] }
  | _ => none }
def fieldBlanksRow : OpenClaim := { program := "ytkbmajkoojgkpaadoor", sum := "fed87cf3ab38ad90933dd8c95f4ee81ff2310ff1199c93ad404c594d4556f4e0", func := "coffer/cofferlaw22.FieldBlanks", spec := "fieldBlanks", inPlace := ["internal/bytealg.IndexByteString", "internal/bytealg.IndexString", "internal/bytealg.CountString"], named := ["internal/bytealg.MaxLen", "unicode/utf8.first", "unicode/utf8.acceptRanges"], apart := false, laid := [("unicode/utf8.acceptRanges", laid_unicode_utf8_acceptRanges), ("unicode/utf8.first", laid_unicode_utf8_first)] }
def FieldBlanksSaid : Prop := fieldBlanksRow.holds Tryd.pinned (OpenSpec.ofChange fieldBlanksSpec)

/-- ITS FALSE NEIGHBOUR: 'it returns false'. Refute it at one input. -/
def fieldBlanksWrong : ChangeSpec := { name := "fieldBlanks", fn := fun _ => fun
  | [d1, d2, d3, d4, d5] => { results := [.lit (.bool false)], args := [d1, d2, d3, d4, d5] }
  | _ => none }
def FieldBlanksWrongFalsely : Prop := fieldBlanksRow.holds Tryd.pinned (OpenSpec.ofChange fieldBlanksWrong)

/-- 'cofferlaw22.FieldJoins': WHATEVER THE INPUT: true; the input reads as it did. -/
def fieldJoinsSpec : ChangeSpec := { name := "fieldJoins", fn := fun _ => fun
  | [d1, d2] => { results := [.lit (.bool true)], args := [d1, d2] }
  | _ => none }
def fieldJoinsRow : OpenClaim := { program := "ytkbmajkoojgkpaadoor", sum := "fed87cf3ab38ad90933dd8c95f4ee81ff2310ff1199c93ad404c594d4556f4e0", func := "coffer/cofferlaw22.FieldJoins", spec := "fieldJoins", inPlace := ["internal/bytealg.IndexByteString", "internal/bytealg.IndexString", "internal/bytealg.CountString"], named := ["internal/bytealg.MaxLen", "unicode/utf8.first", "unicode/utf8.acceptRanges"], apart := false, laid := [("unicode/utf8.acceptRanges", laid_unicode_utf8_acceptRanges), ("unicode/utf8.first", laid_unicode_utf8_first)] }
def FieldJoinsSaid : Prop := fieldJoinsRow.holds Tryd.pinned (OpenSpec.ofChange fieldJoinsSpec)

/-- ITS FALSE NEIGHBOUR: 'it returns false'. Refute it at one input. -/
def fieldJoinsWrong : ChangeSpec := { name := "fieldJoins", fn := fun _ => fun
  | [d1, d2] => { results := [.lit (.bool false)], args := [d1, d2] }
  | _ => none }
def FieldJoinsWrongFalsely : Prop := fieldJoinsRow.holds Tryd.pinned (OpenSpec.ofChange fieldJoinsWrong)

/-- 'cofferlaw22.FieldLists': WHATEVER THE INPUT: true; the input reads as it did. -/
def fieldListsSpec : ChangeSpec := { name := "fieldLists", fn := fun _ => fun
  | [d1, d2] => { results := [.lit (.bool true)], args := [d1, d2] }
  | _ => none }
def fieldListsRow : OpenClaim := { program := "ytkbmajkoojgkpaadoor", sum := "fed87cf3ab38ad90933dd8c95f4ee81ff2310ff1199c93ad404c594d4556f4e0", func := "coffer/cofferlaw22.FieldLists", spec := "fieldLists", inPlace := ["internal/bytealg.IndexByteString", "internal/bytealg.IndexString", "internal/bytealg.CountString"], named := ["internal/bytealg.MaxLen", "unicode/utf8.first", "unicode/utf8.acceptRanges"], apart := false, laid := [("unicode/utf8.acceptRanges", laid_unicode_utf8_acceptRanges), ("unicode/utf8.first", laid_unicode_utf8_first)] }
def FieldListsSaid : Prop := fieldListsRow.holds Tryd.pinned (OpenSpec.ofChange fieldListsSpec)

/-- ITS FALSE NEIGHBOUR: 'it returns false'. Refute it at one input. -/
def fieldListsWrong : ChangeSpec := { name := "fieldLists", fn := fun _ => fun
  | [d1, d2] => { results := [.lit (.bool false)], args := [d1, d2] }
  | _ => none }
def FieldListsWrongFalsely : Prop := fieldListsRow.holds Tryd.pinned (OpenSpec.ofChange fieldListsWrong)

/-- 'cofferlaw24.WirePieces': WHATEVER THE INPUT: true; the input reads as it did. -/
def wirePiecesSpec : ChangeSpec := { name := "wirePieces", fn := fun _ => fun
  | [d1, d2, d3] => { results := [.lit (.bool true)], args := [d1, d2, d3] }
  | _ => none }
def wirePiecesRow : OpenClaim := { program := "ytkbmajkoojgkpaadoor", sum := "fed87cf3ab38ad90933dd8c95f4ee81ff2310ff1199c93ad404c594d4556f4e0", func := "coffer/cofferlaw24.WirePieces", spec := "wirePieces", inPlace := ["internal/bytealg.IndexByteString", "internal/bytealg.IndexString", "internal/abi.NoEscape", "internal/bytealg.MakeNoZero", "internal/bytealg.CountString"], unfollowed := true, recurses := true, named := ["internal/bytealg.MaxLen", "unicode/utf8.first", "unicode/utf8.acceptRanges", "unicode.CaseRanges"], apart := false, laid := [("unicode/utf8.acceptRanges", laid_unicode_utf8_acceptRanges), ("unicode.CaseRanges", laid_unicode_CaseRanges), ("unicode/utf8.first", laid_unicode_utf8_first)] }
def WirePiecesSaid : Prop := wirePiecesRow.holds Tryd.pinned (OpenSpec.ofChange wirePiecesSpec)

/-- ITS FALSE NEIGHBOUR: 'it returns false'. Refute it at one input. -/
def wirePiecesWrong : ChangeSpec := { name := "wirePieces", fn := fun _ => fun
  | [d1, d2, d3] => { results := [.lit (.bool false)], args := [d1, d2, d3] }
  | _ => none }
def WirePiecesWrongFalsely : Prop := wirePiecesRow.holds Tryd.pinned (OpenSpec.ofChange wirePiecesWrong)

/-- 'cofferlaw24.WireBounds': WHATEVER THE INPUT: true; the input reads as it did. -/
def wireBoundsSpec : ChangeSpec := { name := "wireBounds", fn := fun _ => fun
  | [d1, d2] => { results := [.lit (.bool true)], args := [d1, d2] }
  | _ => none }
def wireBoundsRow : OpenClaim := { program := "ytkbmajkoojgkpaadoor", sum := "fed87cf3ab38ad90933dd8c95f4ee81ff2310ff1199c93ad404c594d4556f4e0", func := "coffer/cofferlaw24.WireBounds", spec := "wireBounds", inPlace := ["internal/bytealg.IndexByteString", "internal/bytealg.IndexString", "internal/abi.NoEscape", "internal/bytealg.MakeNoZero", "internal/bytealg.CountString"], unfollowed := true, recurses := true, named := ["internal/bytealg.MaxLen", "unicode/utf8.first", "unicode/utf8.acceptRanges", "unicode.CaseRanges"], apart := false, laid := [("unicode/utf8.acceptRanges", laid_unicode_utf8_acceptRanges), ("unicode.CaseRanges", laid_unicode_CaseRanges), ("unicode/utf8.first", laid_unicode_utf8_first)] }
def WireBoundsSaid : Prop := wireBoundsRow.holds Tryd.pinned (OpenSpec.ofChange wireBoundsSpec)

/-- ITS FALSE NEIGHBOUR: 'it returns false'. Refute it at one input. -/
def wireBoundsWrong : ChangeSpec := { name := "wireBounds", fn := fun _ => fun
  | [d1, d2] => { results := [.lit (.bool false)], args := [d1, d2] }
  | _ => none }
def WireBoundsWrongFalsely : Prop := wireBoundsRow.holds Tryd.pinned (OpenSpec.ofChange wireBoundsWrong)

/-- 'cofferlaw24.WireNone': WHATEVER THE INPUT: true; the input reads as it did. -/
def wireNoneSpec : ChangeSpec := { name := "wireNone", fn := fun _ => fun
  | [] => { results := [.lit (.bool true)], args := [] }
  | _ => none }
def wireNoneRow : OpenClaim := { program := "ytkbmajkoojgkpaadoor", sum := "fed87cf3ab38ad90933dd8c95f4ee81ff2310ff1199c93ad404c594d4556f4e0", func := "coffer/cofferlaw24.WireNone", spec := "wireNone", inPlace := ["internal/bytealg.IndexByteString", "internal/bytealg.IndexString", "internal/abi.NoEscape", "internal/bytealg.MakeNoZero", "internal/bytealg.CountString"], unfollowed := true, recurses := true, named := ["internal/bytealg.MaxLen", "unicode/utf8.first", "unicode/utf8.acceptRanges", "unicode.CaseRanges"], apart := false, laid := [("unicode/utf8.acceptRanges", laid_unicode_utf8_acceptRanges), ("unicode.CaseRanges", laid_unicode_CaseRanges), ("unicode/utf8.first", laid_unicode_utf8_first)] }
def WireNoneSaid : Prop := wireNoneRow.holds Tryd.pinned (OpenSpec.ofChange wireNoneSpec)

/-- ITS FALSE NEIGHBOUR: 'it returns false'. Refute it at one input. -/
def wireNoneWrong : ChangeSpec := { name := "wireNone", fn := fun _ => fun
  | [] => { results := [.lit (.bool false)], args := [] }
  | _ => none }
def WireNoneWrongFalsely : Prop := wireNoneRow.holds Tryd.pinned (OpenSpec.ofChange wireNoneWrong)

/- THE SECOND FORM. 'bulk': how many values and letters a reading holds, each counted each time it is reached (what is shared counts as often as it is met; a slice's spare places count too). A statement '..UptoSaid' is the law's where the arguments, and the package variables that the reading takes, are together of bulk at most 1048576: NARROWER than '..Said'. Prove '..Said' where nothing that the law and all that it calls make is longer than what came in: it says more and counts as full. Else prove '..UptoSaid'. A law counts once. -/
mutual
def uptoBulk {H : Type} : DataW H → Nat
  | .lit (.string bytes) => bytes.length + 1
  | .lit _ => 1
  | .nil => 1
  | .ptr d => uptoBulk d + 1
  | .slice elems spare => uptoBulkAll elems + uptoBulkAll spare + 1
  | .agg parts => uptoBulkAll parts + 1
  | .iface _ d => uptoBulk d + 1
  | .map entries => uptoBulkEntries entries + 1
  | .held _ => 1
def uptoBulkAll {H : Type} : List (DataW H) → Nat
  | [] => 0
  | d :: r => uptoBulk d + uptoBulkAll r
def uptoBulkEntries {H : Type} : List (Lit × DataW H) → Nat
  | [] => 0
  | x :: r => uptoBulkEntry x + uptoBulkEntries r
def uptoBulkEntry {H : Type} : Lit × DataW H → Nat
  | (.string bytes, d) => bytes.length + uptoBulk d + 1
  | (_, d) => uptoBulk d + 1
 end
def uptoSmall : (H : Type) → List (DataW H) → Bool := fun _ ds => decide (uptoBulkAll ds ≤ 1048576)
def OpenSpec.upto (s : _root_.Go.ChangeSpec) : _root_.Go.OpenSpec := { _root_.Go.OpenSpec.ofChange s with cond := some uptoSmall }

/-- 'cofferlaw23.ChunkWrites', WHERE WHAT IT READS IS OF BULK AT MOST 1048576: true; the input reads as it did. -/
def chunkWritesUptoRow : OpenClaim := { program := "ytkbmajkoojgkpaadoor", sum := "fed87cf3ab38ad90933dd8c95f4ee81ff2310ff1199c93ad404c594d4556f4e0", func := "coffer/cofferlaw23.ChunkWrites", spec := "chunkWrites", named := ["internal/strconv.uint64pow10", "math/bits.deBruijn32tab", "math/bits.deBruijn64tab"], apart := false, laid := [("math/bits.deBruijn32tab", laid_math_bits_deBruijn32tab), ("math/bits.deBruijn64tab", laid_math_bits_deBruijn64tab), ("internal/strconv.uint64pow10", laid_internal_strconv_uint64pow10)], narrowed := true }
def ChunkWritesUptoSaid : Prop := chunkWritesUptoRow.holds Tryd.pinned (OpenSpec.upto chunkWritesSpec)

/-- 'cofferlaw23.ChunkBack', WHERE WHAT IT READS IS OF BULK AT MOST 1048576: true; the input reads as it did. -/
def chunkBackUptoRow : OpenClaim := { program := "ytkbmajkoojgkpaadoor", sum := "fed87cf3ab38ad90933dd8c95f4ee81ff2310ff1199c93ad404c594d4556f4e0", func := "coffer/cofferlaw23.ChunkBack", spec := "chunkBack", named := ["internal/strconv.uint64pow10", "math/bits.deBruijn32tab", "math/bits.deBruijn64tab"], apart := false, laid := [("math/bits.deBruijn32tab", laid_math_bits_deBruijn32tab), ("math/bits.deBruijn64tab", laid_math_bits_deBruijn64tab), ("internal/strconv.uint64pow10", laid_internal_strconv_uint64pow10)], narrowed := true }
def ChunkBackUptoSaid : Prop := chunkBackUptoRow.holds Tryd.pinned (OpenSpec.upto chunkBackSpec)

/-- 'cofferlaw23.ChunkBounds', WHERE WHAT IT READS IS OF BULK AT MOST 1048576: true; the input reads as it did. -/
def chunkBoundsUptoRow : OpenClaim := { program := "ytkbmajkoojgkpaadoor", sum := "fed87cf3ab38ad90933dd8c95f4ee81ff2310ff1199c93ad404c594d4556f4e0", func := "coffer/cofferlaw23.ChunkBounds", spec := "chunkBounds", named := ["internal/strconv.uint64pow10", "math/bits.deBruijn32tab", "math/bits.deBruijn64tab"], apart := false, laid := [("math/bits.deBruijn32tab", laid_math_bits_deBruijn32tab), ("math/bits.deBruijn64tab", laid_math_bits_deBruijn64tab), ("internal/strconv.uint64pow10", laid_internal_strconv_uint64pow10)], narrowed := true }
def ChunkBoundsUptoSaid : Prop := chunkBoundsUptoRow.holds Tryd.pinned (OpenSpec.upto chunkBoundsSpec)

/-- 'cofferlaw22.FieldLines', WHERE WHAT IT READS IS OF BULK AT MOST 1048576: true; the input reads as it did. -/
def fieldLinesUptoRow : OpenClaim := { program := "ytkbmajkoojgkpaadoor", sum := "fed87cf3ab38ad90933dd8c95f4ee81ff2310ff1199c93ad404c594d4556f4e0", func := "coffer/cofferlaw22.FieldLines", spec := "fieldLines", inPlace := ["internal/bytealg.IndexByteString", "internal/bytealg.IndexString", "internal/bytealg.CountString"], named := ["internal/bytealg.MaxLen", "unicode/utf8.first", "unicode/utf8.acceptRanges"], apart := false, laid := [("unicode/utf8.acceptRanges", laid_unicode_utf8_acceptRanges), ("unicode/utf8.first", laid_unicode_utf8_first)], narrowed := true }
def FieldLinesUptoSaid : Prop := fieldLinesUptoRow.holds Tryd.pinned (OpenSpec.upto fieldLinesSpec)

/-- 'cofferlaw22.FieldWords', WHERE WHAT IT READS IS OF BULK AT MOST 1048576: true; the input reads as it did. -/
def fieldWordsUptoRow : OpenClaim := { program := "ytkbmajkoojgkpaadoor", sum := "fed87cf3ab38ad90933dd8c95f4ee81ff2310ff1199c93ad404c594d4556f4e0", func := "coffer/cofferlaw22.FieldWords", spec := "fieldWords", inPlace := ["internal/bytealg.IndexByteString", "internal/bytealg.IndexString", "internal/bytealg.CountString"], named := ["internal/bytealg.MaxLen", "unicode/utf8.first", "unicode/utf8.acceptRanges"], apart := false, laid := [("unicode/utf8.acceptRanges", laid_unicode_utf8_acceptRanges), ("unicode/utf8.first", laid_unicode_utf8_first)], narrowed := true }
def FieldWordsUptoSaid : Prop := fieldWordsUptoRow.holds Tryd.pinned (OpenSpec.upto fieldWordsSpec)

/-- 'cofferlaw22.FieldBlanks', WHERE WHAT IT READS IS OF BULK AT MOST 1048576: true; the input reads as it did. -/
def fieldBlanksUptoRow : OpenClaim := { program := "ytkbmajkoojgkpaadoor", sum := "fed87cf3ab38ad90933dd8c95f4ee81ff2310ff1199c93ad404c594d4556f4e0", func := "coffer/cofferlaw22.FieldBlanks", spec := "fieldBlanks", inPlace := ["internal/bytealg.IndexByteString", "internal/bytealg.IndexString", "internal/bytealg.CountString"], named := ["internal/bytealg.MaxLen", "unicode/utf8.first", "unicode/utf8.acceptRanges"], apart := false, laid := [("unicode/utf8.acceptRanges", laid_unicode_utf8_acceptRanges), ("unicode/utf8.first", laid_unicode_utf8_first)], narrowed := true }
def FieldBlanksUptoSaid : Prop := fieldBlanksUptoRow.holds Tryd.pinned (OpenSpec.upto fieldBlanksSpec)

/-- 'cofferlaw22.FieldJoins', WHERE WHAT IT READS IS OF BULK AT MOST 1048576: true; the input reads as it did. -/
def fieldJoinsUptoRow : OpenClaim := { program := "ytkbmajkoojgkpaadoor", sum := "fed87cf3ab38ad90933dd8c95f4ee81ff2310ff1199c93ad404c594d4556f4e0", func := "coffer/cofferlaw22.FieldJoins", spec := "fieldJoins", inPlace := ["internal/bytealg.IndexByteString", "internal/bytealg.IndexString", "internal/bytealg.CountString"], named := ["internal/bytealg.MaxLen", "unicode/utf8.first", "unicode/utf8.acceptRanges"], apart := false, laid := [("unicode/utf8.acceptRanges", laid_unicode_utf8_acceptRanges), ("unicode/utf8.first", laid_unicode_utf8_first)], narrowed := true }
def FieldJoinsUptoSaid : Prop := fieldJoinsUptoRow.holds Tryd.pinned (OpenSpec.upto fieldJoinsSpec)

/-- 'cofferlaw22.FieldLists', WHERE WHAT IT READS IS OF BULK AT MOST 1048576: true; the input reads as it did. -/
def fieldListsUptoRow : OpenClaim := { program := "ytkbmajkoojgkpaadoor", sum := "fed87cf3ab38ad90933dd8c95f4ee81ff2310ff1199c93ad404c594d4556f4e0", func := "coffer/cofferlaw22.FieldLists", spec := "fieldLists", inPlace := ["internal/bytealg.IndexByteString", "internal/bytealg.IndexString", "internal/bytealg.CountString"], named := ["internal/bytealg.MaxLen", "unicode/utf8.first", "unicode/utf8.acceptRanges"], apart := false, laid := [("unicode/utf8.acceptRanges", laid_unicode_utf8_acceptRanges), ("unicode/utf8.first", laid_unicode_utf8_first)], narrowed := true }
def FieldListsUptoSaid : Prop := fieldListsUptoRow.holds Tryd.pinned (OpenSpec.upto fieldListsSpec)

/-- 'cofferlaw24.WirePieces', WHERE WHAT IT READS IS OF BULK AT MOST 1048576: true; the input reads as it did. -/
def wirePiecesUptoRow : OpenClaim := { program := "ytkbmajkoojgkpaadoor", sum := "fed87cf3ab38ad90933dd8c95f4ee81ff2310ff1199c93ad404c594d4556f4e0", func := "coffer/cofferlaw24.WirePieces", spec := "wirePieces", inPlace := ["internal/bytealg.IndexByteString", "internal/bytealg.IndexString", "internal/abi.NoEscape", "internal/bytealg.MakeNoZero", "internal/bytealg.CountString"], unfollowed := true, recurses := true, named := ["internal/bytealg.MaxLen", "unicode/utf8.first", "unicode/utf8.acceptRanges", "unicode.CaseRanges"], apart := false, laid := [("unicode/utf8.acceptRanges", laid_unicode_utf8_acceptRanges), ("unicode.CaseRanges", laid_unicode_CaseRanges), ("unicode/utf8.first", laid_unicode_utf8_first)], narrowed := true }
def WirePiecesUptoSaid : Prop := wirePiecesUptoRow.holds Tryd.pinned (OpenSpec.upto wirePiecesSpec)

/-- 'cofferlaw24.WireBounds', WHERE WHAT IT READS IS OF BULK AT MOST 1048576: true; the input reads as it did. -/
def wireBoundsUptoRow : OpenClaim := { program := "ytkbmajkoojgkpaadoor", sum := "fed87cf3ab38ad90933dd8c95f4ee81ff2310ff1199c93ad404c594d4556f4e0", func := "coffer/cofferlaw24.WireBounds", spec := "wireBounds", inPlace := ["internal/bytealg.IndexByteString", "internal/bytealg.IndexString", "internal/abi.NoEscape", "internal/bytealg.MakeNoZero", "internal/bytealg.CountString"], unfollowed := true, recurses := true, named := ["internal/bytealg.MaxLen", "unicode/utf8.first", "unicode/utf8.acceptRanges", "unicode.CaseRanges"], apart := false, laid := [("unicode/utf8.acceptRanges", laid_unicode_utf8_acceptRanges), ("unicode.CaseRanges", laid_unicode_CaseRanges), ("unicode/utf8.first", laid_unicode_utf8_first)], narrowed := true }
def WireBoundsUptoSaid : Prop := wireBoundsUptoRow.holds Tryd.pinned (OpenSpec.upto wireBoundsSpec)

/-- 'cofferlaw24.WireNone', WHERE WHAT IT READS IS OF BULK AT MOST 1048576: true; the input reads as it did. -/
def wireNoneUptoRow : OpenClaim := { program := "ytkbmajkoojgkpaadoor", sum := "fed87cf3ab38ad90933dd8c95f4ee81ff2310ff1199c93ad404c594d4556f4e0", func := "coffer/cofferlaw24.WireNone", spec := "wireNone", inPlace := ["internal/bytealg.IndexByteString", "internal/bytealg.IndexString", "internal/abi.NoEscape", "internal/bytealg.MakeNoZero", "internal/bytealg.CountString"], unfollowed := true, recurses := true, named := ["internal/bytealg.MaxLen", "unicode/utf8.first", "unicode/utf8.acceptRanges", "unicode.CaseRanges"], apart := false, laid := [("unicode/utf8.acceptRanges", laid_unicode_utf8_acceptRanges), ("unicode.CaseRanges", laid_unicode_CaseRanges), ("unicode/utf8.first", laid_unicode_utf8_first)], narrowed := true }
def WireNoneUptoSaid : Prop := wireNoneUptoRow.holds Tryd.pinned (OpenSpec.upto wireNoneSpec)

end Rows
end Go.Proofs.YtkbmajkoojgkpaaDoor
