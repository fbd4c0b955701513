/-
  DERIVED. GIVEN WITH THE SEED: THE CARDS: each row of YtkbmajkoojgkpaaDoorRows.lean that lists a variable, with what it lists TIED to the program's text (the seventh form; the later family's looks); each row that meets fmt, with fmt's text TOLD by the authors' own Lean function (tested against real Go, not proved from fmt's source: count such statements apart). THE CARD IS WHAT COUNTS. Prove the row's statement (the work); the ties are given (YtkbmajkoojgkpaaDoorTie.lean); close each card by the builder's one call (the guide's Derived/Test/ToyasCard.lean, 'card_holds'). Laid BY PROGRAM, IN A SANDBOX (cutbox-door.mjs). By AI agents, Wed Nov 11 2026. No macro, syntax, notation, axiom, sorry.
-/
import Derived.Test.YtkbmajkoojgkpaaDoorRows
import GoSem.ClaimSeven
namespace Go.Proofs.YtkbmajkoojgkpaaDoor
namespace Rows

/-- THE TIED CARD OF 'cofferlaw23.ChunkWrites'. -/
def chunkWritesCard : Claim7 := { stood := { row := chunkWritesRow, standIns := [], harness := (true, "12bf1f6835e937716795c98578cb4e86f841575c4685e651ed6da22154897343"), looks := false }, kinds := [], alts := [], laidByText := true, laidKinds := [.data, .data, .data], laidTests := true, laidLooks := .later }
def ChunkWritesCardSaid : Prop := Claim7.holds Tryd.pinned (.plain (OpenSpec.ofChange chunkWritesSpec)) chunkWritesCard

/-- THE TIED CARD OF 'cofferlaw23.ChunkBack'. -/
def chunkBackCard : Claim7 := { stood := { row := chunkBackRow, standIns := [], harness := (true, "12bf1f6835e937716795c98578cb4e86f841575c4685e651ed6da22154897343"), looks := false }, kinds := [], alts := [], laidByText := true, laidKinds := [.data, .data, .data], laidTests := true, laidLooks := .later }
def ChunkBackCardSaid : Prop := Claim7.holds Tryd.pinned (.plain (OpenSpec.ofChange chunkBackSpec)) chunkBackCard

/-- THE TIED CARD OF 'cofferlaw23.ChunkBounds'. -/
def chunkBoundsCard : Claim7 := { stood := { row := chunkBoundsRow, standIns := [], harness := (true, "12bf1f6835e937716795c98578cb4e86f841575c4685e651ed6da22154897343"), looks := false }, kinds := [], alts := [], laidByText := true, laidKinds := [.data, .data, .data], laidTests := true, laidLooks := .later }
def ChunkBoundsCardSaid : Prop := Claim7.holds Tryd.pinned (.plain (OpenSpec.ofChange chunkBoundsSpec)) chunkBoundsCard

/-- THE TIED CARD OF 'cofferlaw22.FieldLines'. -/
def fieldLinesCard : Claim7 := { stood := { row := fieldLinesRow, standIns := [], harness := (true, "12bf1f6835e937716795c98578cb4e86f841575c4685e651ed6da22154897343"), looks := false }, kinds := [], alts := [], laidByText := true, laidKinds := [.data, .pinned], laidTests := true, laidLooks := .later }
def FieldLinesCardSaid : Prop := Claim7.holds Tryd.pinned (.plain (OpenSpec.ofChange fieldLinesSpec)) fieldLinesCard

/-- THE TIED CARD OF 'cofferlaw22.FieldWords'. -/
def fieldWordsCard : Claim7 := { stood := { row := fieldWordsRow, standIns := [], harness := (true, "12bf1f6835e937716795c98578cb4e86f841575c4685e651ed6da22154897343"), looks := false }, kinds := [], alts := [], laidByText := true, laidKinds := [.data, .pinned], laidTests := true, laidLooks := .later }
def FieldWordsCardSaid : Prop := Claim7.holds Tryd.pinned (.plain (OpenSpec.ofChange fieldWordsSpec)) fieldWordsCard

/-- THE TIED CARD OF 'cofferlaw22.FieldBlanks'. -/
def fieldBlanksCard : Claim7 := { stood := { row := fieldBlanksRow, standIns := [], harness := (true, "12bf1f6835e937716795c98578cb4e86f841575c4685e651ed6da22154897343"), looks := false }, kinds := [], alts := [], laidByText := true, laidKinds := [.data, .pinned], laidTests := true, laidLooks := .later }
def FieldBlanksCardSaid : Prop := Claim7.holds Tryd.pinned (.plain (OpenSpec.ofChange fieldBlanksSpec)) fieldBlanksCard

/-- THE TIED CARD OF 'cofferlaw22.FieldJoins'. -/
def fieldJoinsCard : Claim7 := { stood := { row := fieldJoinsRow, standIns := [], harness := (true, "12bf1f6835e937716795c98578cb4e86f841575c4685e651ed6da22154897343"), looks := false }, kinds := [], alts := [], laidByText := true, laidKinds := [.data, .pinned], laidTests := true, laidLooks := .later }
def FieldJoinsCardSaid : Prop := Claim7.holds Tryd.pinned (.plain (OpenSpec.ofChange fieldJoinsSpec)) fieldJoinsCard

/-- THE TIED CARD OF 'cofferlaw22.FieldLists'. -/
def fieldListsCard : Claim7 := { stood := { row := fieldListsRow, standIns := [], harness := (true, "12bf1f6835e937716795c98578cb4e86f841575c4685e651ed6da22154897343"), looks := false }, kinds := [], alts := [], laidByText := true, laidKinds := [.data, .pinned], laidTests := true, laidLooks := .later }
def FieldListsCardSaid : Prop := Claim7.holds Tryd.pinned (.plain (OpenSpec.ofChange fieldListsSpec)) fieldListsCard

/-- THE TIED CARD OF 'cofferlaw24.WirePieces'. -/
def wirePiecesCard : Claim7 := { stood := { row := wirePiecesRow, standIns := [], harness := (true, "12bf1f6835e937716795c98578cb4e86f841575c4685e651ed6da22154897343"), looks := false }, kinds := [], alts := [], laidByText := true, laidKinds := [.data, .pinned, .pinned], laidTests := true, laidLooks := .later }
def WirePiecesCardSaid : Prop := Claim7.holds Tryd.pinned (.plain (OpenSpec.ofChange wirePiecesSpec)) wirePiecesCard

/-- THE TIED CARD OF 'cofferlaw24.WireBounds'. -/
def wireBoundsCard : Claim7 := { stood := { row := wireBoundsRow, standIns := [], harness := (true, "12bf1f6835e937716795c98578cb4e86f841575c4685e651ed6da22154897343"), looks := false }, kinds := [], alts := [], laidByText := true, laidKinds := [.data, .pinned, .pinned], laidTests := true, laidLooks := .later }
def WireBoundsCardSaid : Prop := Claim7.holds Tryd.pinned (.plain (OpenSpec.ofChange wireBoundsSpec)) wireBoundsCard

/-- THE TIED CARD OF 'cofferlaw24.WireNone'. -/
def wireNoneCard : Claim7 := { stood := { row := wireNoneRow, standIns := [], harness := (true, "12bf1f6835e937716795c98578cb4e86f841575c4685e651ed6da22154897343"), looks := false }, kinds := [], alts := [], laidByText := true, laidKinds := [.data, .pinned, .pinned], laidTests := true, laidLooks := .later }
def WireNoneCardSaid : Prop := Claim7.holds Tryd.pinned (.plain (OpenSpec.ofChange wireNoneSpec)) wireNoneCard

/-- THE SECOND FORM's CARD OF 'cofferlaw23.ChunkWrites'. -/
def chunkWritesUptoCard : Claim7 := { stood := { row := chunkWritesUptoRow, standIns := [], harness := (true, "12bf1f6835e937716795c98578cb4e86f841575c4685e651ed6da22154897343"), looks := false }, kinds := [], alts := [], laidByText := true, laidKinds := [.data, .data, .data], laidTests := true, laidLooks := .later }
def ChunkWritesUptoCardSaid : Prop := Claim7.holds Tryd.pinned (.plain (OpenSpec.upto chunkWritesSpec)) chunkWritesUptoCard

/-- THE SECOND FORM's CARD OF 'cofferlaw23.ChunkBack'. -/
def chunkBackUptoCard : Claim7 := { stood := { row := chunkBackUptoRow, standIns := [], harness := (true, "12bf1f6835e937716795c98578cb4e86f841575c4685e651ed6da22154897343"), looks := false }, kinds := [], alts := [], laidByText := true, laidKinds := [.data, .data, .data], laidTests := true, laidLooks := .later }
def ChunkBackUptoCardSaid : Prop := Claim7.holds Tryd.pinned (.plain (OpenSpec.upto chunkBackSpec)) chunkBackUptoCard

/-- THE SECOND FORM's CARD OF 'cofferlaw23.ChunkBounds'. -/
def chunkBoundsUptoCard : Claim7 := { stood := { row := chunkBoundsUptoRow, standIns := [], harness := (true, "12bf1f6835e937716795c98578cb4e86f841575c4685e651ed6da22154897343"), looks := false }, kinds := [], alts := [], laidByText := true, laidKinds := [.data, .data, .data], laidTests := true, laidLooks := .later }
def ChunkBoundsUptoCardSaid : Prop := Claim7.holds Tryd.pinned (.plain (OpenSpec.upto chunkBoundsSpec)) chunkBoundsUptoCard

/-- THE SECOND FORM's CARD OF 'cofferlaw22.FieldLines'. -/
def fieldLinesUptoCard : Claim7 := { stood := { row := fieldLinesUptoRow, standIns := [], harness := (true, "12bf1f6835e937716795c98578cb4e86f841575c4685e651ed6da22154897343"), looks := false }, kinds := [], alts := [], laidByText := true, laidKinds := [.data, .pinned], laidTests := true, laidLooks := .later }
def FieldLinesUptoCardSaid : Prop := Claim7.holds Tryd.pinned (.plain (OpenSpec.upto fieldLinesSpec)) fieldLinesUptoCard

/-- THE SECOND FORM's CARD OF 'cofferlaw22.FieldWords'. -/
def fieldWordsUptoCard : Claim7 := { stood := { row := fieldWordsUptoRow, standIns := [], harness := (true, "12bf1f6835e937716795c98578cb4e86f841575c4685e651ed6da22154897343"), looks := false }, kinds := [], alts := [], laidByText := true, laidKinds := [.data, .pinned], laidTests := true, laidLooks := .later }
def FieldWordsUptoCardSaid : Prop := Claim7.holds Tryd.pinned (.plain (OpenSpec.upto fieldWordsSpec)) fieldWordsUptoCard

/-- THE SECOND FORM's CARD OF 'cofferlaw22.FieldBlanks'. -/
def fieldBlanksUptoCard : Claim7 := { stood := { row := fieldBlanksUptoRow, standIns := [], harness := (true, "12bf1f6835e937716795c98578cb4e86f841575c4685e651ed6da22154897343"), looks := false }, kinds := [], alts := [], laidByText := true, laidKinds := [.data, .pinned], laidTests := true, laidLooks := .later }
def FieldBlanksUptoCardSaid : Prop := Claim7.holds Tryd.pinned (.plain (OpenSpec.upto fieldBlanksSpec)) fieldBlanksUptoCard

/-- THE SECOND FORM's CARD OF 'cofferlaw22.FieldJoins'. -/
def fieldJoinsUptoCard : Claim7 := { stood := { row := fieldJoinsUptoRow, standIns := [], harness := (true, "12bf1f6835e937716795c98578cb4e86f841575c4685e651ed6da22154897343"), looks := false }, kinds := [], alts := [], laidByText := true, laidKinds := [.data, .pinned], laidTests := true, laidLooks := .later }
def FieldJoinsUptoCardSaid : Prop := Claim7.holds Tryd.pinned (.plain (OpenSpec.upto fieldJoinsSpec)) fieldJoinsUptoCard

/-- THE SECOND FORM's CARD OF 'cofferlaw22.FieldLists'. -/
def fieldListsUptoCard : Claim7 := { stood := { row := fieldListsUptoRow, standIns := [], harness := (true, "12bf1f6835e937716795c98578cb4e86f841575c4685e651ed6da22154897343"), looks := false }, kinds := [], alts := [], laidByText := true, laidKinds := [.data, .pinned], laidTests := true, laidLooks := .later }
def FieldListsUptoCardSaid : Prop := Claim7.holds Tryd.pinned (.plain (OpenSpec.upto fieldListsSpec)) fieldListsUptoCard

/-- THE SECOND FORM's CARD OF 'cofferlaw24.WirePieces'. -/
def wirePiecesUptoCard : Claim7 := { stood := { row := wirePiecesUptoRow, standIns := [], harness := (true, "12bf1f6835e937716795c98578cb4e86f841575c4685e651ed6da22154897343"), looks := false }, kinds := [], alts := [], laidByText := true, laidKinds := [.data, .pinned, .pinned], laidTests := true, laidLooks := .later }
def WirePiecesUptoCardSaid : Prop := Claim7.holds Tryd.pinned (.plain (OpenSpec.upto wirePiecesSpec)) wirePiecesUptoCard

/-- THE SECOND FORM's CARD OF 'cofferlaw24.WireBounds'. -/
def wireBoundsUptoCard : Claim7 := { stood := { row := wireBoundsUptoRow, standIns := [], harness := (true, "12bf1f6835e937716795c98578cb4e86f841575c4685e651ed6da22154897343"), looks := false }, kinds := [], alts := [], laidByText := true, laidKinds := [.data, .pinned, .pinned], laidTests := true, laidLooks := .later }
def WireBoundsUptoCardSaid : Prop := Claim7.holds Tryd.pinned (.plain (OpenSpec.upto wireBoundsSpec)) wireBoundsUptoCard

/-- THE SECOND FORM's CARD OF 'cofferlaw24.WireNone'. -/
def wireNoneUptoCard : Claim7 := { stood := { row := wireNoneUptoRow, standIns := [], harness := (true, "12bf1f6835e937716795c98578cb4e86f841575c4685e651ed6da22154897343"), looks := false }, kinds := [], alts := [], laidByText := true, laidKinds := [.data, .pinned, .pinned], laidTests := true, laidLooks := .later }
def WireNoneUptoCardSaid : Prop := Claim7.holds Tryd.pinned (.plain (OpenSpec.upto wireNoneSpec)) wireNoneUptoCard
end Rows
end Go.Proofs.YtkbmajkoojgkpaaDoor
