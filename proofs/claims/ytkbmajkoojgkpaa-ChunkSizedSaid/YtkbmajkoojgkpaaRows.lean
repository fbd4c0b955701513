/-
  No cell of these rows narrows 'for every input' (looked for: loops, veiled, ifaces, maps, wideKeys, modest, calm, conditions, laid).
  DERIVED. THE GIVEN ROWS OF THIS SEAT. 4 by the template 'for every input the law returns true; each argument reads behind the call as it read before'; 0 by the template 'total and deterministic' (their statements: YtkbmajkoojgkpaaTotals.lean).
  GIVEN WITH THE SEED: the statements are not yours to turn. If you find one false, say at which input.
  Laid BY PROGRAM, IN A SANDBOX (cutbox-rows.mjs): the forced cells as the released guide's own fill.sh prints them over the translation 1275f676c4527f10… (all of the seat's roots in one cut). By AI agents, Wed Nov 11 2026. No macro, syntax, notation, axiom, sorry.
-/
import Derived.Test.YtkbmajkoojgkpaaChecked
import GoSem.Claim
import GoSem.ClaimJoined
import GoSem.ClaimMapViews
import Derived.JoinedTies
import Derived.KernelRfl
namespace Go.Proofs.Ytkbmajkoojgkpaa
/- THE CELL 'sum', in the pinned program and in every row, IS THE sha256 OF THE DUMP (.gsa) THAT YtkbmajkoojgkpaaProg.lean LOADS. Nothing in Lean hashes anything: it is a label: what it is worth is what the hold of that sum in a sandbox is worth. -/
noncomputable def Try.pinned : Pinned := { name := "ytkbmajkoojgkpaa", sum := "1275f676c4527f10ce7c3da1d29d2b2dec5f10934f5c4a278e396465b4c0aa04", checked := Try.checked }
namespace Rows
def none {H : Type} : Left H := { results := [], args := [] }

/-- 'cofferlaw23.ChunkChunked': WHATEVER THE INPUT: true; the input reads as it did. -/
def chunkChunkedSpec : ChangeSpec := { name := "chunkChunked", fn := fun _ => fun
  | [d] => { results := [.lit (.bool true)], args := [d] }
  | _ => none }
def chunkChunkedRow : OpenClaim := { program := "ytkbmajkoojgkpaa", sum := "1275f676c4527f10ce7c3da1d29d2b2dec5f10934f5c4a278e396465b4c0aa04", func := "coffer/cofferlaw23.ChunkChunked", spec := "chunkChunked", apart := false }
def ChunkChunkedSaid : Prop := chunkChunkedRow.holds Try.pinned (OpenSpec.ofChange chunkChunkedSpec)

/-- ITS FALSE NEIGHBOUR: 'it returns false'. Refute it at one input. -/
def chunkChunkedWrong : ChangeSpec := { name := "chunkChunked", fn := fun _ => fun
  | [d] => { results := [.lit (.bool false)], args := [d] }
  | _ => none }
def ChunkChunkedWrongFalsely : Prop := chunkChunkedRow.holds Try.pinned (OpenSpec.ofChange chunkChunkedWrong)

/-- 'cofferlaw23.ChunkPieces': WHATEVER THE INPUT: true; the input reads as it did. -/
def chunkPiecesSpec : ChangeSpec := { name := "chunkPieces", fn := fun _ => fun
  | [d1, d2, d3] => { results := [.lit (.bool true)], args := [d1, d2, d3] }
  | _ => none }
def chunkPiecesRow : OpenClaim := { program := "ytkbmajkoojgkpaa", sum := "1275f676c4527f10ce7c3da1d29d2b2dec5f10934f5c4a278e396465b4c0aa04", func := "coffer/cofferlaw23.ChunkPieces", spec := "chunkPieces", apart := false }
def ChunkPiecesSaid : Prop := chunkPiecesRow.holds Try.pinned (OpenSpec.ofChange chunkPiecesSpec)

/-- ITS FALSE NEIGHBOUR: 'it returns false'. Refute it at one input. -/
def chunkPiecesWrong : ChangeSpec := { name := "chunkPieces", fn := fun _ => fun
  | [d1, d2, d3] => { results := [.lit (.bool false)], args := [d1, d2, d3] }
  | _ => none }
def ChunkPiecesWrongFalsely : Prop := chunkPiecesRow.holds Try.pinned (OpenSpec.ofChange chunkPiecesWrong)

/-- 'cofferlaw23.ChunkNone': WHATEVER THE INPUT: true; the input reads as it did. -/
def chunkNoneSpec : ChangeSpec := { name := "chunkNone", fn := fun _ => fun
  | [] => { results := [.lit (.bool true)], args := [] }
  | _ => none }
def chunkNoneRow : OpenClaim := { program := "ytkbmajkoojgkpaa", sum := "1275f676c4527f10ce7c3da1d29d2b2dec5f10934f5c4a278e396465b4c0aa04", func := "coffer/cofferlaw23.ChunkNone", spec := "chunkNone", apart := false }
def ChunkNoneSaid : Prop := chunkNoneRow.holds Try.pinned (OpenSpec.ofChange chunkNoneSpec)

/-- ITS FALSE NEIGHBOUR: 'it returns false'. Refute it at one input. -/
def chunkNoneWrong : ChangeSpec := { name := "chunkNone", fn := fun _ => fun
  | [] => { results := [.lit (.bool false)], args := [] }
  | _ => none }
def ChunkNoneWrongFalsely : Prop := chunkNoneRow.holds Try.pinned (OpenSpec.ofChange chunkNoneWrong)

/-- 'cofferlaw23.ChunkSized': WHATEVER THE INPUT: true; the input reads as it did. -/
def chunkSizedSpec : ChangeSpec := { name := "chunkSized", fn := fun _ => fun
  | [d1, d2] => { results := [.lit (.bool true)], args := [d1, d2] }
  | _ => none }
def chunkSizedRow : OpenClaim := { program := "ytkbmajkoojgkpaa", sum := "1275f676c4527f10ce7c3da1d29d2b2dec5f10934f5c4a278e396465b4c0aa04", func := "coffer/cofferlaw23.ChunkSized", spec := "chunkSized", apart := false }
def ChunkSizedSaid : Prop := chunkSizedRow.holds Try.pinned (OpenSpec.ofChange chunkSizedSpec)

/-- ITS FALSE NEIGHBOUR: 'it returns false'. Refute it at one input. -/
def chunkSizedWrong : ChangeSpec := { name := "chunkSized", fn := fun _ => fun
  | [d1, d2] => { results := [.lit (.bool false)], args := [d1, d2] }
  | _ => none }
def ChunkSizedWrongFalsely : Prop := chunkSizedRow.holds Try.pinned (OpenSpec.ofChange chunkSizedWrong)

/- THE SECOND FORM. 'bulk': how many values and letters a reading holds, each counted each time it is reached (what is shared counts as often as it is met; a slice's spare places count too). A statement '..UptoSaid' is the law's where the arguments, and the package variables that the reading takes, are together of bulk at most 1048576: NARROWER than '..Said'. Prove '..Said' where nothing that the law and all that it calls make is longer than what came in: it says more and counts as full. Else prove '..UptoSaid'. A law counts once. -/
mutual
def uptoBulk {H : Type} : DataW H → Nat
  | .lit (.string bytes) => bytes.length + 1
  | .lit _ => 1
  | .nil => 1
  | .ptr d => uptoBulk d + 1
  | .slice elems spare => uptoBulkAll elems + uptoBulkAll spare + 1
  | .agg parts => uptoBulkAll parts + 1
  | .iface _ d => uptoBulk d + 1
  | .map entries => uptoBulkEntries entries + 1
  | .held _ => 1
def uptoBulkAll {H : Type} : List (DataW H) → Nat
  | [] => 0
  | d :: r => uptoBulk d + uptoBulkAll r
def uptoBulkEntries {H : Type} : List (Lit × DataW H) → Nat
  | [] => 0
  | x :: r => uptoBulkEntry x + uptoBulkEntries r
def uptoBulkEntry {H : Type} : Lit × DataW H → Nat
  | (.string bytes, d) => bytes.length + uptoBulk d + 1
  | (_, d) => uptoBulk d + 1
 end
def uptoSmall : (H : Type) → List (DataW H) → Bool := fun _ ds => decide (uptoBulkAll ds ≤ 1048576)
def OpenSpec.upto (s : _root_.Go.ChangeSpec) : _root_.Go.OpenSpec := { _root_.Go.OpenSpec.ofChange s with cond := some uptoSmall }

/-- 'cofferlaw23.ChunkChunked', WHERE WHAT IT READS IS OF BULK AT MOST 1048576: true; the input reads as it did. -/
def chunkChunkedUptoRow : OpenClaim := { program := "ytkbmajkoojgkpaa", sum := "1275f676c4527f10ce7c3da1d29d2b2dec5f10934f5c4a278e396465b4c0aa04", func := "coffer/cofferlaw23.ChunkChunked", spec := "chunkChunked", apart := false, narrowed := true }
def ChunkChunkedUptoSaid : Prop := chunkChunkedUptoRow.holds Try.pinned (OpenSpec.upto chunkChunkedSpec)

/-- 'cofferlaw23.ChunkPieces', WHERE WHAT IT READS IS OF BULK AT MOST 1048576: true; the input reads as it did. -/
def chunkPiecesUptoRow : OpenClaim := { program := "ytkbmajkoojgkpaa", sum := "1275f676c4527f10ce7c3da1d29d2b2dec5f10934f5c4a278e396465b4c0aa04", func := "coffer/cofferlaw23.ChunkPieces", spec := "chunkPieces", apart := false, narrowed := true }
def ChunkPiecesUptoSaid : Prop := chunkPiecesUptoRow.holds Try.pinned (OpenSpec.upto chunkPiecesSpec)

/-- 'cofferlaw23.ChunkNone', WHERE WHAT IT READS IS OF BULK AT MOST 1048576: true; the input reads as it did. -/
def chunkNoneUptoRow : OpenClaim := { program := "ytkbmajkoojgkpaa", sum := "1275f676c4527f10ce7c3da1d29d2b2dec5f10934f5c4a278e396465b4c0aa04", func := "coffer/cofferlaw23.ChunkNone", spec := "chunkNone", apart := false, narrowed := true }
def ChunkNoneUptoSaid : Prop := chunkNoneUptoRow.holds Try.pinned (OpenSpec.upto chunkNoneSpec)

/-- 'cofferlaw23.ChunkSized', WHERE WHAT IT READS IS OF BULK AT MOST 1048576: true; the input reads as it did. -/
def chunkSizedUptoRow : OpenClaim := { program := "ytkbmajkoojgkpaa", sum := "1275f676c4527f10ce7c3da1d29d2b2dec5f10934f5c4a278e396465b4c0aa04", func := "coffer/cofferlaw23.ChunkSized", spec := "chunkSized", apart := false, narrowed := true }
def ChunkSizedUptoSaid : Prop := chunkSizedUptoRow.holds Try.pinned (OpenSpec.upto chunkSizedSpec)

end Rows
end Go.Proofs.Ytkbmajkoojgkpaa
