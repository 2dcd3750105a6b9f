/-
  No cell of these rows narrows 'for every input' (looked for: loops, veiled, ifaces, maps, wideKeys, modest, calm, conditions, laid).
  DERIVED. THE GIVEN ROWS OF THIS SEAT. 11 by the template 'for every input the law returns true; each argument reads behind the call as it read before'; 0 by the template 'total and deterministic' (their statements: YtpphejjdgplalaaTotals.lean).
  GIVEN WITH THE SEED: the statements are not yours to turn. If you find one false, say at which input.
  Laid BY PROGRAM, IN A SANDBOX (cutbox-rows.mjs): the forced cells as the released guide's own fill.sh prints them over the translation 82b8612b321239d8… (all of the seat's roots in one cut). By AI agents, Wed Nov 11 2026. No macro, syntax, notation, axiom, sorry.
-/
import Derived.Test.YtpphejjdgplalaaChecked
import GoSem.Claim
import GoSem.ClaimJoined
import GoSem.ClaimMapViews
import Derived.JoinedTies
import Derived.KernelRfl
namespace Go.Proofs.Ytpphejjdgplalaa
/- THE CELL 'sum', in the pinned program and in every row, IS THE sha256 OF THE DUMP (.gsa) THAT YtpphejjdgplalaaProg.lean LOADS. Nothing in Lean hashes anything: it is a label: what it is worth is what the hold of that sum in a sandbox is worth. -/
noncomputable def Try.pinned : Pinned := { name := "ytpphejjdgplalaa", sum := "82b8612b321239d89b865a5a1c4fca4619d4ce64c60a0f250658ba132f83128f", checked := Try.checked }
namespace Rows
def none {H : Type} : Left H := { results := [], args := [] }

/-- 'kibitzerlaw01.RingReads': WHATEVER THE INPUT: true; the input reads as it did. -/
def ringReadsSpec : ChangeSpec := { name := "ringReads", fn := fun _ => fun
  | [d1, d2, d3, d4] => { results := [.lit (.bool true)], args := [d1, d2, d3, d4] }
  | _ => none }
def ringReadsRow : OpenClaim := { program := "ytpphejjdgplalaa", sum := "82b8612b321239d89b865a5a1c4fca4619d4ce64c60a0f250658ba132f83128f", func := "kibitzer/kibitzerlaw01.RingReads", spec := "ringReads", apart := false }
def RingReadsSaid : Prop := ringReadsRow.holds Try.pinned (OpenSpec.ofChange ringReadsSpec)

/-- ITS FALSE NEIGHBOUR: 'it returns false'. Refute it at one input. -/
def ringReadsWrong : ChangeSpec := { name := "ringReads", fn := fun _ => fun
  | [d1, d2, d3, d4] => { results := [.lit (.bool false)], args := [d1, d2, d3, d4] }
  | _ => none }
def RingReadsWrongFalsely : Prop := ringReadsRow.holds Try.pinned (OpenSpec.ofChange ringReadsWrong)

/-- 'kibitzerlaw01.RingLines': WHATEVER THE INPUT: true; the input reads as it did. -/
def ringLinesSpec : ChangeSpec := { name := "ringLines", fn := fun _ => fun
  | [d1, d2, d3] => { results := [.lit (.bool true)], args := [d1, d2, d3] }
  | _ => none }
def ringLinesRow : OpenClaim := { program := "ytpphejjdgplalaa", sum := "82b8612b321239d89b865a5a1c4fca4619d4ce64c60a0f250658ba132f83128f", func := "kibitzer/kibitzerlaw01.RingLines", spec := "ringLines", apart := false }
def RingLinesSaid : Prop := ringLinesRow.holds Try.pinned (OpenSpec.ofChange ringLinesSpec)

/-- ITS FALSE NEIGHBOUR: 'it returns false'. Refute it at one input. -/
def ringLinesWrong : ChangeSpec := { name := "ringLines", fn := fun _ => fun
  | [d1, d2, d3] => { results := [.lit (.bool false)], args := [d1, d2, d3] }
  | _ => none }
def RingLinesWrongFalsely : Prop := ringLinesRow.holds Try.pinned (OpenSpec.ofChange ringLinesWrong)

/-- 'kibitzerlaw01.RingPieces': WHATEVER THE INPUT: true; the input reads as it did. -/
def ringPiecesSpec : ChangeSpec := { name := "ringPieces", fn := fun _ => fun
  | [d1, d2] => { results := [.lit (.bool true)], args := [d1, d2] }
  | _ => none }
def ringPiecesRow : OpenClaim := { program := "ytpphejjdgplalaa", sum := "82b8612b321239d89b865a5a1c4fca4619d4ce64c60a0f250658ba132f83128f", func := "kibitzer/kibitzerlaw01.RingPieces", spec := "ringPieces", apart := false }
def RingPiecesSaid : Prop := ringPiecesRow.holds Try.pinned (OpenSpec.ofChange ringPiecesSpec)

/-- ITS FALSE NEIGHBOUR: 'it returns false'. Refute it at one input. -/
def ringPiecesWrong : ChangeSpec := { name := "ringPieces", fn := fun _ => fun
  | [d1, d2] => { results := [.lit (.bool false)], args := [d1, d2] }
  | _ => none }
def RingPiecesWrongFalsely : Prop := ringPiecesRow.holds Try.pinned (OpenSpec.ofChange ringPiecesWrong)

/-- 'kibitzerlaw01.RingLasts': WHATEVER THE INPUT: true; the input reads as it did. -/
def ringLastsSpec : ChangeSpec := { name := "ringLasts", fn := fun _ => fun
  | [d1, d2, d3] => { results := [.lit (.bool true)], args := [d1, d2, d3] }
  | _ => none }
def ringLastsRow : OpenClaim := { program := "ytpphejjdgplalaa", sum := "82b8612b321239d89b865a5a1c4fca4619d4ce64c60a0f250658ba132f83128f", func := "kibitzer/kibitzerlaw01.RingLasts", spec := "ringLasts", apart := false }
def RingLastsSaid : Prop := ringLastsRow.holds Try.pinned (OpenSpec.ofChange ringLastsSpec)

/-- ITS FALSE NEIGHBOUR: 'it returns false'. Refute it at one input. -/
def ringLastsWrong : ChangeSpec := { name := "ringLasts", fn := fun _ => fun
  | [d1, d2, d3] => { results := [.lit (.bool false)], args := [d1, d2, d3] }
  | _ => none }
def RingLastsWrongFalsely : Prop := ringLastsRow.holds Try.pinned (OpenSpec.ofChange ringLastsWrong)

/-- 'kibitzerlaw12.ViewCatches': WHATEVER THE INPUT: true; the input reads as it did. -/
def viewCatchesSpec : ChangeSpec := { name := "viewCatches", fn := fun _ => fun
  | [d1, d2] => { results := [.lit (.bool true)], args := [d1, d2] }
  | _ => none }
def viewCatchesRow : OpenClaim := { program := "ytpphejjdgplalaa", sum := "82b8612b321239d89b865a5a1c4fca4619d4ce64c60a0f250658ba132f83128f", func := "kibitzer/kibitzerlaw12.ViewCatches", spec := "viewCatches", apart := false }
def ViewCatchesSaid : Prop := viewCatchesRow.holds Try.pinned (OpenSpec.ofChange viewCatchesSpec)

/-- ITS FALSE NEIGHBOUR: 'it returns false'. Refute it at one input. -/
def viewCatchesWrong : ChangeSpec := { name := "viewCatches", fn := fun _ => fun
  | [d1, d2] => { results := [.lit (.bool false)], args := [d1, d2] }
  | _ => none }
def ViewCatchesWrongFalsely : Prop := viewCatchesRow.holds Try.pinned (OpenSpec.ofChange viewCatchesWrong)

/-- 'kibitzerlaw12.ViewLines': WHATEVER THE INPUT: true; the input reads as it did. -/
def viewLinesSpec : ChangeSpec := { name := "viewLines", fn := fun _ => fun
  | [d1, d2, d3] => { results := [.lit (.bool true)], args := [d1, d2, d3] }
  | _ => none }
def viewLinesRow : OpenClaim := { program := "ytpphejjdgplalaa", sum := "82b8612b321239d89b865a5a1c4fca4619d4ce64c60a0f250658ba132f83128f", func := "kibitzer/kibitzerlaw12.ViewLines", spec := "viewLines", apart := false }
def ViewLinesSaid : Prop := viewLinesRow.holds Try.pinned (OpenSpec.ofChange viewLinesSpec)

/-- ITS FALSE NEIGHBOUR: 'it returns false'. Refute it at one input. -/
def viewLinesWrong : ChangeSpec := { name := "viewLines", fn := fun _ => fun
  | [d1, d2, d3] => { results := [.lit (.bool false)], args := [d1, d2, d3] }
  | _ => none }
def ViewLinesWrongFalsely : Prop := viewLinesRow.holds Try.pinned (OpenSpec.ofChange viewLinesWrong)

/-- 'kibitzerlaw12.ViewTiles': WHATEVER THE INPUT: true; the input reads as it did. -/
def viewTilesSpec : ChangeSpec := { name := "viewTiles", fn := fun _ => fun
  | [d1, d2, d3, d4] => { results := [.lit (.bool true)], args := [d1, d2, d3, d4] }
  | _ => none }
def viewTilesRow : OpenClaim := { program := "ytpphejjdgplalaa", sum := "82b8612b321239d89b865a5a1c4fca4619d4ce64c60a0f250658ba132f83128f", func := "kibitzer/kibitzerlaw12.ViewTiles", spec := "viewTiles", apart := false }
def ViewTilesSaid : Prop := viewTilesRow.holds Try.pinned (OpenSpec.ofChange viewTilesSpec)

/-- ITS FALSE NEIGHBOUR: 'it returns false'. Refute it at one input. -/
def viewTilesWrong : ChangeSpec := { name := "viewTiles", fn := fun _ => fun
  | [d1, d2, d3, d4] => { results := [.lit (.bool false)], args := [d1, d2, d3, d4] }
  | _ => none }
def ViewTilesWrongFalsely : Prop := viewTilesRow.holds Try.pinned (OpenSpec.ofChange viewTilesWrong)

/-- 'kibitzerlaw06.MsgOf': WHATEVER THE INPUT: true; the input reads as it did. -/
def msgOfSpec : ChangeSpec := { name := "msgOf", fn := fun _ => fun
  | [d] => { results := [.lit (.bool true)], args := [d] }
  | _ => none }
def msgOfRow : OpenClaim := { program := "ytpphejjdgplalaa", sum := "82b8612b321239d89b865a5a1c4fca4619d4ce64c60a0f250658ba132f83128f", func := "kibitzer/kibitzerlaw06.MsgOf", spec := "msgOf", apart := false }
def MsgOfSaid : Prop := msgOfRow.holds Try.pinned (OpenSpec.ofChange msgOfSpec)

/-- ITS FALSE NEIGHBOUR: 'it returns false'. Refute it at one input. -/
def msgOfWrong : ChangeSpec := { name := "msgOf", fn := fun _ => fun
  | [d] => { results := [.lit (.bool false)], args := [d] }
  | _ => none }
def MsgOfWrongFalsely : Prop := msgOfRow.holds Try.pinned (OpenSpec.ofChange msgOfWrong)

/-- 'kibitzerlaw06.MsgApart': WHATEVER THE INPUT: true; the input reads as it did. -/
def msgApartSpec : ChangeSpec := { name := "msgApart", fn := fun _ => fun
  | [d1, d2] => { results := [.lit (.bool true)], args := [d1, d2] }
  | _ => none }
def msgApartRow : OpenClaim := { program := "ytpphejjdgplalaa", sum := "82b8612b321239d89b865a5a1c4fca4619d4ce64c60a0f250658ba132f83128f", func := "kibitzer/kibitzerlaw06.MsgApart", spec := "msgApart", apart := false }
def MsgApartSaid : Prop := msgApartRow.holds Try.pinned (OpenSpec.ofChange msgApartSpec)

/-- ITS FALSE NEIGHBOUR: 'it returns false'. Refute it at one input. -/
def msgApartWrong : ChangeSpec := { name := "msgApart", fn := fun _ => fun
  | [d1, d2] => { results := [.lit (.bool false)], args := [d1, d2] }
  | _ => none }
def MsgApartWrongFalsely : Prop := msgApartRow.holds Try.pinned (OpenSpec.ofChange msgApartWrong)

/-- 'kibitzerlaw06.MsgFrames': WHATEVER THE INPUT: true; the input reads as it did. -/
def msgFramesSpec : ChangeSpec := { name := "msgFrames", fn := fun _ => fun
  | [d1, d2] => { results := [.lit (.bool true)], args := [d1, d2] }
  | _ => none }
def msgFramesRow : OpenClaim := { program := "ytpphejjdgplalaa", sum := "82b8612b321239d89b865a5a1c4fca4619d4ce64c60a0f250658ba132f83128f", func := "kibitzer/kibitzerlaw06.MsgFrames", spec := "msgFrames", apart := false }
def MsgFramesSaid : Prop := msgFramesRow.holds Try.pinned (OpenSpec.ofChange msgFramesSpec)

/-- ITS FALSE NEIGHBOUR: 'it returns false'. Refute it at one input. -/
def msgFramesWrong : ChangeSpec := { name := "msgFrames", fn := fun _ => fun
  | [d1, d2] => { results := [.lit (.bool false)], args := [d1, d2] }
  | _ => none }
def MsgFramesWrongFalsely : Prop := msgFramesRow.holds Try.pinned (OpenSpec.ofChange msgFramesWrong)

/-- 'kibitzerlaw15.AuditRaw': WHATEVER THE INPUT: true; the input reads as it did. -/
def auditRawSpec : ChangeSpec := { name := "auditRaw", fn := fun _ => fun
  | [d1, d2, d3] => { results := [.lit (.bool true)], args := [d1, d2, d3] }
  | _ => none }
def auditRawRow : OpenClaim := { program := "ytpphejjdgplalaa", sum := "82b8612b321239d89b865a5a1c4fca4619d4ce64c60a0f250658ba132f83128f", func := "kibitzer/kibitzerlaw15.AuditRaw", spec := "auditRaw", apart := false }
def AuditRawSaid : Prop := auditRawRow.holds Try.pinned (OpenSpec.ofChange auditRawSpec)

/-- ITS FALSE NEIGHBOUR: 'it returns false'. Refute it at one input. -/
def auditRawWrong : ChangeSpec := { name := "auditRaw", fn := fun _ => fun
  | [d1, d2, d3] => { results := [.lit (.bool false)], args := [d1, d2, d3] }
  | _ => none }
def AuditRawWrongFalsely : Prop := auditRawRow.holds Try.pinned (OpenSpec.ofChange auditRawWrong)

/- THE SECOND FORM. 'bulk': how many values and letters a reading holds, each counted each time it is reached (what is shared counts as often as it is met; a slice's spare places count too). A statement '..UptoSaid' is the law's where the arguments, and the package variables that the reading takes, are together of bulk at most 1048576: NARROWER than '..Said'. Prove '..Said' where nothing that the law and all that it calls make is longer than what came in: it says more and counts as full. Else prove '..UptoSaid'. A law counts once. -/
mutual
def uptoBulk {H : Type} : DataW H → Nat
  | .lit (.string bytes) => bytes.length + 1
  | .lit _ => 1
  | .nil => 1
  | .ptr d => uptoBulk d + 1
  | .slice elems spare => uptoBulkAll elems + uptoBulkAll spare + 1
  | .agg parts => uptoBulkAll parts + 1
  | .iface _ d => uptoBulk d + 1
  | .map entries => uptoBulkEntries entries + 1
  | .held _ => 1
def uptoBulkAll {H : Type} : List (DataW H) → Nat
  | [] => 0
  | d :: r => uptoBulk d + uptoBulkAll r
def uptoBulkEntries {H : Type} : List (Lit × DataW H) → Nat
  | [] => 0
  | x :: r => uptoBulkEntry x + uptoBulkEntries r
def uptoBulkEntry {H : Type} : Lit × DataW H → Nat
  | (.string bytes, d) => bytes.length + uptoBulk d + 1
  | (_, d) => uptoBulk d + 1
 end
def uptoSmall : (H : Type) → List (DataW H) → Bool := fun _ ds => decide (uptoBulkAll ds ≤ 1048576)
def OpenSpec.upto (s : _root_.Go.ChangeSpec) : _root_.Go.OpenSpec := { _root_.Go.OpenSpec.ofChange s with cond := some uptoSmall }

/-- 'kibitzerlaw01.RingReads', WHERE WHAT IT READS IS OF BULK AT MOST 1048576: true; the input reads as it did. -/
def ringReadsUptoRow : OpenClaim := { program := "ytpphejjdgplalaa", sum := "82b8612b321239d89b865a5a1c4fca4619d4ce64c60a0f250658ba132f83128f", func := "kibitzer/kibitzerlaw01.RingReads", spec := "ringReads", apart := false, narrowed := true }
def RingReadsUptoSaid : Prop := ringReadsUptoRow.holds Try.pinned (OpenSpec.upto ringReadsSpec)

/-- 'kibitzerlaw01.RingLines', WHERE WHAT IT READS IS OF BULK AT MOST 1048576: true; the input reads as it did. -/
def ringLinesUptoRow : OpenClaim := { program := "ytpphejjdgplalaa", sum := "82b8612b321239d89b865a5a1c4fca4619d4ce64c60a0f250658ba132f83128f", func := "kibitzer/kibitzerlaw01.RingLines", spec := "ringLines", apart := false, narrowed := true }
def RingLinesUptoSaid : Prop := ringLinesUptoRow.holds Try.pinned (OpenSpec.upto ringLinesSpec)

/-- 'kibitzerlaw01.RingPieces', WHERE WHAT IT READS IS OF BULK AT MOST 1048576: true; the input reads as it did. -/
def ringPiecesUptoRow : OpenClaim := { program := "ytpphejjdgplalaa", sum := "82b8612b321239d89b865a5a1c4fca4619d4ce64c60a0f250658ba132f83128f", func := "kibitzer/kibitzerlaw01.RingPieces", spec := "ringPieces", apart := false, narrowed := true }
def RingPiecesUptoSaid : Prop := ringPiecesUptoRow.holds Try.pinned (OpenSpec.upto ringPiecesSpec)

/-- 'kibitzerlaw01.RingLasts', WHERE WHAT IT READS IS OF BULK AT MOST 1048576: true; the input reads as it did. -/
def ringLastsUptoRow : OpenClaim := { program := "ytpphejjdgplalaa", sum := "82b8612b321239d89b865a5a1c4fca4619d4ce64c60a0f250658ba132f83128f", func := "kibitzer/kibitzerlaw01.RingLasts", spec := "ringLasts", apart := false, narrowed := true }
def RingLastsUptoSaid : Prop := ringLastsUptoRow.holds Try.pinned (OpenSpec.upto ringLastsSpec)

/-- 'kibitzerlaw12.ViewCatches', WHERE WHAT IT READS IS OF BULK AT MOST 1048576: true; the input reads as it did. -/
def viewCatchesUptoRow : OpenClaim := { program := "ytpphejjdgplalaa", sum := "82b8612b321239d89b865a5a1c4fca4619d4ce64c60a0f250658ba132f83128f", func := "kibitzer/kibitzerlaw12.ViewCatches", spec := "viewCatches", apart := false, narrowed := true }
def ViewCatchesUptoSaid : Prop := viewCatchesUptoRow.holds Try.pinned (OpenSpec.upto viewCatchesSpec)

/-- 'kibitzerlaw12.ViewLines', WHERE WHAT IT READS IS OF BULK AT MOST 1048576: true; the input reads as it did. -/
def viewLinesUptoRow : OpenClaim := { program := "ytpphejjdgplalaa", sum := "82b8612b321239d89b865a5a1c4fca4619d4ce64c60a0f250658ba132f83128f", func := "kibitzer/kibitzerlaw12.ViewLines", spec := "viewLines", apart := false, narrowed := true }
def ViewLinesUptoSaid : Prop := viewLinesUptoRow.holds Try.pinned (OpenSpec.upto viewLinesSpec)

/-- 'kibitzerlaw12.ViewTiles', WHERE WHAT IT READS IS OF BULK AT MOST 1048576: true; the input reads as it did. -/
def viewTilesUptoRow : OpenClaim := { program := "ytpphejjdgplalaa", sum := "82b8612b321239d89b865a5a1c4fca4619d4ce64c60a0f250658ba132f83128f", func := "kibitzer/kibitzerlaw12.ViewTiles", spec := "viewTiles", apart := false, narrowed := true }
def ViewTilesUptoSaid : Prop := viewTilesUptoRow.holds Try.pinned (OpenSpec.upto viewTilesSpec)

/-- 'kibitzerlaw06.MsgOf', WHERE WHAT IT READS IS OF BULK AT MOST 1048576: true; the input reads as it did. -/
def msgOfUptoRow : OpenClaim := { program := "ytpphejjdgplalaa", sum := "82b8612b321239d89b865a5a1c4fca4619d4ce64c60a0f250658ba132f83128f", func := "kibitzer/kibitzerlaw06.MsgOf", spec := "msgOf", apart := false, narrowed := true }
def MsgOfUptoSaid : Prop := msgOfUptoRow.holds Try.pinned (OpenSpec.upto msgOfSpec)

/-- 'kibitzerlaw06.MsgApart', WHERE WHAT IT READS IS OF BULK AT MOST 1048576: true; the input reads as it did. -/
def msgApartUptoRow : OpenClaim := { program := "ytpphejjdgplalaa", sum := "82b8612b321239d89b865a5a1c4fca4619d4ce64c60a0f250658ba132f83128f", func := "kibitzer/kibitzerlaw06.MsgApart", spec := "msgApart", apart := false, narrowed := true }
def MsgApartUptoSaid : Prop := msgApartUptoRow.holds Try.pinned (OpenSpec.upto msgApartSpec)

/-- 'kibitzerlaw06.MsgFrames', WHERE WHAT IT READS IS OF BULK AT MOST 1048576: true; the input reads as it did. -/
def msgFramesUptoRow : OpenClaim := { program := "ytpphejjdgplalaa", sum := "82b8612b321239d89b865a5a1c4fca4619d4ce64c60a0f250658ba132f83128f", func := "kibitzer/kibitzerlaw06.MsgFrames", spec := "msgFrames", apart := false, narrowed := true }
def MsgFramesUptoSaid : Prop := msgFramesUptoRow.holds Try.pinned (OpenSpec.upto msgFramesSpec)

/-- 'kibitzerlaw15.AuditRaw', WHERE WHAT IT READS IS OF BULK AT MOST 1048576: true; the input reads as it did. -/
def auditRawUptoRow : OpenClaim := { program := "ytpphejjdgplalaa", sum := "82b8612b321239d89b865a5a1c4fca4619d4ce64c60a0f250658ba132f83128f", func := "kibitzer/kibitzerlaw15.AuditRaw", spec := "auditRaw", apart := false, narrowed := true }
def AuditRawUptoSaid : Prop := auditRawUptoRow.holds Try.pinned (OpenSpec.upto auditRawSpec)

end Rows
end Go.Proofs.Ytpphejjdgplalaa
