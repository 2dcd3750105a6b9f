/-
  No cell of these rows narrows 'for every input' (looked for: loops, veiled, ifaces, maps, wideKeys, modest, calm, conditions, laid).
  DERIVED. THE GIVEN ROWS OF THIS SEAT. 12 by the template 'for every input the law returns true; each argument reads behind the call as it read before'; 0 by the template 'total and deterministic' (their statements: YtahbcjgbhfkhbaaTotals.lean).
  GIVEN WITH THE SEED: the statements are not yours to turn. If you find one false, say at which input.
  Laid BY PROGRAM, IN A SANDBOX (cutbox-rows.mjs): the forced cells as the released guide's own fill.sh prints them over the translation ac789f83b33d9cc3… (all of the seat's roots in one cut). By AI agents, Wed Nov 11 2026. No macro, syntax, notation, axiom, sorry.
-/
import Derived.Test.YtahbcjgbhfkhbaaChecked
import GoSem.Claim
import GoSem.ClaimJoined
import GoSem.ClaimMapViews
import Derived.JoinedTies
import Derived.KernelRfl
namespace Go.Proofs.Ytahbcjgbhfkhbaa
/- THE CELL 'sum', in the pinned program and in every row, IS THE sha256 OF THE DUMP (.gsa) THAT YtahbcjgbhfkhbaaProg.lean LOADS. Nothing in Lean hashes anything: it is a label: what it is worth is what the hold of that sum in a sandbox is worth. -/
noncomputable def Try.pinned : Pinned := { name := "ytahbcjgbhfkhbaa", sum := "ac789f83b33d9cc347c6f60b1dd9b1be5676e714d390a1a9b561c3e67709ed4a", checked := Try.checked }
namespace Rows
def none {H : Type} : Left H := { results := [], args := [] }

/-- 'kibitzerlaw02.SumBits': WHATEVER THE INPUT: true; the input reads as it did. -/
def sumBitsSpec : ChangeSpec := { name := "sumBits", fn := fun _ => fun
  | [d1, d2] => { results := [.lit (.bool true)], args := [d1, d2] }
  | _ => none }
def sumBitsRow : OpenClaim := { program := "ytahbcjgbhfkhbaa", sum := "ac789f83b33d9cc347c6f60b1dd9b1be5676e714d390a1a9b561c3e67709ed4a", func := "kibitzer/kibitzerlaw02.SumBits", spec := "sumBits", apart := false }
def SumBitsSaid : Prop := sumBitsRow.holds Try.pinned (OpenSpec.ofChange sumBitsSpec)

/-- ITS FALSE NEIGHBOUR: 'it returns false'. Refute it at one input. -/
def sumBitsWrong : ChangeSpec := { name := "sumBits", fn := fun _ => fun
  | [d1, d2] => { results := [.lit (.bool false)], args := [d1, d2] }
  | _ => none }
def SumBitsWrongFalsely : Prop := sumBitsRow.holds Try.pinned (OpenSpec.ofChange sumBitsWrong)

/-- 'kibitzerlaw02.SumJoins': WHATEVER THE INPUT: true; the input reads as it did. -/
def sumJoinsSpec : ChangeSpec := { name := "sumJoins", fn := fun _ => fun
  | [d1, d2, d3] => { results := [.lit (.bool true)], args := [d1, d2, d3] }
  | _ => none }
def sumJoinsRow : OpenClaim := { program := "ytahbcjgbhfkhbaa", sum := "ac789f83b33d9cc347c6f60b1dd9b1be5676e714d390a1a9b561c3e67709ed4a", func := "kibitzer/kibitzerlaw02.SumJoins", spec := "sumJoins", apart := false }
def SumJoinsSaid : Prop := sumJoinsRow.holds Try.pinned (OpenSpec.ofChange sumJoinsSpec)

/-- ITS FALSE NEIGHBOUR: 'it returns false'. Refute it at one input. -/
def sumJoinsWrong : ChangeSpec := { name := "sumJoins", fn := fun _ => fun
  | [d1, d2, d3] => { results := [.lit (.bool false)], args := [d1, d2, d3] }
  | _ => none }
def SumJoinsWrongFalsely : Prop := sumJoinsRow.holds Try.pinned (OpenSpec.ofChange sumJoinsWrong)

/-- 'kibitzerlaw02.SumSpoilt': WHATEVER THE INPUT: true; the input reads as it did. -/
def sumSpoiltSpec : ChangeSpec := { name := "sumSpoilt", fn := fun _ => fun
  | [d1, d2, d3, d4, d5] => { results := [.lit (.bool true)], args := [d1, d2, d3, d4, d5] }
  | _ => none }
def sumSpoiltRow : OpenClaim := { program := "ytahbcjgbhfkhbaa", sum := "ac789f83b33d9cc347c6f60b1dd9b1be5676e714d390a1a9b561c3e67709ed4a", func := "kibitzer/kibitzerlaw02.SumSpoilt", spec := "sumSpoilt", apart := false }
def SumSpoiltSaid : Prop := sumSpoiltRow.holds Try.pinned (OpenSpec.ofChange sumSpoiltSpec)

/-- ITS FALSE NEIGHBOUR: 'it returns false'. Refute it at one input. -/
def sumSpoiltWrong : ChangeSpec := { name := "sumSpoilt", fn := fun _ => fun
  | [d1, d2, d3, d4, d5] => { results := [.lit (.bool false)], args := [d1, d2, d3, d4, d5] }
  | _ => none }
def SumSpoiltWrongFalsely : Prop := sumSpoiltRow.holds Try.pinned (OpenSpec.ofChange sumSpoiltWrong)

/-- 'kibitzerlaw03.FramePuts': WHATEVER THE INPUT: true; the input reads as it did. -/
def framePutsSpec : ChangeSpec := { name := "framePuts", fn := fun _ => fun
  | [d1, d2, d3, d4] => { results := [.lit (.bool true)], args := [d1, d2, d3, d4] }
  | _ => none }
def framePutsRow : OpenClaim := { program := "ytahbcjgbhfkhbaa", sum := "ac789f83b33d9cc347c6f60b1dd9b1be5676e714d390a1a9b561c3e67709ed4a", func := "kibitzer/kibitzerlaw03.FramePuts", spec := "framePuts", apart := false }
def FramePutsSaid : Prop := framePutsRow.holds Try.pinned (OpenSpec.ofChange framePutsSpec)

/-- ITS FALSE NEIGHBOUR: 'it returns false'. Refute it at one input. -/
def framePutsWrong : ChangeSpec := { name := "framePuts", fn := fun _ => fun
  | [d1, d2, d3, d4] => { results := [.lit (.bool false)], args := [d1, d2, d3, d4] }
  | _ => none }
def FramePutsWrongFalsely : Prop := framePutsRow.holds Try.pinned (OpenSpec.ofChange framePutsWrong)

/-- 'kibitzerlaw03.FrameGets': WHATEVER THE INPUT: true; the input reads as it did. -/
def frameGetsSpec : ChangeSpec := { name := "frameGets", fn := fun _ => fun
  | [d] => { results := [.lit (.bool true)], args := [d] }
  | _ => none }
def frameGetsRow : OpenClaim := { program := "ytahbcjgbhfkhbaa", sum := "ac789f83b33d9cc347c6f60b1dd9b1be5676e714d390a1a9b561c3e67709ed4a", func := "kibitzer/kibitzerlaw03.FrameGets", spec := "frameGets", apart := false }
def FrameGetsSaid : Prop := frameGetsRow.holds Try.pinned (OpenSpec.ofChange frameGetsSpec)

/-- ITS FALSE NEIGHBOUR: 'it returns false'. Refute it at one input. -/
def frameGetsWrong : ChangeSpec := { name := "frameGets", fn := fun _ => fun
  | [d] => { results := [.lit (.bool false)], args := [d] }
  | _ => none }
def FrameGetsWrongFalsely : Prop := frameGetsRow.holds Try.pinned (OpenSpec.ofChange frameGetsWrong)

/-- 'kibitzerlaw03.FrameCuts': WHATEVER THE INPUT: true; the input reads as it did. -/
def frameCutsSpec : ChangeSpec := { name := "frameCuts", fn := fun _ => fun
  | [d1, d2, d3, d4, d5, d6] => { results := [.lit (.bool true)], args := [d1, d2, d3, d4, d5, d6] }
  | _ => none }
def frameCutsRow : OpenClaim := { program := "ytahbcjgbhfkhbaa", sum := "ac789f83b33d9cc347c6f60b1dd9b1be5676e714d390a1a9b561c3e67709ed4a", func := "kibitzer/kibitzerlaw03.FrameCuts", spec := "frameCuts", apart := false }
def FrameCutsSaid : Prop := frameCutsRow.holds Try.pinned (OpenSpec.ofChange frameCutsSpec)

/-- ITS FALSE NEIGHBOUR: 'it returns false'. Refute it at one input. -/
def frameCutsWrong : ChangeSpec := { name := "frameCuts", fn := fun _ => fun
  | [d1, d2, d3, d4, d5, d6] => { results := [.lit (.bool false)], args := [d1, d2, d3, d4, d5, d6] }
  | _ => none }
def FrameCutsWrongFalsely : Prop := frameCutsRow.holds Try.pinned (OpenSpec.ofChange frameCutsWrong)

/-- 'kibitzerlaw03.FrameJoins': WHATEVER THE INPUT: true; the input reads as it did. -/
def frameJoinsSpec : ChangeSpec := { name := "frameJoins", fn := fun _ => fun
  | [d1, d2, d3, d4] => { results := [.lit (.bool true)], args := [d1, d2, d3, d4] }
  | _ => none }
def frameJoinsRow : OpenClaim := { program := "ytahbcjgbhfkhbaa", sum := "ac789f83b33d9cc347c6f60b1dd9b1be5676e714d390a1a9b561c3e67709ed4a", func := "kibitzer/kibitzerlaw03.FrameJoins", spec := "frameJoins", apart := false }
def FrameJoinsSaid : Prop := frameJoinsRow.holds Try.pinned (OpenSpec.ofChange frameJoinsSpec)

/-- ITS FALSE NEIGHBOUR: 'it returns false'. Refute it at one input. -/
def frameJoinsWrong : ChangeSpec := { name := "frameJoins", fn := fun _ => fun
  | [d1, d2, d3, d4] => { results := [.lit (.bool false)], args := [d1, d2, d3, d4] }
  | _ => none }
def FrameJoinsWrongFalsely : Prop := frameJoinsRow.holds Try.pinned (OpenSpec.ofChange frameJoinsWrong)

/-- 'kibitzerlaw04.FeedPieces': WHATEVER THE INPUT: true; the input reads as it did. -/
def feedPiecesSpec : ChangeSpec := { name := "feedPieces", fn := fun _ => fun
  | [d] => { results := [.lit (.bool true)], args := [d] }
  | _ => none }
def feedPiecesRow : OpenClaim := { program := "ytahbcjgbhfkhbaa", sum := "ac789f83b33d9cc347c6f60b1dd9b1be5676e714d390a1a9b561c3e67709ed4a", func := "kibitzer/kibitzerlaw04.FeedPieces", spec := "feedPieces", apart := false }
def FeedPiecesSaid : Prop := feedPiecesRow.holds Try.pinned (OpenSpec.ofChange feedPiecesSpec)

/-- ITS FALSE NEIGHBOUR: 'it returns false'. Refute it at one input. -/
def feedPiecesWrong : ChangeSpec := { name := "feedPieces", fn := fun _ => fun
  | [d] => { results := [.lit (.bool false)], args := [d] }
  | _ => none }
def FeedPiecesWrongFalsely : Prop := feedPiecesRow.holds Try.pinned (OpenSpec.ofChange feedPiecesWrong)

/-- 'kibitzerlaw04.FeedFrames': WHATEVER THE INPUT: true; the input reads as it did. -/
def feedFramesSpec : ChangeSpec := { name := "feedFrames", fn := fun _ => fun
  | [d1, d2] => { results := [.lit (.bool true)], args := [d1, d2] }
  | _ => none }
def feedFramesRow : OpenClaim := { program := "ytahbcjgbhfkhbaa", sum := "ac789f83b33d9cc347c6f60b1dd9b1be5676e714d390a1a9b561c3e67709ed4a", func := "kibitzer/kibitzerlaw04.FeedFrames", spec := "feedFrames", apart := false }
def FeedFramesSaid : Prop := feedFramesRow.holds Try.pinned (OpenSpec.ofChange feedFramesSpec)

/-- ITS FALSE NEIGHBOUR: 'it returns false'. Refute it at one input. -/
def feedFramesWrong : ChangeSpec := { name := "feedFrames", fn := fun _ => fun
  | [d1, d2] => { results := [.lit (.bool false)], args := [d1, d2] }
  | _ => none }
def FeedFramesWrongFalsely : Prop := feedFramesRow.holds Try.pinned (OpenSpec.ofChange feedFramesWrong)

/-- 'kibitzerlaw04.FeedBroken': WHATEVER THE INPUT: true; the input reads as it did. -/
def feedBrokenSpec : ChangeSpec := { name := "feedBroken", fn := fun _ => fun
  | [d1, d2] => { results := [.lit (.bool true)], args := [d1, d2] }
  | _ => none }
def feedBrokenRow : OpenClaim := { program := "ytahbcjgbhfkhbaa", sum := "ac789f83b33d9cc347c6f60b1dd9b1be5676e714d390a1a9b561c3e67709ed4a", func := "kibitzer/kibitzerlaw04.FeedBroken", spec := "feedBroken", apart := false }
def FeedBrokenSaid : Prop := feedBrokenRow.holds Try.pinned (OpenSpec.ofChange feedBrokenSpec)

/-- ITS FALSE NEIGHBOUR: 'it returns false'. Refute it at one input. -/
def feedBrokenWrong : ChangeSpec := { name := "feedBroken", fn := fun _ => fun
  | [d1, d2] => { results := [.lit (.bool false)], args := [d1, d2] }
  | _ => none }
def FeedBrokenWrongFalsely : Prop := feedBrokenRow.holds Try.pinned (OpenSpec.ofChange feedBrokenWrong)

/-- 'kibitzerlaw05.OutqActs': WHATEVER THE INPUT: true; the input reads as it did. -/
def outqActsSpec : ChangeSpec := { name := "outqActs", fn := fun _ => fun
  | [d1, d2] => { results := [.lit (.bool true)], args := [d1, d2] }
  | _ => none }
def outqActsRow : OpenClaim := { program := "ytahbcjgbhfkhbaa", sum := "ac789f83b33d9cc347c6f60b1dd9b1be5676e714d390a1a9b561c3e67709ed4a", func := "kibitzer/kibitzerlaw05.OutqActs", spec := "outqActs", apart := false }
def OutqActsSaid : Prop := outqActsRow.holds Try.pinned (OpenSpec.ofChange outqActsSpec)

/-- ITS FALSE NEIGHBOUR: 'it returns false'. Refute it at one input. -/
def outqActsWrong : ChangeSpec := { name := "outqActs", fn := fun _ => fun
  | [d1, d2] => { results := [.lit (.bool false)], args := [d1, d2] }
  | _ => none }
def OutqActsWrongFalsely : Prop := outqActsRow.holds Try.pinned (OpenSpec.ofChange outqActsWrong)

/-- 'kibitzerlaw05.OutqWhole': WHATEVER THE INPUT: true; the input reads as it did. -/
def outqWholeSpec : ChangeSpec := { name := "outqWhole", fn := fun _ => fun
  | [d1, d2] => { results := [.lit (.bool true)], args := [d1, d2] }
  | _ => none }
def outqWholeRow : OpenClaim := { program := "ytahbcjgbhfkhbaa", sum := "ac789f83b33d9cc347c6f60b1dd9b1be5676e714d390a1a9b561c3e67709ed4a", func := "kibitzer/kibitzerlaw05.OutqWhole", spec := "outqWhole", apart := false }
def OutqWholeSaid : Prop := outqWholeRow.holds Try.pinned (OpenSpec.ofChange outqWholeSpec)

/-- ITS FALSE NEIGHBOUR: 'it returns false'. Refute it at one input. -/
def outqWholeWrong : ChangeSpec := { name := "outqWhole", fn := fun _ => fun
  | [d1, d2] => { results := [.lit (.bool false)], args := [d1, d2] }
  | _ => none }
def OutqWholeWrongFalsely : Prop := outqWholeRow.holds Try.pinned (OpenSpec.ofChange outqWholeWrong)

/- THE SECOND FORM. 'bulk': how many values and letters a reading holds, each counted each time it is reached (what is shared counts as often as it is met; a slice's spare places count too). A statement '..UptoSaid' is the law's where the arguments, and the package variables that the reading takes, are together of bulk at most 1048576: NARROWER than '..Said'. Prove '..Said' where nothing that the law and all that it calls make is longer than what came in: it says more and counts as full. Else prove '..UptoSaid'. A law counts once. -/
mutual
def uptoBulk {H : Type} : DataW H → Nat
  | .lit (.string bytes) => bytes.length + 1
  | .lit _ => 1
  | .nil => 1
  | .ptr d => uptoBulk d + 1
  | .slice elems spare => uptoBulkAll elems + uptoBulkAll spare + 1
  | .agg parts => uptoBulkAll parts + 1
  | .iface _ d => uptoBulk d + 1
  | .map entries => uptoBulkEntries entries + 1
  | .held _ => 1
def uptoBulkAll {H : Type} : List (DataW H) → Nat
  | [] => 0
  | d :: r => uptoBulk d + uptoBulkAll r
def uptoBulkEntries {H : Type} : List (Lit × DataW H) → Nat
  | [] => 0
  | x :: r => uptoBulkEntry x + uptoBulkEntries r
def uptoBulkEntry {H : Type} : Lit × DataW H → Nat
  | (.string bytes, d) => bytes.length + uptoBulk d + 1
  | (_, d) => uptoBulk d + 1
 end
def uptoSmall : (H : Type) → List (DataW H) → Bool := fun _ ds => decide (uptoBulkAll ds ≤ 1048576)
def OpenSpec.upto (s : _root_.Go.ChangeSpec) : _root_.Go.OpenSpec := { _root_.Go.OpenSpec.ofChange s with cond := some uptoSmall }

/-- 'kibitzerlaw02.SumBits', WHERE WHAT IT READS IS OF BULK AT MOST 1048576: true; the input reads as it did. -/
def sumBitsUptoRow : OpenClaim := { program := "ytahbcjgbhfkhbaa", sum := "ac789f83b33d9cc347c6f60b1dd9b1be5676e714d390a1a9b561c3e67709ed4a", func := "kibitzer/kibitzerlaw02.SumBits", spec := "sumBits", apart := false, narrowed := true }
def SumBitsUptoSaid : Prop := sumBitsUptoRow.holds Try.pinned (OpenSpec.upto sumBitsSpec)

/-- 'kibitzerlaw02.SumJoins', WHERE WHAT IT READS IS OF BULK AT MOST 1048576: true; the input reads as it did. -/
def sumJoinsUptoRow : OpenClaim := { program := "ytahbcjgbhfkhbaa", sum := "ac789f83b33d9cc347c6f60b1dd9b1be5676e714d390a1a9b561c3e67709ed4a", func := "kibitzer/kibitzerlaw02.SumJoins", spec := "sumJoins", apart := false, narrowed := true }
def SumJoinsUptoSaid : Prop := sumJoinsUptoRow.holds Try.pinned (OpenSpec.upto sumJoinsSpec)

/-- 'kibitzerlaw02.SumSpoilt', WHERE WHAT IT READS IS OF BULK AT MOST 1048576: true; the input reads as it did. -/
def sumSpoiltUptoRow : OpenClaim := { program := "ytahbcjgbhfkhbaa", sum := "ac789f83b33d9cc347c6f60b1dd9b1be5676e714d390a1a9b561c3e67709ed4a", func := "kibitzer/kibitzerlaw02.SumSpoilt", spec := "sumSpoilt", apart := false, narrowed := true }
def SumSpoiltUptoSaid : Prop := sumSpoiltUptoRow.holds Try.pinned (OpenSpec.upto sumSpoiltSpec)

/-- 'kibitzerlaw03.FramePuts', WHERE WHAT IT READS IS OF BULK AT MOST 1048576: true; the input reads as it did. -/
def framePutsUptoRow : OpenClaim := { program := "ytahbcjgbhfkhbaa", sum := "ac789f83b33d9cc347c6f60b1dd9b1be5676e714d390a1a9b561c3e67709ed4a", func := "kibitzer/kibitzerlaw03.FramePuts", spec := "framePuts", apart := false, narrowed := true }
def FramePutsUptoSaid : Prop := framePutsUptoRow.holds Try.pinned (OpenSpec.upto framePutsSpec)

/-- 'kibitzerlaw03.FrameGets', WHERE WHAT IT READS IS OF BULK AT MOST 1048576: true; the input reads as it did. -/
def frameGetsUptoRow : OpenClaim := { program := "ytahbcjgbhfkhbaa", sum := "ac789f83b33d9cc347c6f60b1dd9b1be5676e714d390a1a9b561c3e67709ed4a", func := "kibitzer/kibitzerlaw03.FrameGets", spec := "frameGets", apart := false, narrowed := true }
def FrameGetsUptoSaid : Prop := frameGetsUptoRow.holds Try.pinned (OpenSpec.upto frameGetsSpec)

/-- 'kibitzerlaw03.FrameCuts', WHERE WHAT IT READS IS OF BULK AT MOST 1048576: true; the input reads as it did. -/
def frameCutsUptoRow : OpenClaim := { program := "ytahbcjgbhfkhbaa", sum := "ac789f83b33d9cc347c6f60b1dd9b1be5676e714d390a1a9b561c3e67709ed4a", func := "kibitzer/kibitzerlaw03.FrameCuts", spec := "frameCuts", apart := false, narrowed := true }
def FrameCutsUptoSaid : Prop := frameCutsUptoRow.holds Try.pinned (OpenSpec.upto frameCutsSpec)

/-- 'kibitzerlaw03.FrameJoins', WHERE WHAT IT READS IS OF BULK AT MOST 1048576: true; the input reads as it did. -/
def frameJoinsUptoRow : OpenClaim := { program := "ytahbcjgbhfkhbaa", sum := "ac789f83b33d9cc347c6f60b1dd9b1be5676e714d390a1a9b561c3e67709ed4a", func := "kibitzer/kibitzerlaw03.FrameJoins", spec := "frameJoins", apart := false, narrowed := true }
def FrameJoinsUptoSaid : Prop := frameJoinsUptoRow.holds Try.pinned (OpenSpec.upto frameJoinsSpec)

/-- 'kibitzerlaw04.FeedPieces', WHERE WHAT IT READS IS OF BULK AT MOST 1048576: true; the input reads as it did. -/
def feedPiecesUptoRow : OpenClaim := { program := "ytahbcjgbhfkhbaa", sum := "ac789f83b33d9cc347c6f60b1dd9b1be5676e714d390a1a9b561c3e67709ed4a", func := "kibitzer/kibitzerlaw04.FeedPieces", spec := "feedPieces", apart := false, narrowed := true }
def FeedPiecesUptoSaid : Prop := feedPiecesUptoRow.holds Try.pinned (OpenSpec.upto feedPiecesSpec)

/-- 'kibitzerlaw04.FeedFrames', WHERE WHAT IT READS IS OF BULK AT MOST 1048576: true; the input reads as it did. -/
def feedFramesUptoRow : OpenClaim := { program := "ytahbcjgbhfkhbaa", sum := "ac789f83b33d9cc347c6f60b1dd9b1be5676e714d390a1a9b561c3e67709ed4a", func := "kibitzer/kibitzerlaw04.FeedFrames", spec := "feedFrames", apart := false, narrowed := true }
def FeedFramesUptoSaid : Prop := feedFramesUptoRow.holds Try.pinned (OpenSpec.upto feedFramesSpec)

/-- 'kibitzerlaw04.FeedBroken', WHERE WHAT IT READS IS OF BULK AT MOST 1048576: true; the input reads as it did. -/
def feedBrokenUptoRow : OpenClaim := { program := "ytahbcjgbhfkhbaa", sum := "ac789f83b33d9cc347c6f60b1dd9b1be5676e714d390a1a9b561c3e67709ed4a", func := "kibitzer/kibitzerlaw04.FeedBroken", spec := "feedBroken", apart := false, narrowed := true }
def FeedBrokenUptoSaid : Prop := feedBrokenUptoRow.holds Try.pinned (OpenSpec.upto feedBrokenSpec)

/-- 'kibitzerlaw05.OutqActs', WHERE WHAT IT READS IS OF BULK AT MOST 1048576: true; the input reads as it did. -/
def outqActsUptoRow : OpenClaim := { program := "ytahbcjgbhfkhbaa", sum := "ac789f83b33d9cc347c6f60b1dd9b1be5676e714d390a1a9b561c3e67709ed4a", func := "kibitzer/kibitzerlaw05.OutqActs", spec := "outqActs", apart := false, narrowed := true }
def OutqActsUptoSaid : Prop := outqActsUptoRow.holds Try.pinned (OpenSpec.upto outqActsSpec)

/-- 'kibitzerlaw05.OutqWhole', WHERE WHAT IT READS IS OF BULK AT MOST 1048576: true; the input reads as it did. -/
def outqWholeUptoRow : OpenClaim := { program := "ytahbcjgbhfkhbaa", sum := "ac789f83b33d9cc347c6f60b1dd9b1be5676e714d390a1a9b561c3e67709ed4a", func := "kibitzer/kibitzerlaw05.OutqWhole", spec := "outqWhole", apart := false, narrowed := true }
def OutqWholeUptoSaid : Prop := outqWholeUptoRow.holds Try.pinned (OpenSpec.upto outqWholeSpec)

end Rows
end Go.Proofs.Ytahbcjgbhfkhbaa
