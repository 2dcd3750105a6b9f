/-
  No cell of these rows narrows 'for every input' (looked for: loops, veiled, ifaces, maps, wideKeys, modest, calm, conditions, laid).
  DERIVED. THE GIVEN ROWS OF THIS SEAT. 7 by the template 'for every input the law returns true; each argument reads behind the call as it read before'; 0 by the template 'total and deterministic' (their statements: YtaeafnpldlcdnaaTotals.lean).
  GIVEN WITH THE SEED: the statements are not yours to turn. If you find one false, say at which input.
  Laid BY PROGRAM, IN A SANDBOX (cutbox-rows.mjs): the forced cells as the released guide's own fill.sh prints them over the translation 26e054e7aa62540e… (all of the seat's roots in one cut). By AI agents, Wed Nov 11 2026. No macro, syntax, notation, axiom, sorry.
-/
import Derived.Test.YtaeafnpldlcdnaaChecked
import GoSem.Claim
import GoSem.ClaimJoined
import GoSem.ClaimMapViews
import Derived.JoinedTies
import Derived.KernelRfl
namespace Go.Proofs.Ytaeafnpldlcdnaa
/- THE CELL 'sum', in the pinned program and in every row, IS THE sha256 OF THE DUMP (.gsa) THAT YtaeafnpldlcdnaaProg.lean LOADS. Nothing in Lean hashes anything: it is a label: what it is worth is what the hold of that sum in a sandbox is worth. -/
noncomputable def Try.pinned : Pinned := { name := "ytaeafnpldlcdnaa", sum := "26e054e7aa62540ed57e307c370fe6873f88168722622144acf66c7a69067c79", checked := Try.checked }
namespace Rows
def none {H : Type} : Left H := { results := [], args := [] }

/-- 'kibitzerlaw10.FloorWaits': WHATEVER THE INPUT: true; the input reads as it did. -/
def floorWaitsSpec : ChangeSpec := { name := "floorWaits", fn := fun _ => fun
  | [d1, d2, d3] => { results := [.lit (.bool true)], args := [d1, d2, d3] }
  | _ => none }
def floorWaitsRow : OpenClaim := { program := "ytaeafnpldlcdnaa", sum := "26e054e7aa62540ed57e307c370fe6873f88168722622144acf66c7a69067c79", func := "kibitzer/kibitzerlaw10.FloorWaits", spec := "floorWaits", unfollowed := true, recurses := true, apart := false }
def FloorWaitsSaid : Prop := floorWaitsRow.holds Try.pinned (OpenSpec.ofChange floorWaitsSpec)

/-- ITS FALSE NEIGHBOUR: 'it returns false'. Refute it at one input. -/
def floorWaitsWrong : ChangeSpec := { name := "floorWaits", fn := fun _ => fun
  | [d1, d2, d3] => { results := [.lit (.bool false)], args := [d1, d2, d3] }
  | _ => none }
def FloorWaitsWrongFalsely : Prop := floorWaitsRow.holds Try.pinned (OpenSpec.ofChange floorWaitsWrong)

/-- 'kibitzerlaw10.FloorOrder': WHATEVER THE INPUT: true; the input reads as it did. -/
def floorOrderSpec : ChangeSpec := { name := "floorOrder", fn := fun _ => fun
  | [d1, d2] => { results := [.lit (.bool true)], args := [d1, d2] }
  | _ => none }
def floorOrderRow : OpenClaim := { program := "ytaeafnpldlcdnaa", sum := "26e054e7aa62540ed57e307c370fe6873f88168722622144acf66c7a69067c79", func := "kibitzer/kibitzerlaw10.FloorOrder", spec := "floorOrder", unfollowed := true, recurses := true, apart := false }
def FloorOrderSaid : Prop := floorOrderRow.holds Try.pinned (OpenSpec.ofChange floorOrderSpec)

/-- ITS FALSE NEIGHBOUR: 'it returns false'. Refute it at one input. -/
def floorOrderWrong : ChangeSpec := { name := "floorOrder", fn := fun _ => fun
  | [d1, d2] => { results := [.lit (.bool false)], args := [d1, d2] }
  | _ => none }
def FloorOrderWrongFalsely : Prop := floorOrderRow.holds Try.pinned (OpenSpec.ofChange floorOrderWrong)

/-- 'kibitzerlaw10.FloorOne': WHATEVER THE INPUT: true; the input reads as it did. -/
def floorOneSpec : ChangeSpec := { name := "floorOne", fn := fun _ => fun
  | [d1, d2] => { results := [.lit (.bool true)], args := [d1, d2] }
  | _ => none }
def floorOneRow : OpenClaim := { program := "ytaeafnpldlcdnaa", sum := "26e054e7aa62540ed57e307c370fe6873f88168722622144acf66c7a69067c79", func := "kibitzer/kibitzerlaw10.FloorOne", spec := "floorOne", unfollowed := true, recurses := true, apart := false }
def FloorOneSaid : Prop := floorOneRow.holds Try.pinned (OpenSpec.ofChange floorOneSpec)

/-- ITS FALSE NEIGHBOUR: 'it returns false'. Refute it at one input. -/
def floorOneWrong : ChangeSpec := { name := "floorOne", fn := fun _ => fun
  | [d1, d2] => { results := [.lit (.bool false)], args := [d1, d2] }
  | _ => none }
def FloorOneWrongFalsely : Prop := floorOneRow.holds Try.pinned (OpenSpec.ofChange floorOneWrong)

/-- 'kibitzerlaw10.FloorActs': WHATEVER THE INPUT: true; the input reads as it did. -/
def floorActsSpec : ChangeSpec := { name := "floorActs", fn := fun _ => fun
  | [d1, d2] => { results := [.lit (.bool true)], args := [d1, d2] }
  | _ => none }
def floorActsRow : OpenClaim := { program := "ytaeafnpldlcdnaa", sum := "26e054e7aa62540ed57e307c370fe6873f88168722622144acf66c7a69067c79", func := "kibitzer/kibitzerlaw10.FloorActs", spec := "floorActs", unfollowed := true, recurses := true, apart := false }
def FloorActsSaid : Prop := floorActsRow.holds Try.pinned (OpenSpec.ofChange floorActsSpec)

/-- ITS FALSE NEIGHBOUR: 'it returns false'. Refute it at one input. -/
def floorActsWrong : ChangeSpec := { name := "floorActs", fn := fun _ => fun
  | [d1, d2] => { results := [.lit (.bool false)], args := [d1, d2] }
  | _ => none }
def FloorActsWrongFalsely : Prop := floorActsRow.holds Try.pinned (OpenSpec.ofChange floorActsWrong)

/-- 'kibitzerlaw11.InqEnds': WHATEVER THE INPUT: true; the input reads as it did. -/
def inqEndsSpec : ChangeSpec := { name := "inqEnds", fn := fun _ => fun
  | [d1, d2, d3, d4] => { results := [.lit (.bool true)], args := [d1, d2, d3, d4] }
  | _ => none }
def inqEndsRow : OpenClaim := { program := "ytaeafnpldlcdnaa", sum := "26e054e7aa62540ed57e307c370fe6873f88168722622144acf66c7a69067c79", func := "kibitzer/kibitzerlaw11.InqEnds", spec := "inqEnds", unfollowed := true, recurses := true, apart := false }
def InqEndsSaid : Prop := inqEndsRow.holds Try.pinned (OpenSpec.ofChange inqEndsSpec)

/-- ITS FALSE NEIGHBOUR: 'it returns false'. Refute it at one input. -/
def inqEndsWrong : ChangeSpec := { name := "inqEnds", fn := fun _ => fun
  | [d1, d2, d3, d4] => { results := [.lit (.bool false)], args := [d1, d2, d3, d4] }
  | _ => none }
def InqEndsWrongFalsely : Prop := inqEndsRow.holds Try.pinned (OpenSpec.ofChange inqEndsWrong)

/-- 'kibitzerlaw11.InqWhole': WHATEVER THE INPUT: true; the input reads as it did. -/
def inqWholeSpec : ChangeSpec := { name := "inqWhole", fn := fun _ => fun
  | [d] => { results := [.lit (.bool true)], args := [d] }
  | _ => none }
def inqWholeRow : OpenClaim := { program := "ytaeafnpldlcdnaa", sum := "26e054e7aa62540ed57e307c370fe6873f88168722622144acf66c7a69067c79", func := "kibitzer/kibitzerlaw11.InqWhole", spec := "inqWhole", unfollowed := true, recurses := true, apart := false }
def InqWholeSaid : Prop := inqWholeRow.holds Try.pinned (OpenSpec.ofChange inqWholeSpec)

/-- ITS FALSE NEIGHBOUR: 'it returns false'. Refute it at one input. -/
def inqWholeWrong : ChangeSpec := { name := "inqWhole", fn := fun _ => fun
  | [d] => { results := [.lit (.bool false)], args := [d] }
  | _ => none }
def InqWholeWrongFalsely : Prop := inqWholeRow.holds Try.pinned (OpenSpec.ofChange inqWholeWrong)

/-- 'kibitzerlaw11.InqActs': WHATEVER THE INPUT: true; the input reads as it did. -/
def inqActsSpec : ChangeSpec := { name := "inqActs", fn := fun _ => fun
  | [d1, d2] => { results := [.lit (.bool true)], args := [d1, d2] }
  | _ => none }
def inqActsRow : OpenClaim := { program := "ytaeafnpldlcdnaa", sum := "26e054e7aa62540ed57e307c370fe6873f88168722622144acf66c7a69067c79", func := "kibitzer/kibitzerlaw11.InqActs", spec := "inqActs", unfollowed := true, recurses := true, apart := false }
def InqActsSaid : Prop := inqActsRow.holds Try.pinned (OpenSpec.ofChange inqActsSpec)

/-- ITS FALSE NEIGHBOUR: 'it returns false'. Refute it at one input. -/
def inqActsWrong : ChangeSpec := { name := "inqActs", fn := fun _ => fun
  | [d1, d2] => { results := [.lit (.bool false)], args := [d1, d2] }
  | _ => none }
def InqActsWrongFalsely : Prop := inqActsRow.holds Try.pinned (OpenSpec.ofChange inqActsWrong)

/- THE SECOND FORM. 'bulk': how many values and letters a reading holds, each counted each time it is reached (what is shared counts as often as it is met; a slice's spare places count too). A statement '..UptoSaid' is the law's where the arguments, and the package variables that the reading takes, are together of bulk at most 1048576: NARROWER than '..Said'. Prove '..Said' where nothing that the law and all that it calls make is longer than what came in: it says more and counts as full. Else prove '..UptoSaid'. A law counts once. -/
mutual
def uptoBulk {H : Type} : DataW H → Nat
  | .lit (.string bytes) => bytes.length + 1
  | .lit _ => 1
  | .nil => 1
  | .ptr d => uptoBulk d + 1
  | .slice elems spare => uptoBulkAll elems + uptoBulkAll spare + 1
  | .agg parts => uptoBulkAll parts + 1
  | .iface _ d => uptoBulk d + 1
  | .map entries => uptoBulkEntries entries + 1
  | .held _ => 1
def uptoBulkAll {H : Type} : List (DataW H) → Nat
  | [] => 0
  | d :: r => uptoBulk d + uptoBulkAll r
def uptoBulkEntries {H : Type} : List (Lit × DataW H) → Nat
  | [] => 0
  | x :: r => uptoBulkEntry x + uptoBulkEntries r
def uptoBulkEntry {H : Type} : Lit × DataW H → Nat
  | (.string bytes, d) => bytes.length + uptoBulk d + 1
  | (_, d) => uptoBulk d + 1
 end
def uptoSmall : (H : Type) → List (DataW H) → Bool := fun _ ds => decide (uptoBulkAll ds ≤ 1048576)
def OpenSpec.upto (s : _root_.Go.ChangeSpec) : _root_.Go.OpenSpec := { _root_.Go.OpenSpec.ofChange s with cond := some uptoSmall }

/-- 'kibitzerlaw10.FloorWaits', WHERE WHAT IT READS IS OF BULK AT MOST 1048576: true; the input reads as it did. -/
def floorWaitsUptoRow : OpenClaim := { program := "ytaeafnpldlcdnaa", sum := "26e054e7aa62540ed57e307c370fe6873f88168722622144acf66c7a69067c79", func := "kibitzer/kibitzerlaw10.FloorWaits", spec := "floorWaits", unfollowed := true, recurses := true, apart := false, narrowed := true }
def FloorWaitsUptoSaid : Prop := floorWaitsUptoRow.holds Try.pinned (OpenSpec.upto floorWaitsSpec)

/-- 'kibitzerlaw10.FloorOrder', WHERE WHAT IT READS IS OF BULK AT MOST 1048576: true; the input reads as it did. -/
def floorOrderUptoRow : OpenClaim := { program := "ytaeafnpldlcdnaa", sum := "26e054e7aa62540ed57e307c370fe6873f88168722622144acf66c7a69067c79", func := "kibitzer/kibitzerlaw10.FloorOrder", spec := "floorOrder", unfollowed := true, recurses := true, apart := false, narrowed := true }
def FloorOrderUptoSaid : Prop := floorOrderUptoRow.holds Try.pinned (OpenSpec.upto floorOrderSpec)

/-- 'kibitzerlaw10.FloorOne', WHERE WHAT IT READS IS OF BULK AT MOST 1048576: true; the input reads as it did. -/
def floorOneUptoRow : OpenClaim := { program := "ytaeafnpldlcdnaa", sum := "26e054e7aa62540ed57e307c370fe6873f88168722622144acf66c7a69067c79", func := "kibitzer/kibitzerlaw10.FloorOne", spec := "floorOne", unfollowed := true, recurses := true, apart := false, narrowed := true }
def FloorOneUptoSaid : Prop := floorOneUptoRow.holds Try.pinned (OpenSpec.upto floorOneSpec)

/-- 'kibitzerlaw10.FloorActs', WHERE WHAT IT READS IS OF BULK AT MOST 1048576: true; the input reads as it did. -/
def floorActsUptoRow : OpenClaim := { program := "ytaeafnpldlcdnaa", sum := "26e054e7aa62540ed57e307c370fe6873f88168722622144acf66c7a69067c79", func := "kibitzer/kibitzerlaw10.FloorActs", spec := "floorActs", unfollowed := true, recurses := true, apart := false, narrowed := true }
def FloorActsUptoSaid : Prop := floorActsUptoRow.holds Try.pinned (OpenSpec.upto floorActsSpec)

/-- 'kibitzerlaw11.InqEnds', WHERE WHAT IT READS IS OF BULK AT MOST 1048576: true; the input reads as it did. -/
def inqEndsUptoRow : OpenClaim := { program := "ytaeafnpldlcdnaa", sum := "26e054e7aa62540ed57e307c370fe6873f88168722622144acf66c7a69067c79", func := "kibitzer/kibitzerlaw11.InqEnds", spec := "inqEnds", unfollowed := true, recurses := true, apart := false, narrowed := true }
def InqEndsUptoSaid : Prop := inqEndsUptoRow.holds Try.pinned (OpenSpec.upto inqEndsSpec)

/-- 'kibitzerlaw11.InqWhole', WHERE WHAT IT READS IS OF BULK AT MOST 1048576: true; the input reads as it did. -/
def inqWholeUptoRow : OpenClaim := { program := "ytaeafnpldlcdnaa", sum := "26e054e7aa62540ed57e307c370fe6873f88168722622144acf66c7a69067c79", func := "kibitzer/kibitzerlaw11.InqWhole", spec := "inqWhole", unfollowed := true, recurses := true, apart := false, narrowed := true }
def InqWholeUptoSaid : Prop := inqWholeUptoRow.holds Try.pinned (OpenSpec.upto inqWholeSpec)

/-- 'kibitzerlaw11.InqActs', WHERE WHAT IT READS IS OF BULK AT MOST 1048576: true; the input reads as it did. -/
def inqActsUptoRow : OpenClaim := { program := "ytaeafnpldlcdnaa", sum := "26e054e7aa62540ed57e307c370fe6873f88168722622144acf66c7a69067c79", func := "kibitzer/kibitzerlaw11.InqActs", spec := "inqActs", unfollowed := true, recurses := true, apart := false, narrowed := true }
def InqActsUptoSaid : Prop := inqActsUptoRow.holds Try.pinned (OpenSpec.upto inqActsSpec)

end Rows
end Go.Proofs.Ytaeafnpldlcdnaa
