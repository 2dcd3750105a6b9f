/-
  DERIVED. GIVEN WITH THE SEED: THE CARDS: each row of YtaeafnpldlcdnaaDoorRows.lean that lists a variable, with what it lists TIED to the program's text (the seventh form; the later family's looks); each row that meets fmt, with fmt's text TOLD by the authors' own Lean function (tested against real Go, not proved from fmt's source: count such statements apart). THE CARD IS WHAT COUNTS. Prove the row's statement (the work); the ties are given (YtaeafnpldlcdnaaDoorTie.lean); close each card by the builder's one call (the guide's Derived/Test/ToyasCard.lean, 'card_holds'). Laid BY PROGRAM, IN A SANDBOX (cutbox-door.mjs). By AI agents, Wed Nov 11 2026. No macro, syntax, notation, axiom, sorry.
-/
import Derived.Test.YtaeafnpldlcdnaaDoorRows
import GoSem.ClaimSeven
namespace Go.Proofs.YtaeafnpldlcdnaaDoor
namespace Rows

/-- THE TIED CARD OF 'kibitzerlaw09.OrderTexts'. -/
def orderTextsCard : Claim7 := { stood := { row := orderTextsRow, standIns := [], harness := (true, "912311e78d0920c6313a9091eed070dc12d56e2a15b78861e9ed0badcca27702"), looks := true }, kinds := [], alts := [], laidByText := true, laidKinds := [.data, .data, .data, .sentinel, .sentinel], laidTests := true, laidLooks := .later }
def OrderTextsCardSaid : Prop := Claim7.holds Tryd.pinned (.plain (OpenSpec.ofChange orderTextsSpec)) orderTextsCard

/-- THE TIED CARD OF 'kibitzerlaw09.OrderParses'. -/
def orderParsesCard : Claim7 := { stood := { row := orderParsesRow, standIns := [], harness := (true, "912311e78d0920c6313a9091eed070dc12d56e2a15b78861e9ed0badcca27702"), looks := true }, kinds := [], alts := [], laidByText := true, laidKinds := [.data, .data, .data, .sentinel, .sentinel], laidTests := true, laidLooks := .later }
def OrderParsesCardSaid : Prop := Claim7.holds Tryd.pinned (.plain (OpenSpec.ofChange orderParsesSpec)) orderParsesCard

/-- THE TIED CARD OF 'kibitzerlaw09.OrderApart'. -/
def orderApartCard : Claim7 := { stood := { row := orderApartRow, standIns := [], harness := (true, "912311e78d0920c6313a9091eed070dc12d56e2a15b78861e9ed0badcca27702"), looks := true }, kinds := [], alts := [], laidByText := true, laidKinds := [.data, .data, .data, .sentinel, .sentinel], laidTests := true, laidLooks := .later }
def OrderApartCardSaid : Prop := Claim7.holds Tryd.pinned (.plain (OpenSpec.ofChange orderApartSpec)) orderApartCard

/-- THE SECOND FORM's CARD OF 'kibitzerlaw09.OrderTexts'. -/
def orderTextsUptoCard : Claim7 := { stood := { row := orderTextsUptoRow, standIns := [], harness := (true, "912311e78d0920c6313a9091eed070dc12d56e2a15b78861e9ed0badcca27702"), looks := true }, kinds := [], alts := [], laidByText := true, laidKinds := [.data, .data, .data, .sentinel, .sentinel], laidTests := true, laidLooks := .later }
def OrderTextsUptoCardSaid : Prop := Claim7.holds Tryd.pinned (.plain (OpenSpec.upto orderTextsSpec)) orderTextsUptoCard

/-- THE SECOND FORM's CARD OF 'kibitzerlaw09.OrderParses'. -/
def orderParsesUptoCard : Claim7 := { stood := { row := orderParsesUptoRow, standIns := [], harness := (true, "912311e78d0920c6313a9091eed070dc12d56e2a15b78861e9ed0badcca27702"), looks := true }, kinds := [], alts := [], laidByText := true, laidKinds := [.data, .data, .data, .sentinel, .sentinel], laidTests := true, laidLooks := .later }
def OrderParsesUptoCardSaid : Prop := Claim7.holds Tryd.pinned (.plain (OpenSpec.upto orderParsesSpec)) orderParsesUptoCard

/-- THE SECOND FORM's CARD OF 'kibitzerlaw09.OrderApart'. -/
def orderApartUptoCard : Claim7 := { stood := { row := orderApartUptoRow, standIns := [], harness := (true, "912311e78d0920c6313a9091eed070dc12d56e2a15b78861e9ed0badcca27702"), looks := true }, kinds := [], alts := [], laidByText := true, laidKinds := [.data, .data, .data, .sentinel, .sentinel], laidTests := true, laidLooks := .later }
def OrderApartUptoCardSaid : Prop := Claim7.holds Tryd.pinned (.plain (OpenSpec.upto orderApartSpec)) orderApartUptoCard
end Rows
end Go.Proofs.YtaeafnpldlcdnaaDoor
