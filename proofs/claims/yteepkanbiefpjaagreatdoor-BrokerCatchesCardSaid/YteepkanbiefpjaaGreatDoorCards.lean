/-
  DERIVED. GIVEN WITH THE SEED: THE CARDS: each row of YteepkanbiefpjaaGreatDoorRows.lean that lists a variable, with what it lists TIED to the program's text (the seventh form; the later family's looks); each row that meets fmt, with fmt's text TOLD by the authors' own Lean function (tested against real Go, not proved from fmt's source: count such statements apart). THE CARD IS WHAT COUNTS. Prove the row's statement (the work); the ties are given (YteepkanbiefpjaaGreatDoorTie.lean); close each card by the builder's one call (the guide's Derived/Test/ToyasCard.lean, 'card_holds'). Laid BY PROGRAM, IN A SANDBOX (cutbox-door.mjs). By AI agents, Wed Nov 11 2026. No macro, syntax, notation, axiom, sorry.
-/
import Derived.Test.YteepkanbiefpjaaGreatDoorRows
import GoSem.ClaimSeven
namespace Go.Proofs.YteepkanbiefpjaaGreatDoor
namespace Rows

/-- THE TIED CARD OF 'kibitzerlaw14.BrokerDenied'. -/
def brokerDeniedCard : Claim7 := { stood := { row := brokerDeniedRow, standIns := [], harness := (true, "6f47cf710ffff434242f3b5bd9e62eb98abbc0d20c83fc567fd234dfd24d5ca3"), looks := true }, kinds := [], alts := [], laidByText := true, laidKinds := [.data, .data, .data, .sentinel, .sentinel], laidTests := true, laidLooks := .later }
def BrokerDeniedCardSaid : Prop := Claim7.holds Tryz.pinned (.plain (OpenSpec.ofChange brokerDeniedSpec)) brokerDeniedCard

/-- THE TIED CARD OF 'kibitzerlaw14.BrokerFresh'. -/
def brokerFreshCard : Claim7 := { stood := { row := brokerFreshRow, standIns := [], harness := (true, "6f47cf710ffff434242f3b5bd9e62eb98abbc0d20c83fc567fd234dfd24d5ca3"), looks := true }, kinds := [], alts := [], laidByText := true, laidKinds := [.data, .data, .data, .sentinel, .sentinel], laidTests := true, laidLooks := .later }
def BrokerFreshCardSaid : Prop := Claim7.holds Tryz.pinned (.plain (OpenSpec.ofChange brokerFreshSpec)) brokerFreshCard

/-- THE TIED CARD OF 'kibitzerlaw14.BrokerRoles'. -/
def brokerRolesCard : Claim7 := { stood := { row := brokerRolesRow, standIns := [], harness := (true, "6f47cf710ffff434242f3b5bd9e62eb98abbc0d20c83fc567fd234dfd24d5ca3"), looks := true }, kinds := [], alts := [], laidByText := true, laidKinds := [.data, .data, .data, .sentinel, .sentinel], laidTests := true, laidLooks := .later }
def BrokerRolesCardSaid : Prop := Claim7.holds Tryz.pinned (.plain (OpenSpec.ofChange brokerRolesSpec)) brokerRolesCard

/-- THE TIED CARD OF 'kibitzerlaw14.BrokerWaits'. -/
def brokerWaitsCard : Claim7 := { stood := { row := brokerWaitsRow, standIns := [], harness := (true, "6f47cf710ffff434242f3b5bd9e62eb98abbc0d20c83fc567fd234dfd24d5ca3"), looks := true }, kinds := [], alts := [], laidByText := true, laidKinds := [.data, .data, .data, .sentinel, .sentinel], laidTests := true, laidLooks := .later }
def BrokerWaitsCardSaid : Prop := Claim7.holds Tryz.pinned (.plain (OpenSpec.ofChange brokerWaitsSpec)) brokerWaitsCard

/-- THE TIED CARD OF 'kibitzerlaw14.BrokerIdle'. -/
def brokerIdleCard : Claim7 := { stood := { row := brokerIdleRow, standIns := [], harness := (true, "6f47cf710ffff434242f3b5bd9e62eb98abbc0d20c83fc567fd234dfd24d5ca3"), looks := true }, kinds := [], alts := [], laidByText := true, laidKinds := [.data, .data, .data, .sentinel, .sentinel], laidTests := true, laidLooks := .later }
def BrokerIdleCardSaid : Prop := Claim7.holds Tryz.pinned (.plain (OpenSpec.ofChange brokerIdleSpec)) brokerIdleCard

/-- THE TIED CARD OF 'kibitzerlaw14.BrokerCatches'. -/
def brokerCatchesCard : Claim7 := { stood := { row := brokerCatchesRow, standIns := [], harness := (true, "6f47cf710ffff434242f3b5bd9e62eb98abbc0d20c83fc567fd234dfd24d5ca3"), looks := true }, kinds := [], alts := [], laidByText := true, laidKinds := [.data, .data, .data, .sentinel, .sentinel], laidTests := true, laidLooks := .later }
def BrokerCatchesCardSaid : Prop := Claim7.holds Tryz.pinned (.plain (OpenSpec.ofChange brokerCatchesSpec)) brokerCatchesCard

/-- THE TIED CARD OF 'kibitzerlaw14.BrokerReplay'. -/
def brokerReplayCard : Claim7 := { stood := { row := brokerReplayRow, standIns := [], harness := (true, "6f47cf710ffff434242f3b5bd9e62eb98abbc0d20c83fc567fd234dfd24d5ca3"), looks := true }, kinds := [], alts := [], laidByText := true, laidKinds := [.data, .data, .data, .sentinel, .sentinel], laidTests := true, laidLooks := .later }
def BrokerReplayCardSaid : Prop := Claim7.holds Tryz.pinned (.plain (OpenSpec.ofChange brokerReplaySpec)) brokerReplayCard

/-- THE TIED CARD OF 'kibitzerlaw14.BrokerEvicts'. -/
def brokerEvictsCard : Claim7 := { stood := { row := brokerEvictsRow, standIns := [], harness := (true, "6f47cf710ffff434242f3b5bd9e62eb98abbc0d20c83fc567fd234dfd24d5ca3"), looks := true }, kinds := [], alts := [], laidByText := true, laidKinds := [.data, .data, .data, .sentinel, .sentinel], laidTests := true, laidLooks := .later }
def BrokerEvictsCardSaid : Prop := Claim7.holds Tryz.pinned (.plain (OpenSpec.ofChange brokerEvictsSpec)) brokerEvictsCard

/-- THE TIED CARD OF 'kibitzerlaw14.BrokerExit'. -/
def brokerExitCard : Claim7 := { stood := { row := brokerExitRow, standIns := [], harness := (true, "6f47cf710ffff434242f3b5bd9e62eb98abbc0d20c83fc567fd234dfd24d5ca3"), looks := true }, kinds := [], alts := [], laidByText := true, laidKinds := [.data, .data, .data, .sentinel, .sentinel], laidTests := true, laidLooks := .later }
def BrokerExitCardSaid : Prop := Claim7.holds Tryz.pinned (.plain (OpenSpec.ofChange brokerExitSpec)) brokerExitCard

/-- THE TIED CARD OF 'kibitzerlaw14.BrokerApart'. -/
def brokerApartCard : Claim7 := { stood := { row := brokerApartRow, standIns := [], harness := (true, "6f47cf710ffff434242f3b5bd9e62eb98abbc0d20c83fc567fd234dfd24d5ca3"), looks := true }, kinds := [], alts := [], laidByText := true, laidKinds := [.data, .data, .data, .sentinel, .sentinel], laidTests := true, laidLooks := .later }
def BrokerApartCardSaid : Prop := Claim7.holds Tryz.pinned (.plain (OpenSpec.ofChange brokerApartSpec)) brokerApartCard

/-- THE TIED CARD OF 'kibitzerlaw14.BrokerFloor'. -/
def brokerFloorCard : Claim7 := { stood := { row := brokerFloorRow, standIns := [], harness := (true, "6f47cf710ffff434242f3b5bd9e62eb98abbc0d20c83fc567fd234dfd24d5ca3"), looks := true }, kinds := [], alts := [], laidByText := true, laidKinds := [.data, .data, .data, .sentinel, .sentinel], laidTests := true, laidLooks := .later }
def BrokerFloorCardSaid : Prop := Claim7.holds Tryz.pinned (.plain (OpenSpec.ofChange brokerFloorSpec)) brokerFloorCard

/-- THE TIED CARD OF 'kibitzerlaw14.BrokerBounds'. -/
def brokerBoundsCard : Claim7 := { stood := { row := brokerBoundsRow, standIns := [], harness := (true, "6f47cf710ffff434242f3b5bd9e62eb98abbc0d20c83fc567fd234dfd24d5ca3"), looks := true }, kinds := [], alts := [], laidByText := true, laidKinds := [.data, .data, .data, .sentinel, .sentinel], laidTests := true, laidLooks := .later }
def BrokerBoundsCardSaid : Prop := Claim7.holds Tryz.pinned (.plain (OpenSpec.ofChange brokerBoundsSpec)) brokerBoundsCard

/-- THE SECOND FORM's CARD OF 'kibitzerlaw14.BrokerDenied'. -/
def brokerDeniedUptoCard : Claim7 := { stood := { row := brokerDeniedUptoRow, standIns := [], harness := (true, "6f47cf710ffff434242f3b5bd9e62eb98abbc0d20c83fc567fd234dfd24d5ca3"), looks := true }, kinds := [], alts := [], laidByText := true, laidKinds := [.data, .data, .data, .sentinel, .sentinel], laidTests := true, laidLooks := .later }
def BrokerDeniedUptoCardSaid : Prop := Claim7.holds Tryz.pinned (.plain (OpenSpec.upto brokerDeniedSpec)) brokerDeniedUptoCard

/-- THE SECOND FORM's CARD OF 'kibitzerlaw14.BrokerFresh'. -/
def brokerFreshUptoCard : Claim7 := { stood := { row := brokerFreshUptoRow, standIns := [], harness := (true, "6f47cf710ffff434242f3b5bd9e62eb98abbc0d20c83fc567fd234dfd24d5ca3"), looks := true }, kinds := [], alts := [], laidByText := true, laidKinds := [.data, .data, .data, .sentinel, .sentinel], laidTests := true, laidLooks := .later }
def BrokerFreshUptoCardSaid : Prop := Claim7.holds Tryz.pinned (.plain (OpenSpec.upto brokerFreshSpec)) brokerFreshUptoCard

/-- THE SECOND FORM's CARD OF 'kibitzerlaw14.BrokerRoles'. -/
def brokerRolesUptoCard : Claim7 := { stood := { row := brokerRolesUptoRow, standIns := [], harness := (true, "6f47cf710ffff434242f3b5bd9e62eb98abbc0d20c83fc567fd234dfd24d5ca3"), looks := true }, kinds := [], alts := [], laidByText := true, laidKinds := [.data, .data, .data, .sentinel, .sentinel], laidTests := true, laidLooks := .later }
def BrokerRolesUptoCardSaid : Prop := Claim7.holds Tryz.pinned (.plain (OpenSpec.upto brokerRolesSpec)) brokerRolesUptoCard

/-- THE SECOND FORM's CARD OF 'kibitzerlaw14.BrokerWaits'. -/
def brokerWaitsUptoCard : Claim7 := { stood := { row := brokerWaitsUptoRow, standIns := [], harness := (true, "6f47cf710ffff434242f3b5bd9e62eb98abbc0d20c83fc567fd234dfd24d5ca3"), looks := true }, kinds := [], alts := [], laidByText := true, laidKinds := [.data, .data, .data, .sentinel, .sentinel], laidTests := true, laidLooks := .later }
def BrokerWaitsUptoCardSaid : Prop := Claim7.holds Tryz.pinned (.plain (OpenSpec.upto brokerWaitsSpec)) brokerWaitsUptoCard

/-- THE SECOND FORM's CARD OF 'kibitzerlaw14.BrokerIdle'. -/
def brokerIdleUptoCard : Claim7 := { stood := { row := brokerIdleUptoRow, standIns := [], harness := (true, "6f47cf710ffff434242f3b5bd9e62eb98abbc0d20c83fc567fd234dfd24d5ca3"), looks := true }, kinds := [], alts := [], laidByText := true, laidKinds := [.data, .data, .data, .sentinel, .sentinel], laidTests := true, laidLooks := .later }
def BrokerIdleUptoCardSaid : Prop := Claim7.holds Tryz.pinned (.plain (OpenSpec.upto brokerIdleSpec)) brokerIdleUptoCard

/-- THE SECOND FORM's CARD OF 'kibitzerlaw14.BrokerCatches'. -/
def brokerCatchesUptoCard : Claim7 := { stood := { row := brokerCatchesUptoRow, standIns := [], harness := (true, "6f47cf710ffff434242f3b5bd9e62eb98abbc0d20c83fc567fd234dfd24d5ca3"), looks := true }, kinds := [], alts := [], laidByText := true, laidKinds := [.data, .data, .data, .sentinel, .sentinel], laidTests := true, laidLooks := .later }
def BrokerCatchesUptoCardSaid : Prop := Claim7.holds Tryz.pinned (.plain (OpenSpec.upto brokerCatchesSpec)) brokerCatchesUptoCard

/-- THE SECOND FORM's CARD OF 'kibitzerlaw14.BrokerReplay'. -/
def brokerReplayUptoCard : Claim7 := { stood := { row := brokerReplayUptoRow, standIns := [], harness := (true, "6f47cf710ffff434242f3b5bd9e62eb98abbc0d20c83fc567fd234dfd24d5ca3"), looks := true }, kinds := [], alts := [], laidByText := true, laidKinds := [.data, .data, .data, .sentinel, .sentinel], laidTests := true, laidLooks := .later }
def BrokerReplayUptoCardSaid : Prop := Claim7.holds Tryz.pinned (.plain (OpenSpec.upto brokerReplaySpec)) brokerReplayUptoCard

/-- THE SECOND FORM's CARD OF 'kibitzerlaw14.BrokerEvicts'. -/
def brokerEvictsUptoCard : Claim7 := { stood := { row := brokerEvictsUptoRow, standIns := [], harness := (true, "6f47cf710ffff434242f3b5bd9e62eb98abbc0d20c83fc567fd234dfd24d5ca3"), looks := true }, kinds := [], alts := [], laidByText := true, laidKinds := [.data, .data, .data, .sentinel, .sentinel], laidTests := true, laidLooks := .later }
def BrokerEvictsUptoCardSaid : Prop := Claim7.holds Tryz.pinned (.plain (OpenSpec.upto brokerEvictsSpec)) brokerEvictsUptoCard

/-- THE SECOND FORM's CARD OF 'kibitzerlaw14.BrokerExit'. -/
def brokerExitUptoCard : Claim7 := { stood := { row := brokerExitUptoRow, standIns := [], harness := (true, "6f47cf710ffff434242f3b5bd9e62eb98abbc0d20c83fc567fd234dfd24d5ca3"), looks := true }, kinds := [], alts := [], laidByText := true, laidKinds := [.data, .data, .data, .sentinel, .sentinel], laidTests := true, laidLooks := .later }
def BrokerExitUptoCardSaid : Prop := Claim7.holds Tryz.pinned (.plain (OpenSpec.upto brokerExitSpec)) brokerExitUptoCard

/-- THE SECOND FORM's CARD OF 'kibitzerlaw14.BrokerApart'. -/
def brokerApartUptoCard : Claim7 := { stood := { row := brokerApartUptoRow, standIns := [], harness := (true, "6f47cf710ffff434242f3b5bd9e62eb98abbc0d20c83fc567fd234dfd24d5ca3"), looks := true }, kinds := [], alts := [], laidByText := true, laidKinds := [.data, .data, .data, .sentinel, .sentinel], laidTests := true, laidLooks := .later }
def BrokerApartUptoCardSaid : Prop := Claim7.holds Tryz.pinned (.plain (OpenSpec.upto brokerApartSpec)) brokerApartUptoCard

/-- THE SECOND FORM's CARD OF 'kibitzerlaw14.BrokerFloor'. -/
def brokerFloorUptoCard : Claim7 := { stood := { row := brokerFloorUptoRow, standIns := [], harness := (true, "6f47cf710ffff434242f3b5bd9e62eb98abbc0d20c83fc567fd234dfd24d5ca3"), looks := true }, kinds := [], alts := [], laidByText := true, laidKinds := [.data, .data, .data, .sentinel, .sentinel], laidTests := true, laidLooks := .later }
def BrokerFloorUptoCardSaid : Prop := Claim7.holds Tryz.pinned (.plain (OpenSpec.upto brokerFloorSpec)) brokerFloorUptoCard

/-- THE SECOND FORM's CARD OF 'kibitzerlaw14.BrokerBounds'. -/
def brokerBoundsUptoCard : Claim7 := { stood := { row := brokerBoundsUptoRow, standIns := [], harness := (true, "6f47cf710ffff434242f3b5bd9e62eb98abbc0d20c83fc567fd234dfd24d5ca3"), looks := true }, kinds := [], alts := [], laidByText := true, laidKinds := [.data, .data, .data, .sentinel, .sentinel], laidTests := true, laidLooks := .later }
def BrokerBoundsUptoCardSaid : Prop := Claim7.holds Tryz.pinned (.plain (OpenSpec.upto brokerBoundsSpec)) brokerBoundsUptoCard
end Rows
end Go.Proofs.YteepkanbiefpjaaGreatDoor
