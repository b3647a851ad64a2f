/-
  DERIVED. GIVEN WITH THE SEED: THE CARDS: each row of YtdehdgbdcfkpbaaGreatDoorRows.lean that lists a variable, with what it lists TIED to the program's text (the seventh form; the later family's looks); each row that meets fmt, with fmt's text TOLD by the authors' own Lean function (tested against real Go, not proved from fmt's source: count such statements apart). THE CARD IS WHAT COUNTS. Prove the row's statement (the work); the ties are given (YtdehdgbdcfkpbaaGreatDoorTie.lean); close each card by the builder's one call (the guide's Derived/Test/ToyasCard.lean, 'card_holds'). Laid BY PROGRAM, IN A SANDBOX (cutbox-door.mjs). By AI agents, Wed Nov 11 2026. No macro, syntax, notation, axiom, sorry.
-/
import Derived.Test.YtdehdgbdcfkpbaaGreatDoorRows
import GoSem.ClaimSeven
namespace Go.Proofs.YtdehdgbdcfkpbaaGreatDoor
namespace Rows

/-- THE TIED CARD OF 'nsglaw11.TopologyParses'. -/
def topologyParsesCard : Claim7 := { stood := { row := topologyParsesRow, standIns := [], harness := (true, "2be2f03a9c5c38e61ece54f38ccbf2125c12534e17ea7248e05208d70086c0d8"), looks := false }, kinds := [], alts := [], laidByText := true, laidKinds := [.data, .pinned], laidTests := true, laidLooks := .later }
def TopologyParsesCardSaid : Prop := Claim7.holds Tryz.pinned (.plain (OpenSpec.ofChange topologyParsesSpec)) topologyParsesCard

/-- THE TIED CARD OF 'nsglaw11.TopologyOwners'. -/
def topologyOwnersCard : Claim7 := { stood := { row := topologyOwnersRow, standIns := [], harness := (true, "2be2f03a9c5c38e61ece54f38ccbf2125c12534e17ea7248e05208d70086c0d8"), looks := false }, kinds := [], alts := [], laidByText := true, laidKinds := [.data, .pinned], laidTests := true, laidLooks := .later }
def TopologyOwnersCardSaid : Prop := Claim7.holds Tryz.pinned (.plain (OpenSpec.ofChange topologyOwnersSpec)) topologyOwnersCard

/-- THE TIED CARD OF 'nsglaw11.TopologyOrder'. -/
def topologyOrderCard : Claim7 := { stood := { row := topologyOrderRow, standIns := [], harness := (true, "2be2f03a9c5c38e61ece54f38ccbf2125c12534e17ea7248e05208d70086c0d8"), looks := false }, kinds := [], alts := [], laidByText := true, laidKinds := [.data, .pinned], laidTests := true, laidLooks := .later }
def TopologyOrderCardSaid : Prop := Claim7.holds Tryz.pinned (.plain (OpenSpec.ofChange topologyOrderSpec)) topologyOrderCard

/-- THE TIED CARD OF 'nsglaw11.TopologyFinds'. -/
def topologyFindsCard : Claim7 := { stood := { row := topologyFindsRow, standIns := [], harness := (true, "2be2f03a9c5c38e61ece54f38ccbf2125c12534e17ea7248e05208d70086c0d8"), looks := false }, kinds := [], alts := [], laidByText := true, laidKinds := [.data, .pinned], laidTests := true, laidLooks := .later }
def TopologyFindsCardSaid : Prop := Claim7.holds Tryz.pinned (.plain (OpenSpec.ofChange topologyFindsSpec)) topologyFindsCard

/-- THE TIED CARD OF 'nsglaw11.TopologyReads'. -/
def topologyReadsCard : Claim7 := { stood := { row := topologyReadsRow, standIns := [], harness := (true, "2be2f03a9c5c38e61ece54f38ccbf2125c12534e17ea7248e05208d70086c0d8"), looks := false }, kinds := [], alts := [], laidByText := true, laidKinds := [.data, .data, .data, .data, .pinned], laidTests := true, laidLooks := .later }
def TopologyReadsCardSaid : Prop := Claim7.holds Tryz.pinned (.plain (OpenSpec.ofChange topologyReadsSpec)) topologyReadsCard

/-- THE TIED CARD OF 'nsglaw11.TopologyRoundTrip'. -/
def topologyRoundTripCard : Claim7 := { stood := { row := topologyRoundTripRow, standIns := [], harness := (true, "2be2f03a9c5c38e61ece54f38ccbf2125c12534e17ea7248e05208d70086c0d8"), looks := false }, kinds := [], alts := [], laidByText := true, laidKinds := [.data, .data, .data, .data, .pinned], laidTests := true, laidLooks := .later }
def TopologyRoundTripCardSaid : Prop := Claim7.holds Tryz.pinned (.plain (OpenSpec.ofChange topologyRoundTripSpec)) topologyRoundTripCard

/-- THE TIED CARD OF 'nsglaw11.TopologyAccepts'. -/
def topologyAcceptsCard : Claim7 := { stood := { row := topologyAcceptsRow, standIns := [], harness := (true, "2be2f03a9c5c38e61ece54f38ccbf2125c12534e17ea7248e05208d70086c0d8"), looks := false }, kinds := [], alts := [], laidByText := true, laidKinds := [.data, .data, .data, .data, .pinned], laidTests := true, laidLooks := .later }
def TopologyAcceptsCardSaid : Prop := Claim7.holds Tryz.pinned (.plain (OpenSpec.ofChange topologyAcceptsSpec)) topologyAcceptsCard

/-- THE SECOND FORM's CARD OF 'nsglaw11.TopologyParses'. -/
def topologyParsesUptoCard : Claim7 := { stood := { row := topologyParsesUptoRow, standIns := [], harness := (true, "2be2f03a9c5c38e61ece54f38ccbf2125c12534e17ea7248e05208d70086c0d8"), looks := false }, kinds := [], alts := [], laidByText := true, laidKinds := [.data, .pinned], laidTests := true, laidLooks := .later }
def TopologyParsesUptoCardSaid : Prop := Claim7.holds Tryz.pinned (.plain (OpenSpec.upto topologyParsesSpec)) topologyParsesUptoCard

/-- THE SECOND FORM's CARD OF 'nsglaw11.TopologyOwners'. -/
def topologyOwnersUptoCard : Claim7 := { stood := { row := topologyOwnersUptoRow, standIns := [], harness := (true, "2be2f03a9c5c38e61ece54f38ccbf2125c12534e17ea7248e05208d70086c0d8"), looks := false }, kinds := [], alts := [], laidByText := true, laidKinds := [.data, .pinned], laidTests := true, laidLooks := .later }
def TopologyOwnersUptoCardSaid : Prop := Claim7.holds Tryz.pinned (.plain (OpenSpec.upto topologyOwnersSpec)) topologyOwnersUptoCard

/-- THE SECOND FORM's CARD OF 'nsglaw11.TopologyOrder'. -/
def topologyOrderUptoCard : Claim7 := { stood := { row := topologyOrderUptoRow, standIns := [], harness := (true, "2be2f03a9c5c38e61ece54f38ccbf2125c12534e17ea7248e05208d70086c0d8"), looks := false }, kinds := [], alts := [], laidByText := true, laidKinds := [.data, .pinned], laidTests := true, laidLooks := .later }
def TopologyOrderUptoCardSaid : Prop := Claim7.holds Tryz.pinned (.plain (OpenSpec.upto topologyOrderSpec)) topologyOrderUptoCard

/-- THE SECOND FORM's CARD OF 'nsglaw11.TopologyFinds'. -/
def topologyFindsUptoCard : Claim7 := { stood := { row := topologyFindsUptoRow, standIns := [], harness := (true, "2be2f03a9c5c38e61ece54f38ccbf2125c12534e17ea7248e05208d70086c0d8"), looks := false }, kinds := [], alts := [], laidByText := true, laidKinds := [.data, .pinned], laidTests := true, laidLooks := .later }
def TopologyFindsUptoCardSaid : Prop := Claim7.holds Tryz.pinned (.plain (OpenSpec.upto topologyFindsSpec)) topologyFindsUptoCard

/-- THE SECOND FORM's CARD OF 'nsglaw11.TopologyReads'. -/
def topologyReadsUptoCard : Claim7 := { stood := { row := topologyReadsUptoRow, standIns := [], harness := (true, "2be2f03a9c5c38e61ece54f38ccbf2125c12534e17ea7248e05208d70086c0d8"), looks := false }, kinds := [], alts := [], laidByText := true, laidKinds := [.data, .data, .data, .data, .pinned], laidTests := true, laidLooks := .later }
def TopologyReadsUptoCardSaid : Prop := Claim7.holds Tryz.pinned (.plain (OpenSpec.upto topologyReadsSpec)) topologyReadsUptoCard

/-- THE SECOND FORM's CARD OF 'nsglaw11.TopologyRoundTrip'. -/
def topologyRoundTripUptoCard : Claim7 := { stood := { row := topologyRoundTripUptoRow, standIns := [], harness := (true, "2be2f03a9c5c38e61ece54f38ccbf2125c12534e17ea7248e05208d70086c0d8"), looks := false }, kinds := [], alts := [], laidByText := true, laidKinds := [.data, .data, .data, .data, .pinned], laidTests := true, laidLooks := .later }
def TopologyRoundTripUptoCardSaid : Prop := Claim7.holds Tryz.pinned (.plain (OpenSpec.upto topologyRoundTripSpec)) topologyRoundTripUptoCard

/-- THE SECOND FORM's CARD OF 'nsglaw11.TopologyAccepts'. -/
def topologyAcceptsUptoCard : Claim7 := { stood := { row := topologyAcceptsUptoRow, standIns := [], harness := (true, "2be2f03a9c5c38e61ece54f38ccbf2125c12534e17ea7248e05208d70086c0d8"), looks := false }, kinds := [], alts := [], laidByText := true, laidKinds := [.data, .data, .data, .data, .pinned], laidTests := true, laidLooks := .later }
def TopologyAcceptsUptoCardSaid : Prop := Claim7.holds Tryz.pinned (.plain (OpenSpec.upto topologyAcceptsSpec)) topologyAcceptsUptoCard
end Rows
end Go.Proofs.YtdehdgbdcfkpbaaGreatDoor
