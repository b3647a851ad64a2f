/-
  DERIVED. GIVEN WITH THE SEED: THE CARDS: each row of YtkaobkjcjodffaaGreatDoorRows.lean that lists a variable, with what it lists TIED to the program's text (the seventh form; the later family's looks); each row that meets fmt, with fmt's text TOLD by the authors' own Lean function (tested against real Go, not proved from fmt's source: count such statements apart). THE CARD IS WHAT COUNTS. Prove the row's statement (the work); the ties are given (YtkaobkjcjodffaaGreatDoorTie.lean); close each card by the builder's one call (the guide's Derived/Test/ToyasCard.lean, 'card_holds'). Laid BY PROGRAM, IN A SANDBOX (cutbox-door.mjs). By AI agents, Wed Nov 11 2026. No macro, syntax, notation, axiom, sorry.
-/
import Derived.Test.YtkaobkjcjodffaaGreatDoorRows
import GoSem.ClaimSeven
namespace Go.Proofs.YtkaobkjcjodffaaGreatDoor
namespace Rows

/-- THE TIED CARD OF 'nsglaw16.IntentParses'. -/
def intentParsesCard : Claim7 := { stood := { row := intentParsesRow, standIns := [], harness := (true, "62c0b9be11b2f550500d3f9420098af978f58f6e9c3a6c2665b687ce57110d36"), looks := false }, kinds := [], alts := [], laidByText := true, laidKinds := [.data, .widerDeep, .pinned], laidTests := true, laidLooks := .later }
def IntentParsesCardSaid : Prop := Claim7.holds Tryz.pinned (.plain (OpenSpec.ofChange intentParsesSpec)) intentParsesCard

/-- THE TIED CARD OF 'nsglaw16.IntentCounts'. -/
def intentCountsCard : Claim7 := { stood := { row := intentCountsRow, standIns := [], harness := (true, "62c0b9be11b2f550500d3f9420098af978f58f6e9c3a6c2665b687ce57110d36"), looks := false }, kinds := [], alts := [], laidByText := true, laidKinds := [.data, .widerDeep, .pinned], laidTests := true, laidLooks := .later }
def IntentCountsCardSaid : Prop := Claim7.holds Tryz.pinned (.plain (OpenSpec.ofChange intentCountsSpec)) intentCountsCard

/-- THE TIED CARD OF 'nsglaw16.IntentOrder'. -/
def intentOrderCard : Claim7 := { stood := { row := intentOrderRow, standIns := [], harness := (true, "62c0b9be11b2f550500d3f9420098af978f58f6e9c3a6c2665b687ce57110d36"), looks := false }, kinds := [], alts := [], laidByText := true, laidKinds := [.data, .widerDeep, .pinned], laidTests := true, laidLooks := .later }
def IntentOrderCardSaid : Prop := Claim7.holds Tryz.pinned (.plain (OpenSpec.ofChange intentOrderSpec)) intentOrderCard

/-- THE TIED CARD OF 'nsglaw16.IntentStatements'. -/
def intentStatementsCard : Claim7 := { stood := { row := intentStatementsRow, standIns := [], harness := (true, "62c0b9be11b2f550500d3f9420098af978f58f6e9c3a6c2665b687ce57110d36"), looks := false }, kinds := [], alts := [], laidByText := true, laidKinds := [.data, .widerDeep, .pinned], laidTests := true, laidLooks := .later }
def IntentStatementsCardSaid : Prop := Claim7.holds Tryz.pinned (.plain (OpenSpec.ofChange intentStatementsSpec)) intentStatementsCard

/-- THE TIED CARD OF 'nsglaw16.IntentReads'. -/
def intentReadsCard : Claim7 := { stood := { row := intentReadsRow, standIns := [], harness := (true, "62c0b9be11b2f550500d3f9420098af978f58f6e9c3a6c2665b687ce57110d36"), looks := false }, kinds := [], alts := [], laidByText := true, laidKinds := [.data, .data, .data, .data, .widerDeep, .pinned], laidTests := true, laidLooks := .later }
def IntentReadsCardSaid : Prop := Claim7.holds Tryz.pinned (.plain (OpenSpec.ofChange intentReadsSpec)) intentReadsCard

/-- THE TIED CARD OF 'nsglaw16.IntentRoundTrip'. -/
def intentRoundTripCard : Claim7 := { stood := { row := intentRoundTripRow, standIns := [], harness := (true, "62c0b9be11b2f550500d3f9420098af978f58f6e9c3a6c2665b687ce57110d36"), looks := false }, kinds := [], alts := [], laidByText := true, laidKinds := [.data, .data, .data, .data, .widerDeep, .pinned], laidTests := true, laidLooks := .later }
def IntentRoundTripCardSaid : Prop := Claim7.holds Tryz.pinned (.plain (OpenSpec.ofChange intentRoundTripSpec)) intentRoundTripCard

/-- THE TIED CARD OF 'nsglaw16.IntentAccepts'. -/
def intentAcceptsCard : Claim7 := { stood := { row := intentAcceptsRow, standIns := [], harness := (true, "62c0b9be11b2f550500d3f9420098af978f58f6e9c3a6c2665b687ce57110d36"), looks := false }, kinds := [], alts := [], laidByText := true, laidKinds := [.data, .data, .data, .data, .widerDeep, .pinned], laidTests := true, laidLooks := .later }
def IntentAcceptsCardSaid : Prop := Claim7.holds Tryz.pinned (.plain (OpenSpec.ofChange intentAcceptsSpec)) intentAcceptsCard

/-- THE SECOND FORM's CARD OF 'nsglaw16.IntentParses'. -/
def intentParsesUptoCard : Claim7 := { stood := { row := intentParsesUptoRow, standIns := [], harness := (true, "62c0b9be11b2f550500d3f9420098af978f58f6e9c3a6c2665b687ce57110d36"), looks := false }, kinds := [], alts := [], laidByText := true, laidKinds := [.data, .widerDeep, .pinned], laidTests := true, laidLooks := .later }
def IntentParsesUptoCardSaid : Prop := Claim7.holds Tryz.pinned (.plain (OpenSpec.upto intentParsesSpec)) intentParsesUptoCard

/-- THE SECOND FORM's CARD OF 'nsglaw16.IntentCounts'. -/
def intentCountsUptoCard : Claim7 := { stood := { row := intentCountsUptoRow, standIns := [], harness := (true, "62c0b9be11b2f550500d3f9420098af978f58f6e9c3a6c2665b687ce57110d36"), looks := false }, kinds := [], alts := [], laidByText := true, laidKinds := [.data, .widerDeep, .pinned], laidTests := true, laidLooks := .later }
def IntentCountsUptoCardSaid : Prop := Claim7.holds Tryz.pinned (.plain (OpenSpec.upto intentCountsSpec)) intentCountsUptoCard

/-- THE SECOND FORM's CARD OF 'nsglaw16.IntentOrder'. -/
def intentOrderUptoCard : Claim7 := { stood := { row := intentOrderUptoRow, standIns := [], harness := (true, "62c0b9be11b2f550500d3f9420098af978f58f6e9c3a6c2665b687ce57110d36"), looks := false }, kinds := [], alts := [], laidByText := true, laidKinds := [.data, .widerDeep, .pinned], laidTests := true, laidLooks := .later }
def IntentOrderUptoCardSaid : Prop := Claim7.holds Tryz.pinned (.plain (OpenSpec.upto intentOrderSpec)) intentOrderUptoCard

/-- THE SECOND FORM's CARD OF 'nsglaw16.IntentStatements'. -/
def intentStatementsUptoCard : Claim7 := { stood := { row := intentStatementsUptoRow, standIns := [], harness := (true, "62c0b9be11b2f550500d3f9420098af978f58f6e9c3a6c2665b687ce57110d36"), looks := false }, kinds := [], alts := [], laidByText := true, laidKinds := [.data, .widerDeep, .pinned], laidTests := true, laidLooks := .later }
def IntentStatementsUptoCardSaid : Prop := Claim7.holds Tryz.pinned (.plain (OpenSpec.upto intentStatementsSpec)) intentStatementsUptoCard

/-- THE SECOND FORM's CARD OF 'nsglaw16.IntentReads'. -/
def intentReadsUptoCard : Claim7 := { stood := { row := intentReadsUptoRow, standIns := [], harness := (true, "62c0b9be11b2f550500d3f9420098af978f58f6e9c3a6c2665b687ce57110d36"), looks := false }, kinds := [], alts := [], laidByText := true, laidKinds := [.data, .data, .data, .data, .widerDeep, .pinned], laidTests := true, laidLooks := .later }
def IntentReadsUptoCardSaid : Prop := Claim7.holds Tryz.pinned (.plain (OpenSpec.upto intentReadsSpec)) intentReadsUptoCard

/-- THE SECOND FORM's CARD OF 'nsglaw16.IntentRoundTrip'. -/
def intentRoundTripUptoCard : Claim7 := { stood := { row := intentRoundTripUptoRow, standIns := [], harness := (true, "62c0b9be11b2f550500d3f9420098af978f58f6e9c3a6c2665b687ce57110d36"), looks := false }, kinds := [], alts := [], laidByText := true, laidKinds := [.data, .data, .data, .data, .widerDeep, .pinned], laidTests := true, laidLooks := .later }
def IntentRoundTripUptoCardSaid : Prop := Claim7.holds Tryz.pinned (.plain (OpenSpec.upto intentRoundTripSpec)) intentRoundTripUptoCard

/-- THE SECOND FORM's CARD OF 'nsglaw16.IntentAccepts'. -/
def intentAcceptsUptoCard : Claim7 := { stood := { row := intentAcceptsUptoRow, standIns := [], harness := (true, "62c0b9be11b2f550500d3f9420098af978f58f6e9c3a6c2665b687ce57110d36"), looks := false }, kinds := [], alts := [], laidByText := true, laidKinds := [.data, .data, .data, .data, .widerDeep, .pinned], laidTests := true, laidLooks := .later }
def IntentAcceptsUptoCardSaid : Prop := Claim7.holds Tryz.pinned (.plain (OpenSpec.upto intentAcceptsSpec)) intentAcceptsUptoCard
end Rows
end Go.Proofs.YtkaobkjcjodffaaGreatDoor
