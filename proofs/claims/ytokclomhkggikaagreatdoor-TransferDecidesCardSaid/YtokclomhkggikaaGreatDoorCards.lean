/-
  DERIVED. GIVEN WITH THE SEED: THE CARDS: each row of YtokclomhkggikaaGreatDoorRows.lean that lists a variable, with what it lists TIED to the program's text (the seventh form; the later family's looks); each row that meets fmt, with fmt's text TOLD by the authors' own Lean function (tested against real Go, not proved from fmt's source: count such statements apart). THE CARD IS WHAT COUNTS. Prove the row's statement (the work); the ties are given (YtokclomhkggikaaGreatDoorTie.lean); close each card by the builder's one call (the guide's Derived/Test/ToyasCard.lean, 'card_holds'). Laid BY PROGRAM, IN A SANDBOX (cutbox-door.mjs). By AI agents, Wed Nov 11 2026. No macro, syntax, notation, axiom, sorry.
-/
import Derived.Test.YtokclomhkggikaaGreatDoorRows
import GoSem.ClaimSeven
namespace Go.Proofs.YtokclomhkggikaaGreatDoor
namespace Rows

/-- THE TIED CARD OF 'nsglaw28.TransferDecides'. -/
def transferDecidesCard : Claim7 := { stood := { row := transferDecidesRow, standIns := [], harness := (true, "648bb6d93ba1e342625e493b3d233f21e580267c94249624b49660616ad33637"), looks := false }, kinds := [], alts := [], laidByText := true, laidKinds := [.data], laidTests := true, laidLooks := .later }
def TransferDecidesCardSaid : Prop := Claim7.holds Tryz.pinned (.plain (OpenSpec.ofChange transferDecidesSpec)) transferDecidesCard

/-- THE TIED CARD OF 'nsglaw28.TransferTreats'. -/
def transferTreatsCard : Claim7 := { stood := { row := transferTreatsRow, standIns := [], harness := (true, "648bb6d93ba1e342625e493b3d233f21e580267c94249624b49660616ad33637"), looks := false }, kinds := [], alts := [], laidByText := true, laidKinds := [.data], laidTests := true, laidLooks := .later }
def TransferTreatsCardSaid : Prop := Claim7.holds Tryz.pinned (.plain (OpenSpec.ofChange transferTreatsSpec)) transferTreatsCard

/-- THE TIED CARD OF 'nsglaw28.TransferTreatsEachHeader'. -/
def transferTreatsEachHeaderCard : Claim7 := { stood := { row := transferTreatsEachHeaderRow, standIns := [], harness := (true, "648bb6d93ba1e342625e493b3d233f21e580267c94249624b49660616ad33637"), looks := false }, kinds := [], alts := [], laidByText := true, laidKinds := [.data], laidTests := true, laidLooks := .later }
def TransferTreatsEachHeaderCardSaid : Prop := Claim7.holds Tryz.pinned (.plain (OpenSpec.ofChange transferTreatsEachHeaderSpec)) transferTreatsEachHeaderCard

/-- THE SECOND FORM's CARD OF 'nsglaw28.TransferDecides'. -/
def transferDecidesUptoCard : Claim7 := { stood := { row := transferDecidesUptoRow, standIns := [], harness := (true, "648bb6d93ba1e342625e493b3d233f21e580267c94249624b49660616ad33637"), looks := false }, kinds := [], alts := [], laidByText := true, laidKinds := [.data], laidTests := true, laidLooks := .later }
def TransferDecidesUptoCardSaid : Prop := Claim7.holds Tryz.pinned (.plain (OpenSpec.upto transferDecidesSpec)) transferDecidesUptoCard

/-- THE SECOND FORM's CARD OF 'nsglaw28.TransferTreats'. -/
def transferTreatsUptoCard : Claim7 := { stood := { row := transferTreatsUptoRow, standIns := [], harness := (true, "648bb6d93ba1e342625e493b3d233f21e580267c94249624b49660616ad33637"), looks := false }, kinds := [], alts := [], laidByText := true, laidKinds := [.data], laidTests := true, laidLooks := .later }
def TransferTreatsUptoCardSaid : Prop := Claim7.holds Tryz.pinned (.plain (OpenSpec.upto transferTreatsSpec)) transferTreatsUptoCard

/-- THE SECOND FORM's CARD OF 'nsglaw28.TransferTreatsEachHeader'. -/
def transferTreatsEachHeaderUptoCard : Claim7 := { stood := { row := transferTreatsEachHeaderUptoRow, standIns := [], harness := (true, "648bb6d93ba1e342625e493b3d233f21e580267c94249624b49660616ad33637"), looks := false }, kinds := [], alts := [], laidByText := true, laidKinds := [.data], laidTests := true, laidLooks := .later }
def TransferTreatsEachHeaderUptoCardSaid : Prop := Claim7.holds Tryz.pinned (.plain (OpenSpec.upto transferTreatsEachHeaderSpec)) transferTreatsEachHeaderUptoCard
end Rows
end Go.Proofs.YtokclomhkggikaaGreatDoor
