/-
  NARROWER THAN 'FOR EVERY INPUT', by the rows' own cells (each row's printed sentence says how): TransferDecides: laid · TransferTreats: laid · TransferTreatsEachHeader: laid.
  DERIVED. THE GIVEN ROWS OF THIS SEAT. 3 by the template 'for every input the law returns true; each argument reads behind the call as it read before'; 0 by the template 'total and deterministic' (their statements: YtokclomhkggikaaGreatDoorTotals.lean).
  GIVEN WITH THE SEED: the statements are not yours to turn. If you find one false, say at which input.
  Laid BY PROGRAM, IN A SANDBOX (cutbox-rows.mjs): the forced cells as the released guide's own fill.sh prints them over the translation e63a9671e65d71dd… (all of the seat's roots in one cut). By AI agents, Wed Nov 11 2026. No macro, syntax, notation, axiom, sorry.
-/
import Derived.Test.YtokclomhkggikaaGreatDoorChecked
import GoSem.Claim
import GoSem.ClaimJoined
import GoSem.ClaimMapViews
import Derived.JoinedTies
import Derived.KernelRfl
namespace Go.Proofs.YtokclomhkggikaaGreatDoor
/- THE CELL 'sum', in the pinned program and in every row, IS THE sha256 OF THE DUMP (.gsa) THAT YtokclomhkggikaaGreatDoorProg.lean LOADS. Nothing in Lean hashes anything: it is a label: what it is worth is what the hold of that sum in a sandbox is worth. -/
noncomputable def Tryz.pinned : Pinned := { name := "ytokclomhkggikaagreatdoor", sum := "e63a9671e65d71ddbf8dc12db21ff73b991f7041c1c103162219ca1494bd3120", checked := Tryz.checked }
namespace Rows
def none {H : Type} : Left H := { results := [], args := [] }

/- WHAT THE LISTED PACKAGE-LEVEL VARIABLES READ AS WHEN THE CALL BEGINS. Each datum BY PROGRAM (the guide's laid-datum.mjs) off the statement by which the dump's own 'gosem.cut.vars' lays the variable. In a bare row this is a premise. The card (YtokclomhkggikaaGreatDoorCards.lean) ties it to the program's text. -/
def laid_netsegment_box_tops {H : Type} : DataW H := .agg [.lit (.int .u32 4294967295), .lit (.int .u32 4294967295), .lit (.int .u32 255), .lit (.int .u32 65535), .lit (.int .u32 65535)]

/-- 'nsglaw28.TransferDecides': WHATEVER THE INPUT: true; the input reads as it did. -/
def transferDecidesSpec : ChangeSpec := { name := "transferDecides", fn := fun _ => fun
  | [d1, d2, d3, d4] => { results := [.lit (.bool true)], args := [d1, d2, d3, d4] }
  | _ => none }
def transferDecidesRow : OpenClaim := { program := "ytokclomhkggikaagreatdoor", sum := "e63a9671e65d71ddbf8dc12db21ff73b991f7041c1c103162219ca1494bd3120", func := "netsegment/nsglaw28.TransferDecides", spec := "transferDecides", unfollowed := true, recurses := true, named := ["netsegment/box.tops"], plainKeys := false, apart := false, laid := [("netsegment/box.tops", laid_netsegment_box_tops)] }
def TransferDecidesSaid : Prop := transferDecidesRow.holds Tryz.pinned (OpenSpec.ofChange transferDecidesSpec)

/-- ITS FALSE NEIGHBOUR: 'it returns false'. Refute it at one input. -/
def transferDecidesWrong : ChangeSpec := { name := "transferDecides", fn := fun _ => fun
  | [d1, d2, d3, d4] => { results := [.lit (.bool false)], args := [d1, d2, d3, d4] }
  | _ => none }
def TransferDecidesWrongFalsely : Prop := transferDecidesRow.holds Tryz.pinned (OpenSpec.ofChange transferDecidesWrong)

/-- 'nsglaw28.TransferTreats': WHATEVER THE INPUT: true; the input reads as it did. -/
def transferTreatsSpec : ChangeSpec := { name := "transferTreats", fn := fun _ => fun
  | [d1, d2, d3] => { results := [.lit (.bool true)], args := [d1, d2, d3] }
  | _ => none }
def transferTreatsRow : OpenClaim := { program := "ytokclomhkggikaagreatdoor", sum := "e63a9671e65d71ddbf8dc12db21ff73b991f7041c1c103162219ca1494bd3120", func := "netsegment/nsglaw28.TransferTreats", spec := "transferTreats", unfollowed := true, recurses := true, named := ["netsegment/box.tops"], plainKeys := false, apart := false, laid := [("netsegment/box.tops", laid_netsegment_box_tops)] }
def TransferTreatsSaid : Prop := transferTreatsRow.holds Tryz.pinned (OpenSpec.ofChange transferTreatsSpec)

/-- ITS FALSE NEIGHBOUR: 'it returns false'. Refute it at one input. -/
def transferTreatsWrong : ChangeSpec := { name := "transferTreats", fn := fun _ => fun
  | [d1, d2, d3] => { results := [.lit (.bool false)], args := [d1, d2, d3] }
  | _ => none }
def TransferTreatsWrongFalsely : Prop := transferTreatsRow.holds Tryz.pinned (OpenSpec.ofChange transferTreatsWrong)

/-- 'nsglaw28.TransferTreatsEachHeader': WHATEVER THE INPUT: true; the input reads as it did. -/
def transferTreatsEachHeaderSpec : ChangeSpec := { name := "transferTreatsEachHeader", fn := fun _ => fun
  | [d] => { results := [.lit (.bool true)], args := [d] }
  | _ => none }
def transferTreatsEachHeaderRow : OpenClaim := { program := "ytokclomhkggikaagreatdoor", sum := "e63a9671e65d71ddbf8dc12db21ff73b991f7041c1c103162219ca1494bd3120", func := "netsegment/nsglaw28.TransferTreatsEachHeader", spec := "transferTreatsEachHeader", unfollowed := true, recurses := true, named := ["netsegment/box.tops"], plainKeys := false, apart := false, laid := [("netsegment/box.tops", laid_netsegment_box_tops)] }
def TransferTreatsEachHeaderSaid : Prop := transferTreatsEachHeaderRow.holds Tryz.pinned (OpenSpec.ofChange transferTreatsEachHeaderSpec)

/-- ITS FALSE NEIGHBOUR: 'it returns false'. Refute it at one input. -/
def transferTreatsEachHeaderWrong : ChangeSpec := { name := "transferTreatsEachHeader", fn := fun _ => fun
  | [d] => { results := [.lit (.bool false)], args := [d] }
  | _ => none }
def TransferTreatsEachHeaderWrongFalsely : Prop := transferTreatsEachHeaderRow.holds Tryz.pinned (OpenSpec.ofChange transferTreatsEachHeaderWrong)

/- THE SECOND FORM. 'bulk': how many values and letters a reading holds, each counted each time it is reached (what is shared counts as often as it is met; a slice's spare places count too). A statement '..UptoSaid' is the law's where the arguments, and the package variables that the reading takes, are together of bulk at most 1048576: NARROWER than '..Said'. Prove '..Said' where nothing that the law and all that it calls make is longer than what came in: it says more and counts as full. Else prove '..UptoSaid'. A law counts once. -/
mutual
def uptoBulk {H : Type} : DataW H → Nat
  | .lit (.string bytes) => bytes.length + 1
  | .lit _ => 1
  | .nil => 1
  | .ptr d => uptoBulk d + 1
  | .slice elems spare => uptoBulkAll elems + uptoBulkAll spare + 1
  | .agg parts => uptoBulkAll parts + 1
  | .iface _ d => uptoBulk d + 1
  | .map entries => uptoBulkEntries entries + 1
  | .held _ => 1
def uptoBulkAll {H : Type} : List (DataW H) → Nat
  | [] => 0
  | d :: r => uptoBulk d + uptoBulkAll r
def uptoBulkEntries {H : Type} : List (Lit × DataW H) → Nat
  | [] => 0
  | x :: r => uptoBulkEntry x + uptoBulkEntries r
def uptoBulkEntry {H : Type} : Lit × DataW H → Nat
  | (.string bytes, d) => bytes.length + uptoBulk d + 1
  | (_, d) => uptoBulk d + 1
 end
def uptoSmall : (H : Type) → List (DataW H) → Bool := fun _ ds => decide (uptoBulkAll ds ≤ 1048576)
def OpenSpec.upto (s : _root_.Go.ChangeSpec) : _root_.Go.OpenSpec := { _root_.Go.OpenSpec.ofChange s with cond := some uptoSmall }

/-- 'nsglaw28.TransferDecides', WHERE WHAT IT READS IS OF BULK AT MOST 1048576: true; the input reads as it did. -/
def transferDecidesUptoRow : OpenClaim := { program := "ytokclomhkggikaagreatdoor", sum := "e63a9671e65d71ddbf8dc12db21ff73b991f7041c1c103162219ca1494bd3120", func := "netsegment/nsglaw28.TransferDecides", spec := "transferDecides", unfollowed := true, recurses := true, named := ["netsegment/box.tops"], plainKeys := false, apart := false, laid := [("netsegment/box.tops", laid_netsegment_box_tops)], narrowed := true }
def TransferDecidesUptoSaid : Prop := transferDecidesUptoRow.holds Tryz.pinned (OpenSpec.upto transferDecidesSpec)

/-- 'nsglaw28.TransferTreats', WHERE WHAT IT READS IS OF BULK AT MOST 1048576: true; the input reads as it did. -/
def transferTreatsUptoRow : OpenClaim := { program := "ytokclomhkggikaagreatdoor", sum := "e63a9671e65d71ddbf8dc12db21ff73b991f7041c1c103162219ca1494bd3120", func := "netsegment/nsglaw28.TransferTreats", spec := "transferTreats", unfollowed := true, recurses := true, named := ["netsegment/box.tops"], plainKeys := false, apart := false, laid := [("netsegment/box.tops", laid_netsegment_box_tops)], narrowed := true }
def TransferTreatsUptoSaid : Prop := transferTreatsUptoRow.holds Tryz.pinned (OpenSpec.upto transferTreatsSpec)

/-- 'nsglaw28.TransferTreatsEachHeader', WHERE WHAT IT READS IS OF BULK AT MOST 1048576: true; the input reads as it did. -/
def transferTreatsEachHeaderUptoRow : OpenClaim := { program := "ytokclomhkggikaagreatdoor", sum := "e63a9671e65d71ddbf8dc12db21ff73b991f7041c1c103162219ca1494bd3120", func := "netsegment/nsglaw28.TransferTreatsEachHeader", spec := "transferTreatsEachHeader", unfollowed := true, recurses := true, named := ["netsegment/box.tops"], plainKeys := false, apart := false, laid := [("netsegment/box.tops", laid_netsegment_box_tops)], narrowed := true }
def TransferTreatsEachHeaderUptoSaid : Prop := transferTreatsEachHeaderUptoRow.holds Tryz.pinned (OpenSpec.upto transferTreatsEachHeaderSpec)

end Rows
end Go.Proofs.YtokclomhkggikaaGreatDoor
