/-
  NARROWER THAN 'FOR EVERY INPUT', by the rows' own cells (each row's printed sentence says how): IntentParses: laid · IntentCounts: laid · IntentOrder: laid · IntentStatements: laid · IntentReads: laid · IntentRoundTrip: laid · IntentAccepts: laid.
  DERIVED. THE GIVEN ROWS OF THIS SEAT. 7 by the template 'for every input the law returns true; each argument reads behind the call as it read before'; 0 by the template 'total and deterministic' (their statements: YtkaobkjcjodffaaGreatDoorTotals.lean).
  GIVEN WITH THE SEED: the statements are not yours to turn. If you find one false, say at which input.
  Laid BY PROGRAM, IN A SANDBOX (cutbox-rows.mjs): the forced cells as the released guide's own fill.sh prints them over the translation 7ecc551fd2c92039… (all of the seat's roots in one cut). By AI agents, Wed Nov 11 2026. No macro, syntax, notation, axiom, sorry.
-/
import Derived.Test.YtkaobkjcjodffaaGreatDoorChecked
import GoSem.PinnedTables
import GoSem.Claim
import GoSem.ClaimJoined
import GoSem.ClaimMapViews
import Derived.JoinedTies
import Derived.KernelRfl
namespace Go.Proofs.YtkaobkjcjodffaaGreatDoor
/- THE CELL 'sum', in the pinned program and in every row, IS THE sha256 OF THE DUMP (.gsa) THAT YtkaobkjcjodffaaGreatDoorProg.lean LOADS. Nothing in Lean hashes anything: it is a label: what it is worth is what the hold of that sum in a sandbox is worth. -/
noncomputable def Tryz.pinned : Pinned := { name := "ytkaobkjcjodffaagreatdoor", sum := "7ecc551fd2c9203909c2892107ff15936f59502bcab0e0efbac14382be3de6ea", checked := Tryz.checked }
namespace Rows
def none {H : Type} : Left H := { results := [], args := [] }

/- WHAT THE LISTED PACKAGE-LEVEL VARIABLES READ AS WHEN THE CALL BEGINS. Each datum BY PROGRAM (the guide's laid-datum.mjs) off the statement by which the dump's own 'gosem.cut.vars' lays the variable. In a bare row this is a premise. The card (YtkaobkjcjodffaaGreatDoorCards.lean) ties it to the program's text. -/
def laid_unicode_utf8_acceptRanges {H : Type} : DataW H := .agg [.agg [.lit (.int .u8 128), .lit (.int .u8 191)], .agg [.lit (.int .u8 160), .lit (.int .u8 191)], .agg [.lit (.int .u8 128), .lit (.int .u8 159)], .agg [.lit (.int .u8 144), .lit (.int .u8 191)], .agg [.lit (.int .u8 128), .lit (.int .u8 143)], .agg [.lit (.int .u8 0), .lit (.int .u8 0)], .agg [.lit (.int .u8 0), .lit (.int .u8 0)], .agg [.lit (.int .u8 0), .lit (.int .u8 0)], .agg [.lit (.int .u8 0), .lit (.int .u8 0)], .agg [.lit (.int .u8 0), .lit (.int .u8 0)], .agg [.lit (.int .u8 0), .lit (.int .u8 0)], .agg [.lit (.int .u8 0), .lit (.int .u8 0)], .agg [.lit (.int .u8 0), .lit (.int .u8 0)], .agg [.lit (.int .u8 0), .lit (.int .u8 0)], .agg [.lit (.int .u8 0), .lit (.int .u8 0)], .agg [.lit (.int .u8 0), .lit (.int .u8 0)]]
def laid_netsegment_calendar_names {H : Type} : DataW H := .agg [.lit (.string [109, 111, 110]), .lit (.string [116, 117, 101]), .lit (.string [119, 101, 100]), .lit (.string [116, 104, 117]), .lit (.string [102, 114, 105]), .lit (.string [115, 97, 116]), .lit (.string [115, 117, 110])]
/-- One of Go's own tables, pinned by name: the form's constant. -/
def laid_unicode_utf8_first : DataW Unit := Go.Pinned.utf8First
def laid_math_bits_deBruijn32tab {H : Type} : DataW H := .agg [.lit (.int .u8 0), .lit (.int .u8 1), .lit (.int .u8 28), .lit (.int .u8 2), .lit (.int .u8 29), .lit (.int .u8 14), .lit (.int .u8 24), .lit (.int .u8 3), .lit (.int .u8 30), .lit (.int .u8 22), .lit (.int .u8 20), .lit (.int .u8 15), .lit (.int .u8 25), .lit (.int .u8 17), .lit (.int .u8 4), .lit (.int .u8 8), .lit (.int .u8 31), .lit (.int .u8 27), .lit (.int .u8 13), .lit (.int .u8 23), .lit (.int .u8 21), .lit (.int .u8 19), .lit (.int .u8 16), .lit (.int .u8 7), .lit (.int .u8 26), .lit (.int .u8 12), .lit (.int .u8 18), .lit (.int .u8 6), .lit (.int .u8 11), .lit (.int .u8 5), .lit (.int .u8 10), .lit (.int .u8 9)]
def laid_math_bits_deBruijn64tab {H : Type} : DataW H := .agg [.lit (.int .u8 0), .lit (.int .u8 1), .lit (.int .u8 56), .lit (.int .u8 2), .lit (.int .u8 57), .lit (.int .u8 49), .lit (.int .u8 28), .lit (.int .u8 3), .lit (.int .u8 61), .lit (.int .u8 58), .lit (.int .u8 42), .lit (.int .u8 50), .lit (.int .u8 38), .lit (.int .u8 29), .lit (.int .u8 17), .lit (.int .u8 4), .lit (.int .u8 62), .lit (.int .u8 47), .lit (.int .u8 59), .lit (.int .u8 36), .lit (.int .u8 45), .lit (.int .u8 43), .lit (.int .u8 51), .lit (.int .u8 22), .lit (.int .u8 53), .lit (.int .u8 39), .lit (.int .u8 33), .lit (.int .u8 30), .lit (.int .u8 24), .lit (.int .u8 18), .lit (.int .u8 12), .lit (.int .u8 5), .lit (.int .u8 63), .lit (.int .u8 55), .lit (.int .u8 48), .lit (.int .u8 27), .lit (.int .u8 60), .lit (.int .u8 41), .lit (.int .u8 37), .lit (.int .u8 16), .lit (.int .u8 46), .lit (.int .u8 35), .lit (.int .u8 44), .lit (.int .u8 21), .lit (.int .u8 52), .lit (.int .u8 32), .lit (.int .u8 23), .lit (.int .u8 11), .lit (.int .u8 54), .lit (.int .u8 26), .lit (.int .u8 40), .lit (.int .u8 15), .lit (.int .u8 34), .lit (.int .u8 20), .lit (.int .u8 31), .lit (.int .u8 10), .lit (.int .u8 25), .lit (.int .u8 14), .lit (.int .u8 19), .lit (.int .u8 9), .lit (.int .u8 13), .lit (.int .u8 8), .lit (.int .u8 7), .lit (.int .u8 6)]
def laid_internal_strconv_uint64pow10 {H : Type} : DataW H := .agg [.lit (.int .u64 1), .lit (.int .u64 10), .lit (.int .u64 100), .lit (.int .u64 1000), .lit (.int .u64 10000), .lit (.int .u64 100000), .lit (.int .u64 1000000), .lit (.int .u64 10000000), .lit (.int .u64 100000000), .lit (.int .u64 1000000000), .lit (.int .u64 10000000000), .lit (.int .u64 100000000000), .lit (.int .u64 1000000000000), .lit (.int .u64 10000000000000), .lit (.int .u64 100000000000000), .lit (.int .u64 1000000000000000), .lit (.int .u64 10000000000000000), .lit (.int .u64 100000000000000000), .lit (.int .u64 1000000000000000000), .lit (.int .u64 10000000000000000000)]

/-- 'nsglaw16.IntentParses': WHATEVER THE INPUT: true; the input reads as it did. -/
def intentParsesSpec : ChangeSpec := { name := "intentParses", fn := fun _ => fun
  | [d1, d2] => { results := [.lit (.bool true)], args := [d1, d2] }
  | _ => none }
def intentParsesRow : OpenClaim := { program := "ytkaobkjcjodffaagreatdoor", sum := "7ecc551fd2c9203909c2892107ff15936f59502bcab0e0efbac14382be3de6ea", func := "netsegment/nsglaw16.IntentParses", spec := "intentParses", inPlace := ["internal/bytealg.CountString", "internal/bytealg.IndexByteString", "internal/bytealg.IndexString"], unfollowed := true, recurses := true, named := ["unicode/utf8.first", "unicode/utf8.acceptRanges", "internal/bytealg.MaxLen", "netsegment/calendar.names"], apart := false, laid := [("unicode/utf8.acceptRanges", laid_unicode_utf8_acceptRanges), ("netsegment/calendar.names", laid_netsegment_calendar_names), ("unicode/utf8.first", laid_unicode_utf8_first)] }
def IntentParsesSaid : Prop := intentParsesRow.holds Tryz.pinned (OpenSpec.ofChange intentParsesSpec)

/-- ITS FALSE NEIGHBOUR: 'it returns false'. Refute it at one input. -/
def intentParsesWrong : ChangeSpec := { name := "intentParses", fn := fun _ => fun
  | [d1, d2] => { results := [.lit (.bool false)], args := [d1, d2] }
  | _ => none }
def IntentParsesWrongFalsely : Prop := intentParsesRow.holds Tryz.pinned (OpenSpec.ofChange intentParsesWrong)

/-- 'nsglaw16.IntentCounts': WHATEVER THE INPUT: true; the input reads as it did. -/
def intentCountsSpec : ChangeSpec := { name := "intentCounts", fn := fun _ => fun
  | [d] => { results := [.lit (.bool true)], args := [d] }
  | _ => none }
def intentCountsRow : OpenClaim := { program := "ytkaobkjcjodffaagreatdoor", sum := "7ecc551fd2c9203909c2892107ff15936f59502bcab0e0efbac14382be3de6ea", func := "netsegment/nsglaw16.IntentCounts", spec := "intentCounts", inPlace := ["internal/bytealg.CountString", "internal/bytealg.IndexByteString", "internal/bytealg.IndexString"], unfollowed := true, recurses := true, named := ["unicode/utf8.first", "unicode/utf8.acceptRanges", "internal/bytealg.MaxLen", "netsegment/calendar.names"], apart := false, laid := [("unicode/utf8.acceptRanges", laid_unicode_utf8_acceptRanges), ("netsegment/calendar.names", laid_netsegment_calendar_names), ("unicode/utf8.first", laid_unicode_utf8_first)] }
def IntentCountsSaid : Prop := intentCountsRow.holds Tryz.pinned (OpenSpec.ofChange intentCountsSpec)

/-- ITS FALSE NEIGHBOUR: 'it returns false'. Refute it at one input. -/
def intentCountsWrong : ChangeSpec := { name := "intentCounts", fn := fun _ => fun
  | [d] => { results := [.lit (.bool false)], args := [d] }
  | _ => none }
def IntentCountsWrongFalsely : Prop := intentCountsRow.holds Tryz.pinned (OpenSpec.ofChange intentCountsWrong)

/-- 'nsglaw16.IntentOrder': WHATEVER THE INPUT: true; the input reads as it did. -/
def intentOrderSpec : ChangeSpec := { name := "intentOrder", fn := fun _ => fun
  | [d] => { results := [.lit (.bool true)], args := [d] }
  | _ => none }
def intentOrderRow : OpenClaim := { program := "ytkaobkjcjodffaagreatdoor", sum := "7ecc551fd2c9203909c2892107ff15936f59502bcab0e0efbac14382be3de6ea", func := "netsegment/nsglaw16.IntentOrder", spec := "intentOrder", inPlace := ["internal/bytealg.CountString", "internal/bytealg.IndexByteString", "internal/bytealg.IndexString"], unfollowed := true, recurses := true, named := ["unicode/utf8.first", "unicode/utf8.acceptRanges", "internal/bytealg.MaxLen", "netsegment/calendar.names"], apart := false, laid := [("unicode/utf8.acceptRanges", laid_unicode_utf8_acceptRanges), ("netsegment/calendar.names", laid_netsegment_calendar_names), ("unicode/utf8.first", laid_unicode_utf8_first)] }
def IntentOrderSaid : Prop := intentOrderRow.holds Tryz.pinned (OpenSpec.ofChange intentOrderSpec)

/-- ITS FALSE NEIGHBOUR: 'it returns false'. Refute it at one input. -/
def intentOrderWrong : ChangeSpec := { name := "intentOrder", fn := fun _ => fun
  | [d] => { results := [.lit (.bool false)], args := [d] }
  | _ => none }
def IntentOrderWrongFalsely : Prop := intentOrderRow.holds Tryz.pinned (OpenSpec.ofChange intentOrderWrong)

/-- 'nsglaw16.IntentStatements': WHATEVER THE INPUT: true; the input reads as it did. -/
def intentStatementsSpec : ChangeSpec := { name := "intentStatements", fn := fun _ => fun
  | [d1, d2, d3, d4, d5] => { results := [.lit (.bool true)], args := [d1, d2, d3, d4, d5] }
  | _ => none }
def intentStatementsRow : OpenClaim := { program := "ytkaobkjcjodffaagreatdoor", sum := "7ecc551fd2c9203909c2892107ff15936f59502bcab0e0efbac14382be3de6ea", func := "netsegment/nsglaw16.IntentStatements", spec := "intentStatements", inPlace := ["internal/bytealg.CountString", "internal/bytealg.IndexByteString", "internal/bytealg.IndexString"], unfollowed := true, recurses := true, named := ["unicode/utf8.first", "unicode/utf8.acceptRanges", "internal/bytealg.MaxLen", "netsegment/calendar.names"], apart := false, laid := [("unicode/utf8.acceptRanges", laid_unicode_utf8_acceptRanges), ("netsegment/calendar.names", laid_netsegment_calendar_names), ("unicode/utf8.first", laid_unicode_utf8_first)] }
def IntentStatementsSaid : Prop := intentStatementsRow.holds Tryz.pinned (OpenSpec.ofChange intentStatementsSpec)

/-- ITS FALSE NEIGHBOUR: 'it returns false'. Refute it at one input. -/
def intentStatementsWrong : ChangeSpec := { name := "intentStatements", fn := fun _ => fun
  | [d1, d2, d3, d4, d5] => { results := [.lit (.bool false)], args := [d1, d2, d3, d4, d5] }
  | _ => none }
def IntentStatementsWrongFalsely : Prop := intentStatementsRow.holds Tryz.pinned (OpenSpec.ofChange intentStatementsWrong)

/-- 'nsglaw16.IntentReads': WHATEVER THE INPUT: true; the input reads as it did. -/
def intentReadsSpec : ChangeSpec := { name := "intentReads", fn := fun _ => fun
  | [d1, d2] => { results := [.lit (.bool true)], args := [d1, d2] }
  | _ => none }
def intentReadsRow : OpenClaim := { program := "ytkaobkjcjodffaagreatdoor", sum := "7ecc551fd2c9203909c2892107ff15936f59502bcab0e0efbac14382be3de6ea", func := "netsegment/nsglaw16.IntentReads", spec := "intentReads", inPlace := ["internal/abi.NoEscape", "internal/bytealg.MakeNoZero", "internal/bytealg.CountString", "internal/bytealg.IndexByteString", "internal/bytealg.IndexString"], unfollowed := true, recurses := true, named := ["netsegment/calendar.names", "internal/strconv.uint64pow10", "math/bits.deBruijn32tab", "math/bits.deBruijn64tab", "unicode/utf8.first", "unicode/utf8.acceptRanges", "internal/bytealg.MaxLen"], apart := false, laid := [("math/bits.deBruijn32tab", laid_math_bits_deBruijn32tab), ("math/bits.deBruijn64tab", laid_math_bits_deBruijn64tab), ("internal/strconv.uint64pow10", laid_internal_strconv_uint64pow10), ("unicode/utf8.acceptRanges", laid_unicode_utf8_acceptRanges), ("netsegment/calendar.names", laid_netsegment_calendar_names), ("unicode/utf8.first", laid_unicode_utf8_first)] }
def IntentReadsSaid : Prop := intentReadsRow.holds Tryz.pinned (OpenSpec.ofChange intentReadsSpec)

/-- ITS FALSE NEIGHBOUR: 'it returns false'. Refute it at one input. -/
def intentReadsWrong : ChangeSpec := { name := "intentReads", fn := fun _ => fun
  | [d1, d2] => { results := [.lit (.bool false)], args := [d1, d2] }
  | _ => none }
def IntentReadsWrongFalsely : Prop := intentReadsRow.holds Tryz.pinned (OpenSpec.ofChange intentReadsWrong)

/-- 'nsglaw16.IntentRoundTrip': WHATEVER THE INPUT: true; the input reads as it did. -/
def intentRoundTripSpec : ChangeSpec := { name := "intentRoundTrip", fn := fun _ => fun
  | [d1, d2] => { results := [.lit (.bool true)], args := [d1, d2] }
  | _ => none }
def intentRoundTripRow : OpenClaim := { program := "ytkaobkjcjodffaagreatdoor", sum := "7ecc551fd2c9203909c2892107ff15936f59502bcab0e0efbac14382be3de6ea", func := "netsegment/nsglaw16.IntentRoundTrip", spec := "intentRoundTrip", inPlace := ["internal/abi.NoEscape", "internal/bytealg.MakeNoZero", "internal/bytealg.CountString", "internal/bytealg.IndexByteString", "internal/bytealg.IndexString"], unfollowed := true, recurses := true, named := ["netsegment/calendar.names", "internal/strconv.uint64pow10", "math/bits.deBruijn32tab", "math/bits.deBruijn64tab", "unicode/utf8.first", "unicode/utf8.acceptRanges", "internal/bytealg.MaxLen"], apart := false, laid := [("math/bits.deBruijn32tab", laid_math_bits_deBruijn32tab), ("math/bits.deBruijn64tab", laid_math_bits_deBruijn64tab), ("internal/strconv.uint64pow10", laid_internal_strconv_uint64pow10), ("unicode/utf8.acceptRanges", laid_unicode_utf8_acceptRanges), ("netsegment/calendar.names", laid_netsegment_calendar_names), ("unicode/utf8.first", laid_unicode_utf8_first)] }
def IntentRoundTripSaid : Prop := intentRoundTripRow.holds Tryz.pinned (OpenSpec.ofChange intentRoundTripSpec)

/-- ITS FALSE NEIGHBOUR: 'it returns false'. Refute it at one input. -/
def intentRoundTripWrong : ChangeSpec := { name := "intentRoundTrip", fn := fun _ => fun
  | [d1, d2] => { results := [.lit (.bool false)], args := [d1, d2] }
  | _ => none }
def IntentRoundTripWrongFalsely : Prop := intentRoundTripRow.holds Tryz.pinned (OpenSpec.ofChange intentRoundTripWrong)

/-- 'nsglaw16.IntentAccepts': WHATEVER THE INPUT: true; the input reads as it did. -/
def intentAcceptsSpec : ChangeSpec := { name := "intentAccepts", fn := fun _ => fun
  | [d1, d2] => { results := [.lit (.bool true)], args := [d1, d2] }
  | _ => none }
def intentAcceptsRow : OpenClaim := { program := "ytkaobkjcjodffaagreatdoor", sum := "7ecc551fd2c9203909c2892107ff15936f59502bcab0e0efbac14382be3de6ea", func := "netsegment/nsglaw16.IntentAccepts", spec := "intentAccepts", inPlace := ["internal/bytealg.CountString", "internal/bytealg.IndexByteString", "internal/bytealg.IndexString", "internal/abi.NoEscape", "internal/bytealg.MakeNoZero"], unfollowed := true, recurses := true, named := ["unicode/utf8.first", "unicode/utf8.acceptRanges", "internal/bytealg.MaxLen", "netsegment/calendar.names", "internal/strconv.uint64pow10", "math/bits.deBruijn32tab", "math/bits.deBruijn64tab"], apart := false, laid := [("math/bits.deBruijn32tab", laid_math_bits_deBruijn32tab), ("math/bits.deBruijn64tab", laid_math_bits_deBruijn64tab), ("internal/strconv.uint64pow10", laid_internal_strconv_uint64pow10), ("unicode/utf8.acceptRanges", laid_unicode_utf8_acceptRanges), ("netsegment/calendar.names", laid_netsegment_calendar_names), ("unicode/utf8.first", laid_unicode_utf8_first)] }
def IntentAcceptsSaid : Prop := intentAcceptsRow.holds Tryz.pinned (OpenSpec.ofChange intentAcceptsSpec)

/-- ITS FALSE NEIGHBOUR: 'it returns false'. Refute it at one input. -/
def intentAcceptsWrong : ChangeSpec := { name := "intentAccepts", fn := fun _ => fun
  | [d1, d2] => { results := [.lit (.bool false)], args := [d1, d2] }
  | _ => none }
def IntentAcceptsWrongFalsely : Prop := intentAcceptsRow.holds Tryz.pinned (OpenSpec.ofChange intentAcceptsWrong)

/- THE SECOND FORM. 'bulk': how many values and letters a reading holds, each counted each time it is reached (what is shared counts as often as it is met; a slice's spare places count too). A statement '..UptoSaid' is the law's where the arguments, and the package variables that the reading takes, are together of bulk at most 1048576: NARROWER than '..Said'. Prove '..Said' where nothing that the law and all that it calls make is longer than what came in: it says more and counts as full. Else prove '..UptoSaid'. A law counts once. -/
mutual
def uptoBulk {H : Type} : DataW H → Nat
  | .lit (.string bytes) => bytes.length + 1
  | .lit _ => 1
  | .nil => 1
  | .ptr d => uptoBulk d + 1
  | .slice elems spare => uptoBulkAll elems + uptoBulkAll spare + 1
  | .agg parts => uptoBulkAll parts + 1
  | .iface _ d => uptoBulk d + 1
  | .map entries => uptoBulkEntries entries + 1
  | .held _ => 1
def uptoBulkAll {H : Type} : List (DataW H) → Nat
  | [] => 0
  | d :: r => uptoBulk d + uptoBulkAll r
def uptoBulkEntries {H : Type} : List (Lit × DataW H) → Nat
  | [] => 0
  | x :: r => uptoBulkEntry x + uptoBulkEntries r
def uptoBulkEntry {H : Type} : Lit × DataW H → Nat
  | (.string bytes, d) => bytes.length + uptoBulk d + 1
  | (_, d) => uptoBulk d + 1
 end
def uptoSmall : (H : Type) → List (DataW H) → Bool := fun _ ds => decide (uptoBulkAll ds ≤ 1048576)
def OpenSpec.upto (s : _root_.Go.ChangeSpec) : _root_.Go.OpenSpec := { _root_.Go.OpenSpec.ofChange s with cond := some uptoSmall }

/-- 'nsglaw16.IntentParses', WHERE WHAT IT READS IS OF BULK AT MOST 1048576: true; the input reads as it did. -/
def intentParsesUptoRow : OpenClaim := { program := "ytkaobkjcjodffaagreatdoor", sum := "7ecc551fd2c9203909c2892107ff15936f59502bcab0e0efbac14382be3de6ea", func := "netsegment/nsglaw16.IntentParses", spec := "intentParses", inPlace := ["internal/bytealg.CountString", "internal/bytealg.IndexByteString", "internal/bytealg.IndexString"], unfollowed := true, recurses := true, named := ["unicode/utf8.first", "unicode/utf8.acceptRanges", "internal/bytealg.MaxLen", "netsegment/calendar.names"], apart := false, laid := [("unicode/utf8.acceptRanges", laid_unicode_utf8_acceptRanges), ("netsegment/calendar.names", laid_netsegment_calendar_names), ("unicode/utf8.first", laid_unicode_utf8_first)], narrowed := true }
def IntentParsesUptoSaid : Prop := intentParsesUptoRow.holds Tryz.pinned (OpenSpec.upto intentParsesSpec)

/-- 'nsglaw16.IntentCounts', WHERE WHAT IT READS IS OF BULK AT MOST 1048576: true; the input reads as it did. -/
def intentCountsUptoRow : OpenClaim := { program := "ytkaobkjcjodffaagreatdoor", sum := "7ecc551fd2c9203909c2892107ff15936f59502bcab0e0efbac14382be3de6ea", func := "netsegment/nsglaw16.IntentCounts", spec := "intentCounts", inPlace := ["internal/bytealg.CountString", "internal/bytealg.IndexByteString", "internal/bytealg.IndexString"], unfollowed := true, recurses := true, named := ["unicode/utf8.first", "unicode/utf8.acceptRanges", "internal/bytealg.MaxLen", "netsegment/calendar.names"], apart := false, laid := [("unicode/utf8.acceptRanges", laid_unicode_utf8_acceptRanges), ("netsegment/calendar.names", laid_netsegment_calendar_names), ("unicode/utf8.first", laid_unicode_utf8_first)], narrowed := true }
def IntentCountsUptoSaid : Prop := intentCountsUptoRow.holds Tryz.pinned (OpenSpec.upto intentCountsSpec)

/-- 'nsglaw16.IntentOrder', WHERE WHAT IT READS IS OF BULK AT MOST 1048576: true; the input reads as it did. -/
def intentOrderUptoRow : OpenClaim := { program := "ytkaobkjcjodffaagreatdoor", sum := "7ecc551fd2c9203909c2892107ff15936f59502bcab0e0efbac14382be3de6ea", func := "netsegment/nsglaw16.IntentOrder", spec := "intentOrder", inPlace := ["internal/bytealg.CountString", "internal/bytealg.IndexByteString", "internal/bytealg.IndexString"], unfollowed := true, recurses := true, named := ["unicode/utf8.first", "unicode/utf8.acceptRanges", "internal/bytealg.MaxLen", "netsegment/calendar.names"], apart := false, laid := [("unicode/utf8.acceptRanges", laid_unicode_utf8_acceptRanges), ("netsegment/calendar.names", laid_netsegment_calendar_names), ("unicode/utf8.first", laid_unicode_utf8_first)], narrowed := true }
def IntentOrderUptoSaid : Prop := intentOrderUptoRow.holds Tryz.pinned (OpenSpec.upto intentOrderSpec)

/-- 'nsglaw16.IntentStatements', WHERE WHAT IT READS IS OF BULK AT MOST 1048576: true; the input reads as it did. -/
def intentStatementsUptoRow : OpenClaim := { program := "ytkaobkjcjodffaagreatdoor", sum := "7ecc551fd2c9203909c2892107ff15936f59502bcab0e0efbac14382be3de6ea", func := "netsegment/nsglaw16.IntentStatements", spec := "intentStatements", inPlace := ["internal/bytealg.CountString", "internal/bytealg.IndexByteString", "internal/bytealg.IndexString"], unfollowed := true, recurses := true, named := ["unicode/utf8.first", "unicode/utf8.acceptRanges", "internal/bytealg.MaxLen", "netsegment/calendar.names"], apart := false, laid := [("unicode/utf8.acceptRanges", laid_unicode_utf8_acceptRanges), ("netsegment/calendar.names", laid_netsegment_calendar_names), ("unicode/utf8.first", laid_unicode_utf8_first)], narrowed := true }
def IntentStatementsUptoSaid : Prop := intentStatementsUptoRow.holds Tryz.pinned (OpenSpec.upto intentStatementsSpec)

/-- 'nsglaw16.IntentReads', WHERE WHAT IT READS IS OF BULK AT MOST 1048576: true; the input reads as it did. -/
def intentReadsUptoRow : OpenClaim := { program := "ytkaobkjcjodffaagreatdoor", sum := "7ecc551fd2c9203909c2892107ff15936f59502bcab0e0efbac14382be3de6ea", func := "netsegment/nsglaw16.IntentReads", spec := "intentReads", inPlace := ["internal/abi.NoEscape", "internal/bytealg.MakeNoZero", "internal/bytealg.CountString", "internal/bytealg.IndexByteString", "internal/bytealg.IndexString"], unfollowed := true, recurses := true, named := ["netsegment/calendar.names", "internal/strconv.uint64pow10", "math/bits.deBruijn32tab", "math/bits.deBruijn64tab", "unicode/utf8.first", "unicode/utf8.acceptRanges", "internal/bytealg.MaxLen"], apart := false, laid := [("math/bits.deBruijn32tab", laid_math_bits_deBruijn32tab), ("math/bits.deBruijn64tab", laid_math_bits_deBruijn64tab), ("internal/strconv.uint64pow10", laid_internal_strconv_uint64pow10), ("unicode/utf8.acceptRanges", laid_unicode_utf8_acceptRanges), ("netsegment/calendar.names", laid_netsegment_calendar_names), ("unicode/utf8.first", laid_unicode_utf8_first)], narrowed := true }
def IntentReadsUptoSaid : Prop := intentReadsUptoRow.holds Tryz.pinned (OpenSpec.upto intentReadsSpec)

/-- 'nsglaw16.IntentRoundTrip', WHERE WHAT IT READS IS OF BULK AT MOST 1048576: true; the input reads as it did. -/
def intentRoundTripUptoRow : OpenClaim := { program := "ytkaobkjcjodffaagreatdoor", sum := "7ecc551fd2c9203909c2892107ff15936f59502bcab0e0efbac14382be3de6ea", func := "netsegment/nsglaw16.IntentRoundTrip", spec := "intentRoundTrip", inPlace := ["internal/abi.NoEscape", "internal/bytealg.MakeNoZero", "internal/bytealg.CountString", "internal/bytealg.IndexByteString", "internal/bytealg.IndexString"], unfollowed := true, recurses := true, named := ["netsegment/calendar.names", "internal/strconv.uint64pow10", "math/bits.deBruijn32tab", "math/bits.deBruijn64tab", "unicode/utf8.first", "unicode/utf8.acceptRanges", "internal/bytealg.MaxLen"], apart := false, laid := [("math/bits.deBruijn32tab", laid_math_bits_deBruijn32tab), ("math/bits.deBruijn64tab", laid_math_bits_deBruijn64tab), ("internal/strconv.uint64pow10", laid_internal_strconv_uint64pow10), ("unicode/utf8.acceptRanges", laid_unicode_utf8_acceptRanges), ("netsegment/calendar.names", laid_netsegment_calendar_names), ("unicode/utf8.first", laid_unicode_utf8_first)], narrowed := true }
def IntentRoundTripUptoSaid : Prop := intentRoundTripUptoRow.holds Tryz.pinned (OpenSpec.upto intentRoundTripSpec)

/-- 'nsglaw16.IntentAccepts', WHERE WHAT IT READS IS OF BULK AT MOST 1048576: true; the input reads as it did. -/
def intentAcceptsUptoRow : OpenClaim := { program := "ytkaobkjcjodffaagreatdoor", sum := "7ecc551fd2c9203909c2892107ff15936f59502bcab0e0efbac14382be3de6ea", func := "netsegment/nsglaw16.IntentAccepts", spec := "intentAccepts", inPlace := ["internal/bytealg.CountString", "internal/bytealg.IndexByteString", "internal/bytealg.IndexString", "internal/abi.NoEscape", "internal/bytealg.MakeNoZero"], unfollowed := true, recurses := true, named := ["unicode/utf8.first", "unicode/utf8.acceptRanges", "internal/bytealg.MaxLen", "netsegment/calendar.names", "internal/strconv.uint64pow10", "math/bits.deBruijn32tab", "math/bits.deBruijn64tab"], apart := false, laid := [("math/bits.deBruijn32tab", laid_math_bits_deBruijn32tab), ("math/bits.deBruijn64tab", laid_math_bits_deBruijn64tab), ("internal/strconv.uint64pow10", laid_internal_strconv_uint64pow10), ("unicode/utf8.acceptRanges", laid_unicode_utf8_acceptRanges), ("netsegment/calendar.names", laid_netsegment_calendar_names), ("unicode/utf8.first", laid_unicode_utf8_first)], narrowed := true }
def IntentAcceptsUptoSaid : Prop := intentAcceptsUptoRow.holds Tryz.pinned (OpenSpec.upto intentAcceptsSpec)

end Rows
end Go.Proofs.YtkaobkjcjodffaaGreatDoor
