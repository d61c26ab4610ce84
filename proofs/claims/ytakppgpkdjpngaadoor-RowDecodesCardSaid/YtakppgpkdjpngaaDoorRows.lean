/-
  NARROWER THAN 'FOR EVERY INPUT', by the rows' own cells (each row's printed sentence says how): RowNumbers: laid · RowChecks: loops, laid · RowEncodes: loops, laid · RowDecodes: loops, laid · RowValues: loops, laid · RowBack: loops, laid · RowStream: loops, laid · RowBegins: loops, laid · RowReads: loops, laid.
  DERIVED. THE GIVEN ROWS OF THIS SEAT. 9 by the template 'for every input the law returns true; each argument reads behind the call as it read before'; 0 by the template 'total and deterministic' (their statements: YtakppgpkdjpngaaDoorTotals.lean).
  GIVEN WITH THE SEED: the statements are not yours to turn. If you find one false, say at which input.
  Laid BY PROGRAM, IN A SANDBOX (cutbox-rows.mjs): the forced cells as the released guide's own fill.sh prints them over the translation eded4a576b204e37… (all of the seat's roots in one cut). By AI agents, Wed Nov 11 2026. No macro, syntax, notation, axiom, sorry.
-/
import Derived.Test.YtakppgpkdjpngaaDoorChecked
import GoSem.PinnedTables
import GoSem.Claim
import GoSem.ClaimJoined
import GoSem.ClaimMapViews
import Derived.JoinedTies
import Derived.KernelRfl
namespace Go.Proofs.YtakppgpkdjpngaaDoor
/- THE CELL 'sum', in the pinned program and in every row, IS THE sha256 OF THE DUMP (.gsa) THAT YtakppgpkdjpngaaDoorProg.lean LOADS. Nothing in Lean hashes anything: it is a label: what it is worth is what the hold of that sum in a sandbox is worth. -/
noncomputable def Tryd.pinned : Pinned := { name := "ytakppgpkdjpngaadoor", sum := "eded4a576b204e379d75cbd1d69036dd52e0b3ef501e10c7b75a3b8bb42d6b26", checked := Tryd.checked }
namespace Rows
def none {H : Type} : Left H := { results := [], args := [] }

/- WHAT THE LISTED PACKAGE-LEVEL VARIABLES READ AS WHEN THE CALL BEGINS. Each datum BY PROGRAM (the guide's laid-datum.mjs) off the statement by which the dump's own 'gosem.cut.vars' lays the variable. In a bare row this is a premise. The card (YtakppgpkdjpngaaDoorCards.lean) ties it to the program's text. -/
def laid_unicode_utf8_acceptRanges {H : Type} : DataW H := .agg [.agg [.lit (.int .u8 128), .lit (.int .u8 191)], .agg [.lit (.int .u8 160), .lit (.int .u8 191)], .agg [.lit (.int .u8 128), .lit (.int .u8 159)], .agg [.lit (.int .u8 144), .lit (.int .u8 191)], .agg [.lit (.int .u8 128), .lit (.int .u8 143)], .agg [.lit (.int .u8 0), .lit (.int .u8 0)], .agg [.lit (.int .u8 0), .lit (.int .u8 0)], .agg [.lit (.int .u8 0), .lit (.int .u8 0)], .agg [.lit (.int .u8 0), .lit (.int .u8 0)], .agg [.lit (.int .u8 0), .lit (.int .u8 0)], .agg [.lit (.int .u8 0), .lit (.int .u8 0)], .agg [.lit (.int .u8 0), .lit (.int .u8 0)], .agg [.lit (.int .u8 0), .lit (.int .u8 0)], .agg [.lit (.int .u8 0), .lit (.int .u8 0)], .agg [.lit (.int .u8 0), .lit (.int .u8 0)], .agg [.lit (.int .u8 0), .lit (.int .u8 0)]]
/-- One of Go's own tables, pinned by name: the form's constant. -/
def laid_unicode_utf8_first : DataW Unit := Go.Pinned.utf8First

/-- 'gabionlaw08.RowNumbers': WHATEVER THE INPUT: true; the input reads as it did. -/
def rowNumbersSpec : ChangeSpec := { name := "rowNumbers", fn := fun _ => fun
  | [] => { results := [.lit (.bool true)], args := [] }
  | _ => none }
def rowNumbersRow : OpenClaim := { program := "ytakppgpkdjpngaadoor", sum := "eded4a576b204e379d75cbd1d69036dd52e0b3ef501e10c7b75a3b8bb42d6b26", func := "gabion/gabionlaw08.RowNumbers", spec := "rowNumbers", inPlace := ["math.Float64bits", "math.Float64frombits"], unfollowed := true, recurses := true, named := ["unicode/utf8.first", "unicode/utf8.acceptRanges"], apart := false, laid := [("unicode/utf8.acceptRanges", laid_unicode_utf8_acceptRanges), ("unicode/utf8.first", laid_unicode_utf8_first)] }
def RowNumbersSaid : Prop := rowNumbersRow.holds Tryd.pinned (OpenSpec.ofChange rowNumbersSpec)

/-- ITS FALSE NEIGHBOUR: 'it returns false'. Refute it at one input. -/
def rowNumbersWrong : ChangeSpec := { name := "rowNumbers", fn := fun _ => fun
  | [] => { results := [.lit (.bool false)], args := [] }
  | _ => none }
def RowNumbersWrongFalsely : Prop := rowNumbersRow.holds Tryd.pinned (OpenSpec.ofChange rowNumbersWrong)

/-- 'gabionlaw08.RowChecks': WHATEVER THE INPUT: true; the input reads as it did. -/
def rowChecksSpec : ChangeSpec := { name := "rowChecks", fn := fun _ => fun
  | [d1, d2] => { results := [.lit (.bool true)], args := [d1, d2] }
  | _ => none }
def rowChecksRow : OpenClaim := { program := "ytakppgpkdjpngaadoor", sum := "eded4a576b204e379d75cbd1d69036dd52e0b3ef501e10c7b75a3b8bb42d6b26", func := "gabion/gabionlaw08.RowChecks", spec := "rowChecks", inPlace := ["math.Float64frombits", "math.Float64bits"], unfollowed := true, recurses := true, named := ["unicode/utf8.first", "unicode/utf8.acceptRanges"], loops := true, apart := false, laid := [("unicode/utf8.acceptRanges", laid_unicode_utf8_acceptRanges), ("unicode/utf8.first", laid_unicode_utf8_first)] }
def RowChecksSaid : Prop := rowChecksRow.holds Tryd.pinned (OpenSpec.ofChange rowChecksSpec)

/-- ITS FALSE NEIGHBOUR: 'it returns false'. Refute it at one input. -/
def rowChecksWrong : ChangeSpec := { name := "rowChecks", fn := fun _ => fun
  | [d1, d2] => { results := [.lit (.bool false)], args := [d1, d2] }
  | _ => none }
def RowChecksWrongFalsely : Prop := rowChecksRow.holds Tryd.pinned (OpenSpec.ofChange rowChecksWrong)

/-- 'gabionlaw08.RowEncodes': WHATEVER THE INPUT: true; the input reads as it did. -/
def rowEncodesSpec : ChangeSpec := { name := "rowEncodes", fn := fun _ => fun
  | [d1, d2] => { results := [.lit (.bool true)], args := [d1, d2] }
  | _ => none }
def rowEncodesRow : OpenClaim := { program := "ytakppgpkdjpngaadoor", sum := "eded4a576b204e379d75cbd1d69036dd52e0b3ef501e10c7b75a3b8bb42d6b26", func := "gabion/gabionlaw08.RowEncodes", spec := "rowEncodes", inPlace := ["math.Float64frombits", "math.Float64bits"], unfollowed := true, recurses := true, named := ["unicode/utf8.first", "unicode/utf8.acceptRanges"], loops := true, apart := false, laid := [("unicode/utf8.acceptRanges", laid_unicode_utf8_acceptRanges), ("unicode/utf8.first", laid_unicode_utf8_first)] }
def RowEncodesSaid : Prop := rowEncodesRow.holds Tryd.pinned (OpenSpec.ofChange rowEncodesSpec)

/-- ITS FALSE NEIGHBOUR: 'it returns false'. Refute it at one input. -/
def rowEncodesWrong : ChangeSpec := { name := "rowEncodes", fn := fun _ => fun
  | [d1, d2] => { results := [.lit (.bool false)], args := [d1, d2] }
  | _ => none }
def RowEncodesWrongFalsely : Prop := rowEncodesRow.holds Tryd.pinned (OpenSpec.ofChange rowEncodesWrong)

/-- 'gabionlaw08.RowDecodes': WHATEVER THE INPUT: true; the input reads as it did. -/
def rowDecodesSpec : ChangeSpec := { name := "rowDecodes", fn := fun _ => fun
  | [d1, d2, d3] => { results := [.lit (.bool true)], args := [d1, d2, d3] }
  | _ => none }
def rowDecodesRow : OpenClaim := { program := "ytakppgpkdjpngaadoor", sum := "eded4a576b204e379d75cbd1d69036dd52e0b3ef501e10c7b75a3b8bb42d6b26", func := "gabion/gabionlaw08.RowDecodes", spec := "rowDecodes", inPlace := ["math.Float64frombits", "math.Float64bits"], unfollowed := true, recurses := true, named := ["unicode/utf8.first", "unicode/utf8.acceptRanges"], loops := true, apart := false, laid := [("unicode/utf8.acceptRanges", laid_unicode_utf8_acceptRanges), ("unicode/utf8.first", laid_unicode_utf8_first)] }
def RowDecodesSaid : Prop := rowDecodesRow.holds Tryd.pinned (OpenSpec.ofChange rowDecodesSpec)

/-- ITS FALSE NEIGHBOUR: 'it returns false'. Refute it at one input. -/
def rowDecodesWrong : ChangeSpec := { name := "rowDecodes", fn := fun _ => fun
  | [d1, d2, d3] => { results := [.lit (.bool false)], args := [d1, d2, d3] }
  | _ => none }
def RowDecodesWrongFalsely : Prop := rowDecodesRow.holds Tryd.pinned (OpenSpec.ofChange rowDecodesWrong)

/-- 'gabionlaw08.RowValues': WHATEVER THE INPUT: true; the input reads as it did. -/
def rowValuesSpec : ChangeSpec := { name := "rowValues", fn := fun _ => fun
  | [d1, d2] => { results := [.lit (.bool true)], args := [d1, d2] }
  | _ => none }
def rowValuesRow : OpenClaim := { program := "ytakppgpkdjpngaadoor", sum := "eded4a576b204e379d75cbd1d69036dd52e0b3ef501e10c7b75a3b8bb42d6b26", func := "gabion/gabionlaw08.RowValues", spec := "rowValues", inPlace := ["math.Float64frombits", "math.Float64bits"], unfollowed := true, recurses := true, named := ["unicode/utf8.first", "unicode/utf8.acceptRanges"], loops := true, apart := false, laid := [("unicode/utf8.acceptRanges", laid_unicode_utf8_acceptRanges), ("unicode/utf8.first", laid_unicode_utf8_first)] }
def RowValuesSaid : Prop := rowValuesRow.holds Tryd.pinned (OpenSpec.ofChange rowValuesSpec)

/-- ITS FALSE NEIGHBOUR: 'it returns false'. Refute it at one input. -/
def rowValuesWrong : ChangeSpec := { name := "rowValues", fn := fun _ => fun
  | [d1, d2] => { results := [.lit (.bool false)], args := [d1, d2] }
  | _ => none }
def RowValuesWrongFalsely : Prop := rowValuesRow.holds Tryd.pinned (OpenSpec.ofChange rowValuesWrong)

/-- 'gabionlaw08.RowBack': WHATEVER THE INPUT: true; the input reads as it did. -/
def rowBackSpec : ChangeSpec := { name := "rowBack", fn := fun _ => fun
  | [d] => { results := [.lit (.bool true)], args := [d] }
  | _ => none }
def rowBackRow : OpenClaim := { program := "ytakppgpkdjpngaadoor", sum := "eded4a576b204e379d75cbd1d69036dd52e0b3ef501e10c7b75a3b8bb42d6b26", func := "gabion/gabionlaw08.RowBack", spec := "rowBack", inPlace := ["math.Float64frombits", "math.Float64bits"], unfollowed := true, recurses := true, named := ["unicode/utf8.first", "unicode/utf8.acceptRanges"], loops := true, apart := false, laid := [("unicode/utf8.acceptRanges", laid_unicode_utf8_acceptRanges), ("unicode/utf8.first", laid_unicode_utf8_first)] }
def RowBackSaid : Prop := rowBackRow.holds Tryd.pinned (OpenSpec.ofChange rowBackSpec)

/-- ITS FALSE NEIGHBOUR: 'it returns false'. Refute it at one input. -/
def rowBackWrong : ChangeSpec := { name := "rowBack", fn := fun _ => fun
  | [d] => { results := [.lit (.bool false)], args := [d] }
  | _ => none }
def RowBackWrongFalsely : Prop := rowBackRow.holds Tryd.pinned (OpenSpec.ofChange rowBackWrong)

/-- 'gabionlaw08.RowStream': WHATEVER THE INPUT: true; the input reads as it did. -/
def rowStreamSpec : ChangeSpec := { name := "rowStream", fn := fun _ => fun
  | [d1, d2] => { results := [.lit (.bool true)], args := [d1, d2] }
  | _ => none }
def rowStreamRow : OpenClaim := { program := "ytakppgpkdjpngaadoor", sum := "eded4a576b204e379d75cbd1d69036dd52e0b3ef501e10c7b75a3b8bb42d6b26", func := "gabion/gabionlaw08.RowStream", spec := "rowStream", inPlace := ["math.Float64frombits", "math.Float64bits"], unfollowed := true, recurses := true, named := ["unicode/utf8.first", "unicode/utf8.acceptRanges"], loops := true, apart := false, laid := [("unicode/utf8.acceptRanges", laid_unicode_utf8_acceptRanges), ("unicode/utf8.first", laid_unicode_utf8_first)] }
def RowStreamSaid : Prop := rowStreamRow.holds Tryd.pinned (OpenSpec.ofChange rowStreamSpec)

/-- ITS FALSE NEIGHBOUR: 'it returns false'. Refute it at one input. -/
def rowStreamWrong : ChangeSpec := { name := "rowStream", fn := fun _ => fun
  | [d1, d2] => { results := [.lit (.bool false)], args := [d1, d2] }
  | _ => none }
def RowStreamWrongFalsely : Prop := rowStreamRow.holds Tryd.pinned (OpenSpec.ofChange rowStreamWrong)

/-- 'gabionlaw08.RowBegins': WHATEVER THE INPUT: true; the input reads as it did. -/
def rowBeginsSpec : ChangeSpec := { name := "rowBegins", fn := fun _ => fun
  | [d1, d2, d3] => { results := [.lit (.bool true)], args := [d1, d2, d3] }
  | _ => none }
def rowBeginsRow : OpenClaim := { program := "ytakppgpkdjpngaadoor", sum := "eded4a576b204e379d75cbd1d69036dd52e0b3ef501e10c7b75a3b8bb42d6b26", func := "gabion/gabionlaw08.RowBegins", spec := "rowBegins", inPlace := ["math.Float64frombits", "math.Float64bits"], unfollowed := true, recurses := true, named := ["unicode/utf8.first", "unicode/utf8.acceptRanges"], loops := true, apart := false, laid := [("unicode/utf8.acceptRanges", laid_unicode_utf8_acceptRanges), ("unicode/utf8.first", laid_unicode_utf8_first)] }
def RowBeginsSaid : Prop := rowBeginsRow.holds Tryd.pinned (OpenSpec.ofChange rowBeginsSpec)

/-- ITS FALSE NEIGHBOUR: 'it returns false'. Refute it at one input. -/
def rowBeginsWrong : ChangeSpec := { name := "rowBegins", fn := fun _ => fun
  | [d1, d2, d3] => { results := [.lit (.bool false)], args := [d1, d2, d3] }
  | _ => none }
def RowBeginsWrongFalsely : Prop := rowBeginsRow.holds Tryd.pinned (OpenSpec.ofChange rowBeginsWrong)

/-- 'gabionlaw08.RowReads': WHATEVER THE INPUT: true; the input reads as it did. -/
def rowReadsSpec : ChangeSpec := { name := "rowReads", fn := fun _ => fun
  | [d1, d2, d3] => { results := [.lit (.bool true)], args := [d1, d2, d3] }
  | _ => none }
def rowReadsRow : OpenClaim := { program := "ytakppgpkdjpngaadoor", sum := "eded4a576b204e379d75cbd1d69036dd52e0b3ef501e10c7b75a3b8bb42d6b26", func := "gabion/gabionlaw08.RowReads", spec := "rowReads", inPlace := ["math.Float64frombits", "math.Float64bits"], unfollowed := true, recurses := true, named := ["unicode/utf8.first", "unicode/utf8.acceptRanges"], loops := true, apart := false, laid := [("unicode/utf8.acceptRanges", laid_unicode_utf8_acceptRanges), ("unicode/utf8.first", laid_unicode_utf8_first)] }
def RowReadsSaid : Prop := rowReadsRow.holds Tryd.pinned (OpenSpec.ofChange rowReadsSpec)

/-- ITS FALSE NEIGHBOUR: 'it returns false'. Refute it at one input. -/
def rowReadsWrong : ChangeSpec := { name := "rowReads", fn := fun _ => fun
  | [d1, d2, d3] => { results := [.lit (.bool false)], args := [d1, d2, d3] }
  | _ => none }
def RowReadsWrongFalsely : Prop := rowReadsRow.holds Tryd.pinned (OpenSpec.ofChange rowReadsWrong)

/- THE SECOND FORM. 'bulk': how many values and letters a reading holds, each counted each time it is reached (what is shared counts as often as it is met; a slice's spare places count too). A statement '..UptoSaid' is the law's where the arguments, and the package variables that the reading takes, are together of bulk at most 1048576: NARROWER than '..Said'. Prove '..Said' where nothing that the law and all that it calls make is longer than what came in: it says more and counts as full. Else prove '..UptoSaid'. A law counts once. -/
mutual
def uptoBulk {H : Type} : DataW H → Nat
  | .lit (.string bytes) => bytes.length + 1
  | .lit _ => 1
  | .nil => 1
  | .ptr d => uptoBulk d + 1
  | .slice elems spare => uptoBulkAll elems + uptoBulkAll spare + 1
  | .agg parts => uptoBulkAll parts + 1
  | .iface _ d => uptoBulk d + 1
  | .map entries => uptoBulkEntries entries + 1
  | .held _ => 1
def uptoBulkAll {H : Type} : List (DataW H) → Nat
  | [] => 0
  | d :: r => uptoBulk d + uptoBulkAll r
def uptoBulkEntries {H : Type} : List (Lit × DataW H) → Nat
  | [] => 0
  | x :: r => uptoBulkEntry x + uptoBulkEntries r
def uptoBulkEntry {H : Type} : Lit × DataW H → Nat
  | (.string bytes, d) => bytes.length + uptoBulk d + 1
  | (_, d) => uptoBulk d + 1
 end
def uptoSmall : (H : Type) → List (DataW H) → Bool := fun _ ds => decide (uptoBulkAll ds ≤ 1048576)
def OpenSpec.upto (s : _root_.Go.ChangeSpec) : _root_.Go.OpenSpec := { _root_.Go.OpenSpec.ofChange s with cond := some uptoSmall }

/-- 'gabionlaw08.RowNumbers', WHERE WHAT IT READS IS OF BULK AT MOST 1048576: true; the input reads as it did. -/
def rowNumbersUptoRow : OpenClaim := { program := "ytakppgpkdjpngaadoor", sum := "eded4a576b204e379d75cbd1d69036dd52e0b3ef501e10c7b75a3b8bb42d6b26", func := "gabion/gabionlaw08.RowNumbers", spec := "rowNumbers", inPlace := ["math.Float64bits", "math.Float64frombits"], unfollowed := true, recurses := true, named := ["unicode/utf8.first", "unicode/utf8.acceptRanges"], apart := false, laid := [("unicode/utf8.acceptRanges", laid_unicode_utf8_acceptRanges), ("unicode/utf8.first", laid_unicode_utf8_first)], narrowed := true }
def RowNumbersUptoSaid : Prop := rowNumbersUptoRow.holds Tryd.pinned (OpenSpec.upto rowNumbersSpec)

/-- 'gabionlaw08.RowChecks', WHERE WHAT IT READS IS OF BULK AT MOST 1048576: true; the input reads as it did. -/
def rowChecksUptoRow : OpenClaim := { program := "ytakppgpkdjpngaadoor", sum := "eded4a576b204e379d75cbd1d69036dd52e0b3ef501e10c7b75a3b8bb42d6b26", func := "gabion/gabionlaw08.RowChecks", spec := "rowChecks", inPlace := ["math.Float64frombits", "math.Float64bits"], unfollowed := true, recurses := true, named := ["unicode/utf8.first", "unicode/utf8.acceptRanges"], loops := true, apart := false, laid := [("unicode/utf8.acceptRanges", laid_unicode_utf8_acceptRanges), ("unicode/utf8.first", laid_unicode_utf8_first)], narrowed := true }
def RowChecksUptoSaid : Prop := rowChecksUptoRow.holds Tryd.pinned (OpenSpec.upto rowChecksSpec)

/-- 'gabionlaw08.RowEncodes', WHERE WHAT IT READS IS OF BULK AT MOST 1048576: true; the input reads as it did. -/
def rowEncodesUptoRow : OpenClaim := { program := "ytakppgpkdjpngaadoor", sum := "eded4a576b204e379d75cbd1d69036dd52e0b3ef501e10c7b75a3b8bb42d6b26", func := "gabion/gabionlaw08.RowEncodes", spec := "rowEncodes", inPlace := ["math.Float64frombits", "math.Float64bits"], unfollowed := true, recurses := true, named := ["unicode/utf8.first", "unicode/utf8.acceptRanges"], loops := true, apart := false, laid := [("unicode/utf8.acceptRanges", laid_unicode_utf8_acceptRanges), ("unicode/utf8.first", laid_unicode_utf8_first)], narrowed := true }
def RowEncodesUptoSaid : Prop := rowEncodesUptoRow.holds Tryd.pinned (OpenSpec.upto rowEncodesSpec)

/-- 'gabionlaw08.RowDecodes', WHERE WHAT IT READS IS OF BULK AT MOST 1048576: true; the input reads as it did. -/
def rowDecodesUptoRow : OpenClaim := { program := "ytakppgpkdjpngaadoor", sum := "eded4a576b204e379d75cbd1d69036dd52e0b3ef501e10c7b75a3b8bb42d6b26", func := "gabion/gabionlaw08.RowDecodes", spec := "rowDecodes", inPlace := ["math.Float64frombits", "math.Float64bits"], unfollowed := true, recurses := true, named := ["unicode/utf8.first", "unicode/utf8.acceptRanges"], loops := true, apart := false, laid := [("unicode/utf8.acceptRanges", laid_unicode_utf8_acceptRanges), ("unicode/utf8.first", laid_unicode_utf8_first)], narrowed := true }
def RowDecodesUptoSaid : Prop := rowDecodesUptoRow.holds Tryd.pinned (OpenSpec.upto rowDecodesSpec)

/-- 'gabionlaw08.RowValues', WHERE WHAT IT READS IS OF BULK AT MOST 1048576: true; the input reads as it did. -/
def rowValuesUptoRow : OpenClaim := { program := "ytakppgpkdjpngaadoor", sum := "eded4a576b204e379d75cbd1d69036dd52e0b3ef501e10c7b75a3b8bb42d6b26", func := "gabion/gabionlaw08.RowValues", spec := "rowValues", inPlace := ["math.Float64frombits", "math.Float64bits"], unfollowed := true, recurses := true, named := ["unicode/utf8.first", "unicode/utf8.acceptRanges"], loops := true, apart := false, laid := [("unicode/utf8.acceptRanges", laid_unicode_utf8_acceptRanges), ("unicode/utf8.first", laid_unicode_utf8_first)], narrowed := true }
def RowValuesUptoSaid : Prop := rowValuesUptoRow.holds Tryd.pinned (OpenSpec.upto rowValuesSpec)

/-- 'gabionlaw08.RowBack', WHERE WHAT IT READS IS OF BULK AT MOST 1048576: true; the input reads as it did. -/
def rowBackUptoRow : OpenClaim := { program := "ytakppgpkdjpngaadoor", sum := "eded4a576b204e379d75cbd1d69036dd52e0b3ef501e10c7b75a3b8bb42d6b26", func := "gabion/gabionlaw08.RowBack", spec := "rowBack", inPlace := ["math.Float64frombits", "math.Float64bits"], unfollowed := true, recurses := true, named := ["unicode/utf8.first", "unicode/utf8.acceptRanges"], loops := true, apart := false, laid := [("unicode/utf8.acceptRanges", laid_unicode_utf8_acceptRanges), ("unicode/utf8.first", laid_unicode_utf8_first)], narrowed := true }
def RowBackUptoSaid : Prop := rowBackUptoRow.holds Tryd.pinned (OpenSpec.upto rowBackSpec)

/-- 'gabionlaw08.RowStream', WHERE WHAT IT READS IS OF BULK AT MOST 1048576: true; the input reads as it did. -/
def rowStreamUptoRow : OpenClaim := { program := "ytakppgpkdjpngaadoor", sum := "eded4a576b204e379d75cbd1d69036dd52e0b3ef501e10c7b75a3b8bb42d6b26", func := "gabion/gabionlaw08.RowStream", spec := "rowStream", inPlace := ["math.Float64frombits", "math.Float64bits"], unfollowed := true, recurses := true, named := ["unicode/utf8.first", "unicode/utf8.acceptRanges"], loops := true, apart := false, laid := [("unicode/utf8.acceptRanges", laid_unicode_utf8_acceptRanges), ("unicode/utf8.first", laid_unicode_utf8_first)], narrowed := true }
def RowStreamUptoSaid : Prop := rowStreamUptoRow.holds Tryd.pinned (OpenSpec.upto rowStreamSpec)

/-- 'gabionlaw08.RowBegins', WHERE WHAT IT READS IS OF BULK AT MOST 1048576: true; the input reads as it did. -/
def rowBeginsUptoRow : OpenClaim := { program := "ytakppgpkdjpngaadoor", sum := "eded4a576b204e379d75cbd1d69036dd52e0b3ef501e10c7b75a3b8bb42d6b26", func := "gabion/gabionlaw08.RowBegins", spec := "rowBegins", inPlace := ["math.Float64frombits", "math.Float64bits"], unfollowed := true, recurses := true, named := ["unicode/utf8.first", "unicode/utf8.acceptRanges"], loops := true, apart := false, laid := [("unicode/utf8.acceptRanges", laid_unicode_utf8_acceptRanges), ("unicode/utf8.first", laid_unicode_utf8_first)], narrowed := true }
def RowBeginsUptoSaid : Prop := rowBeginsUptoRow.holds Tryd.pinned (OpenSpec.upto rowBeginsSpec)

/-- 'gabionlaw08.RowReads', WHERE WHAT IT READS IS OF BULK AT MOST 1048576: true; the input reads as it did. -/
def rowReadsUptoRow : OpenClaim := { program := "ytakppgpkdjpngaadoor", sum := "eded4a576b204e379d75cbd1d69036dd52e0b3ef501e10c7b75a3b8bb42d6b26", func := "gabion/gabionlaw08.RowReads", spec := "rowReads", inPlace := ["math.Float64frombits", "math.Float64bits"], unfollowed := true, recurses := true, named := ["unicode/utf8.first", "unicode/utf8.acceptRanges"], loops := true, apart := false, laid := [("unicode/utf8.acceptRanges", laid_unicode_utf8_acceptRanges), ("unicode/utf8.first", laid_unicode_utf8_first)], narrowed := true }
def RowReadsUptoSaid : Prop := rowReadsUptoRow.holds Tryd.pinned (OpenSpec.upto rowReadsSpec)

end Rows
end Go.Proofs.YtakppgpkdjpngaaDoor
