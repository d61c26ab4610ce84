/-
  NARROWER THAN 'FOR EVERY INPUT', by the rows' own cells (each row's printed sentence says how): ValueNumbers: laid · ValueChecks: loops, laid · ValueFixes: loops, laid · ValueAlike: loops, laid · ValueUtfs: laid · ValueJoins: laid · ValueSames: loops, laid.
  DERIVED. THE GIVEN ROWS OF THIS SEAT. 7 by the template 'for every input the law returns true; each argument reads behind the call as it read before'; 0 by the template 'total and deterministic' (their statements: YtddmhilamoghcaaDoorTotals.lean).
  GIVEN WITH THE SEED: the statements are not yours to turn. If you find one false, say at which input.
  Laid BY PROGRAM, IN A SANDBOX (cutbox-rows.mjs): the forced cells as the released guide's own fill.sh prints them over the translation f66a8a66f3a612b8… (all of the seat's roots in one cut). By AI agents, Wed Nov 11 2026. No macro, syntax, notation, axiom, sorry.
-/
import Derived.Test.YtddmhilamoghcaaDoorChecked
import GoSem.PinnedTables
import GoSem.Claim
import GoSem.ClaimJoined
import GoSem.ClaimMapViews
import Derived.JoinedTies
import Derived.KernelRfl
namespace Go.Proofs.YtddmhilamoghcaaDoor
/- THE CELL 'sum', in the pinned program and in every row, IS THE sha256 OF THE DUMP (.gsa) THAT YtddmhilamoghcaaDoorProg.lean LOADS. Nothing in Lean hashes anything: it is a label: what it is worth is what the hold of that sum in a sandbox is worth. -/
noncomputable def Tryd.pinned : Pinned := { name := "ytddmhilamoghcaadoor", sum := "f66a8a66f3a612b82fb786e1c6495924ad5701e73b66795e6e40e45f7a59716e", checked := Tryd.checked }
namespace Rows
def none {H : Type} : Left H := { results := [], args := [] }

/- WHAT THE LISTED PACKAGE-LEVEL VARIABLES READ AS WHEN THE CALL BEGINS. Each datum BY PROGRAM (the guide's laid-datum.mjs) off the statement by which the dump's own 'gosem.cut.vars' lays the variable. In a bare row this is a premise. The card (YtddmhilamoghcaaDoorCards.lean) ties it to the program's text. -/
def laid_unicode_utf8_acceptRanges {H : Type} : DataW H := .agg [.agg [.lit (.int .u8 128), .lit (.int .u8 191)], .agg [.lit (.int .u8 160), .lit (.int .u8 191)], .agg [.lit (.int .u8 128), .lit (.int .u8 159)], .agg [.lit (.int .u8 144), .lit (.int .u8 191)], .agg [.lit (.int .u8 128), .lit (.int .u8 143)], .agg [.lit (.int .u8 0), .lit (.int .u8 0)], .agg [.lit (.int .u8 0), .lit (.int .u8 0)], .agg [.lit (.int .u8 0), .lit (.int .u8 0)], .agg [.lit (.int .u8 0), .lit (.int .u8 0)], .agg [.lit (.int .u8 0), .lit (.int .u8 0)], .agg [.lit (.int .u8 0), .lit (.int .u8 0)], .agg [.lit (.int .u8 0), .lit (.int .u8 0)], .agg [.lit (.int .u8 0), .lit (.int .u8 0)], .agg [.lit (.int .u8 0), .lit (.int .u8 0)], .agg [.lit (.int .u8 0), .lit (.int .u8 0)], .agg [.lit (.int .u8 0), .lit (.int .u8 0)]]
/-- One of Go's own tables, pinned by name: the form's constant. -/
def laid_unicode_utf8_first : DataW Unit := Go.Pinned.utf8First

/-- 'gabionlaw06.ValueNumbers': WHATEVER THE INPUT: true; the input reads as it did. -/
def valueNumbersSpec : ChangeSpec := { name := "valueNumbers", fn := fun _ => fun
  | [] => { results := [.lit (.bool true)], args := [] }
  | _ => none }
def valueNumbersRow : OpenClaim := { program := "ytddmhilamoghcaadoor", sum := "f66a8a66f3a612b82fb786e1c6495924ad5701e73b66795e6e40e45f7a59716e", func := "gabion/gabionlaw06.ValueNumbers", spec := "valueNumbers", inPlace := ["math.Float64frombits", "math.Float64bits"], recurses := true, named := ["unicode/utf8.first", "unicode/utf8.acceptRanges"], apart := false, laid := [("unicode/utf8.acceptRanges", laid_unicode_utf8_acceptRanges), ("unicode/utf8.first", laid_unicode_utf8_first)] }
def ValueNumbersSaid : Prop := valueNumbersRow.holds Tryd.pinned (OpenSpec.ofChange valueNumbersSpec)

/-- ITS FALSE NEIGHBOUR: 'it returns false'. Refute it at one input. -/
def valueNumbersWrong : ChangeSpec := { name := "valueNumbers", fn := fun _ => fun
  | [] => { results := [.lit (.bool false)], args := [] }
  | _ => none }
def ValueNumbersWrongFalsely : Prop := valueNumbersRow.holds Tryd.pinned (OpenSpec.ofChange valueNumbersWrong)

/-- 'gabionlaw06.ValueChecks': WHATEVER THE INPUT: true; the input reads as it did. -/
def valueChecksSpec : ChangeSpec := { name := "valueChecks", fn := fun _ => fun
  | [d] => { results := [.lit (.bool true)], args := [d] }
  | _ => none }
def valueChecksRow : OpenClaim := { program := "ytddmhilamoghcaadoor", sum := "f66a8a66f3a612b82fb786e1c6495924ad5701e73b66795e6e40e45f7a59716e", func := "gabion/gabionlaw06.ValueChecks", spec := "valueChecks", inPlace := ["math.Float64frombits", "math.Float64bits"], recurses := true, named := ["unicode/utf8.first", "unicode/utf8.acceptRanges"], loops := true, apart := false, laid := [("unicode/utf8.acceptRanges", laid_unicode_utf8_acceptRanges), ("unicode/utf8.first", laid_unicode_utf8_first)] }
def ValueChecksSaid : Prop := valueChecksRow.holds Tryd.pinned (OpenSpec.ofChange valueChecksSpec)

/-- ITS FALSE NEIGHBOUR: 'it returns false'. Refute it at one input. -/
def valueChecksWrong : ChangeSpec := { name := "valueChecks", fn := fun _ => fun
  | [d] => { results := [.lit (.bool false)], args := [d] }
  | _ => none }
def ValueChecksWrongFalsely : Prop := valueChecksRow.holds Tryd.pinned (OpenSpec.ofChange valueChecksWrong)

/-- 'gabionlaw06.ValueFixes': WHATEVER THE INPUT: true; the input reads as it did. -/
def valueFixesSpec : ChangeSpec := { name := "valueFixes", fn := fun _ => fun
  | [d] => { results := [.lit (.bool true)], args := [d] }
  | _ => none }
def valueFixesRow : OpenClaim := { program := "ytddmhilamoghcaadoor", sum := "f66a8a66f3a612b82fb786e1c6495924ad5701e73b66795e6e40e45f7a59716e", func := "gabion/gabionlaw06.ValueFixes", spec := "valueFixes", inPlace := ["math.Float64frombits", "math.Float64bits"], recurses := true, named := ["unicode/utf8.first", "unicode/utf8.acceptRanges"], loops := true, apart := false, laid := [("unicode/utf8.acceptRanges", laid_unicode_utf8_acceptRanges), ("unicode/utf8.first", laid_unicode_utf8_first)] }
def ValueFixesSaid : Prop := valueFixesRow.holds Tryd.pinned (OpenSpec.ofChange valueFixesSpec)

/-- ITS FALSE NEIGHBOUR: 'it returns false'. Refute it at one input. -/
def valueFixesWrong : ChangeSpec := { name := "valueFixes", fn := fun _ => fun
  | [d] => { results := [.lit (.bool false)], args := [d] }
  | _ => none }
def ValueFixesWrongFalsely : Prop := valueFixesRow.holds Tryd.pinned (OpenSpec.ofChange valueFixesWrong)

/-- 'gabionlaw06.ValueAlike': WHATEVER THE INPUT: true; the input reads as it did. -/
def valueAlikeSpec : ChangeSpec := { name := "valueAlike", fn := fun _ => fun
  | [d1, d2, d3] => { results := [.lit (.bool true)], args := [d1, d2, d3] }
  | _ => none }
def valueAlikeRow : OpenClaim := { program := "ytddmhilamoghcaadoor", sum := "f66a8a66f3a612b82fb786e1c6495924ad5701e73b66795e6e40e45f7a59716e", func := "gabion/gabionlaw06.ValueAlike", spec := "valueAlike", inPlace := ["math.Float64frombits", "math.Float64bits"], recurses := true, named := ["unicode/utf8.first", "unicode/utf8.acceptRanges"], loops := true, apart := false, laid := [("unicode/utf8.acceptRanges", laid_unicode_utf8_acceptRanges), ("unicode/utf8.first", laid_unicode_utf8_first)] }
def ValueAlikeSaid : Prop := valueAlikeRow.holds Tryd.pinned (OpenSpec.ofChange valueAlikeSpec)

/-- ITS FALSE NEIGHBOUR: 'it returns false'. Refute it at one input. -/
def valueAlikeWrong : ChangeSpec := { name := "valueAlike", fn := fun _ => fun
  | [d1, d2, d3] => { results := [.lit (.bool false)], args := [d1, d2, d3] }
  | _ => none }
def ValueAlikeWrongFalsely : Prop := valueAlikeRow.holds Tryd.pinned (OpenSpec.ofChange valueAlikeWrong)

/-- 'gabionlaw06.ValueUtfs': WHATEVER THE INPUT: true; the input reads as it did. -/
def valueUtfsSpec : ChangeSpec := { name := "valueUtfs", fn := fun _ => fun
  | [d] => { results := [.lit (.bool true)], args := [d] }
  | _ => none }
def valueUtfsRow : OpenClaim := { program := "ytddmhilamoghcaadoor", sum := "f66a8a66f3a612b82fb786e1c6495924ad5701e73b66795e6e40e45f7a59716e", func := "gabion/gabionlaw06.ValueUtfs", spec := "valueUtfs", inPlace := ["math.Float64frombits", "math.Float64bits"], recurses := true, named := ["unicode/utf8.first", "unicode/utf8.acceptRanges"], apart := false, laid := [("unicode/utf8.acceptRanges", laid_unicode_utf8_acceptRanges), ("unicode/utf8.first", laid_unicode_utf8_first)] }
def ValueUtfsSaid : Prop := valueUtfsRow.holds Tryd.pinned (OpenSpec.ofChange valueUtfsSpec)

/-- ITS FALSE NEIGHBOUR: 'it returns false'. Refute it at one input. -/
def valueUtfsWrong : ChangeSpec := { name := "valueUtfs", fn := fun _ => fun
  | [d] => { results := [.lit (.bool false)], args := [d] }
  | _ => none }
def ValueUtfsWrongFalsely : Prop := valueUtfsRow.holds Tryd.pinned (OpenSpec.ofChange valueUtfsWrong)

/-- 'gabionlaw06.ValueJoins': WHATEVER THE INPUT: true; the input reads as it did. -/
def valueJoinsSpec : ChangeSpec := { name := "valueJoins", fn := fun _ => fun
  | [d1, d2] => { results := [.lit (.bool true)], args := [d1, d2] }
  | _ => none }
def valueJoinsRow : OpenClaim := { program := "ytddmhilamoghcaadoor", sum := "f66a8a66f3a612b82fb786e1c6495924ad5701e73b66795e6e40e45f7a59716e", func := "gabion/gabionlaw06.ValueJoins", spec := "valueJoins", inPlace := ["math.Float64frombits", "math.Float64bits"], recurses := true, named := ["unicode/utf8.first", "unicode/utf8.acceptRanges"], apart := false, laid := [("unicode/utf8.acceptRanges", laid_unicode_utf8_acceptRanges), ("unicode/utf8.first", laid_unicode_utf8_first)] }
def ValueJoinsSaid : Prop := valueJoinsRow.holds Tryd.pinned (OpenSpec.ofChange valueJoinsSpec)

/-- ITS FALSE NEIGHBOUR: 'it returns false'. Refute it at one input. -/
def valueJoinsWrong : ChangeSpec := { name := "valueJoins", fn := fun _ => fun
  | [d1, d2] => { results := [.lit (.bool false)], args := [d1, d2] }
  | _ => none }
def ValueJoinsWrongFalsely : Prop := valueJoinsRow.holds Tryd.pinned (OpenSpec.ofChange valueJoinsWrong)

/-- 'gabionlaw06.ValueSames': WHATEVER THE INPUT: true; the input reads as it did. -/
def valueSamesSpec : ChangeSpec := { name := "valueSames", fn := fun _ => fun
  | [d1, d2, d3] => { results := [.lit (.bool true)], args := [d1, d2, d3] }
  | _ => none }
def valueSamesRow : OpenClaim := { program := "ytddmhilamoghcaadoor", sum := "f66a8a66f3a612b82fb786e1c6495924ad5701e73b66795e6e40e45f7a59716e", func := "gabion/gabionlaw06.ValueSames", spec := "valueSames", inPlace := ["math.Float64frombits", "math.Float64bits"], recurses := true, named := ["unicode/utf8.first", "unicode/utf8.acceptRanges"], loops := true, apart := false, laid := [("unicode/utf8.acceptRanges", laid_unicode_utf8_acceptRanges), ("unicode/utf8.first", laid_unicode_utf8_first)] }
def ValueSamesSaid : Prop := valueSamesRow.holds Tryd.pinned (OpenSpec.ofChange valueSamesSpec)

/-- ITS FALSE NEIGHBOUR: 'it returns false'. Refute it at one input. -/
def valueSamesWrong : ChangeSpec := { name := "valueSames", fn := fun _ => fun
  | [d1, d2, d3] => { results := [.lit (.bool false)], args := [d1, d2, d3] }
  | _ => none }
def ValueSamesWrongFalsely : Prop := valueSamesRow.holds Tryd.pinned (OpenSpec.ofChange valueSamesWrong)

/- THE SECOND FORM. 'bulk': how many values and letters a reading holds, each counted each time it is reached (what is shared counts as often as it is met; a slice's spare places count too). A statement '..UptoSaid' is the law's where the arguments, and the package variables that the reading takes, are together of bulk at most 1048576: NARROWER than '..Said'. Prove '..Said' where nothing that the law and all that it calls make is longer than what came in: it says more and counts as full. Else prove '..UptoSaid'. A law counts once. -/
mutual
def uptoBulk {H : Type} : DataW H → Nat
  | .lit (.string bytes) => bytes.length + 1
  | .lit _ => 1
  | .nil => 1
  | .ptr d => uptoBulk d + 1
  | .slice elems spare => uptoBulkAll elems + uptoBulkAll spare + 1
  | .agg parts => uptoBulkAll parts + 1
  | .iface _ d => uptoBulk d + 1
  | .map entries => uptoBulkEntries entries + 1
  | .held _ => 1
def uptoBulkAll {H : Type} : List (DataW H) → Nat
  | [] => 0
  | d :: r => uptoBulk d + uptoBulkAll r
def uptoBulkEntries {H : Type} : List (Lit × DataW H) → Nat
  | [] => 0
  | x :: r => uptoBulkEntry x + uptoBulkEntries r
def uptoBulkEntry {H : Type} : Lit × DataW H → Nat
  | (.string bytes, d) => bytes.length + uptoBulk d + 1
  | (_, d) => uptoBulk d + 1
 end
def uptoSmall : (H : Type) → List (DataW H) → Bool := fun _ ds => decide (uptoBulkAll ds ≤ 1048576)
def OpenSpec.upto (s : _root_.Go.ChangeSpec) : _root_.Go.OpenSpec := { _root_.Go.OpenSpec.ofChange s with cond := some uptoSmall }

/-- 'gabionlaw06.ValueNumbers', WHERE WHAT IT READS IS OF BULK AT MOST 1048576: true; the input reads as it did. -/
def valueNumbersUptoRow : OpenClaim := { program := "ytddmhilamoghcaadoor", sum := "f66a8a66f3a612b82fb786e1c6495924ad5701e73b66795e6e40e45f7a59716e", func := "gabion/gabionlaw06.ValueNumbers", spec := "valueNumbers", inPlace := ["math.Float64frombits", "math.Float64bits"], recurses := true, named := ["unicode/utf8.first", "unicode/utf8.acceptRanges"], apart := false, laid := [("unicode/utf8.acceptRanges", laid_unicode_utf8_acceptRanges), ("unicode/utf8.first", laid_unicode_utf8_first)], narrowed := true }
def ValueNumbersUptoSaid : Prop := valueNumbersUptoRow.holds Tryd.pinned (OpenSpec.upto valueNumbersSpec)

/-- 'gabionlaw06.ValueChecks', WHERE WHAT IT READS IS OF BULK AT MOST 1048576: true; the input reads as it did. -/
def valueChecksUptoRow : OpenClaim := { program := "ytddmhilamoghcaadoor", sum := "f66a8a66f3a612b82fb786e1c6495924ad5701e73b66795e6e40e45f7a59716e", func := "gabion/gabionlaw06.ValueChecks", spec := "valueChecks", inPlace := ["math.Float64frombits", "math.Float64bits"], recurses := true, named := ["unicode/utf8.first", "unicode/utf8.acceptRanges"], loops := true, apart := false, laid := [("unicode/utf8.acceptRanges", laid_unicode_utf8_acceptRanges), ("unicode/utf8.first", laid_unicode_utf8_first)], narrowed := true }
def ValueChecksUptoSaid : Prop := valueChecksUptoRow.holds Tryd.pinned (OpenSpec.upto valueChecksSpec)

/-- 'gabionlaw06.ValueFixes', WHERE WHAT IT READS IS OF BULK AT MOST 1048576: true; the input reads as it did. -/
def valueFixesUptoRow : OpenClaim := { program := "ytddmhilamoghcaadoor", sum := "f66a8a66f3a612b82fb786e1c6495924ad5701e73b66795e6e40e45f7a59716e", func := "gabion/gabionlaw06.ValueFixes", spec := "valueFixes", inPlace := ["math.Float64frombits", "math.Float64bits"], recurses := true, named := ["unicode/utf8.first", "unicode/utf8.acceptRanges"], loops := true, apart := false, laid := [("unicode/utf8.acceptRanges", laid_unicode_utf8_acceptRanges), ("unicode/utf8.first", laid_unicode_utf8_first)], narrowed := true }
def ValueFixesUptoSaid : Prop := valueFixesUptoRow.holds Tryd.pinned (OpenSpec.upto valueFixesSpec)

/-- 'gabionlaw06.ValueAlike', WHERE WHAT IT READS IS OF BULK AT MOST 1048576: true; the input reads as it did. -/
def valueAlikeUptoRow : OpenClaim := { program := "ytddmhilamoghcaadoor", sum := "f66a8a66f3a612b82fb786e1c6495924ad5701e73b66795e6e40e45f7a59716e", func := "gabion/gabionlaw06.ValueAlike", spec := "valueAlike", inPlace := ["math.Float64frombits", "math.Float64bits"], recurses := true, named := ["unicode/utf8.first", "unicode/utf8.acceptRanges"], loops := true, apart := false, laid := [("unicode/utf8.acceptRanges", laid_unicode_utf8_acceptRanges), ("unicode/utf8.first", laid_unicode_utf8_first)], narrowed := true }
def ValueAlikeUptoSaid : Prop := valueAlikeUptoRow.holds Tryd.pinned (OpenSpec.upto valueAlikeSpec)

/-- 'gabionlaw06.ValueUtfs', WHERE WHAT IT READS IS OF BULK AT MOST 1048576: true; the input reads as it did. -/
def valueUtfsUptoRow : OpenClaim := { program := "ytddmhilamoghcaadoor", sum := "f66a8a66f3a612b82fb786e1c6495924ad5701e73b66795e6e40e45f7a59716e", func := "gabion/gabionlaw06.ValueUtfs", spec := "valueUtfs", inPlace := ["math.Float64frombits", "math.Float64bits"], recurses := true, named := ["unicode/utf8.first", "unicode/utf8.acceptRanges"], apart := false, laid := [("unicode/utf8.acceptRanges", laid_unicode_utf8_acceptRanges), ("unicode/utf8.first", laid_unicode_utf8_first)], narrowed := true }
def ValueUtfsUptoSaid : Prop := valueUtfsUptoRow.holds Tryd.pinned (OpenSpec.upto valueUtfsSpec)

/-- 'gabionlaw06.ValueJoins', WHERE WHAT IT READS IS OF BULK AT MOST 1048576: true; the input reads as it did. -/
def valueJoinsUptoRow : OpenClaim := { program := "ytddmhilamoghcaadoor", sum := "f66a8a66f3a612b82fb786e1c6495924ad5701e73b66795e6e40e45f7a59716e", func := "gabion/gabionlaw06.ValueJoins", spec := "valueJoins", inPlace := ["math.Float64frombits", "math.Float64bits"], recurses := true, named := ["unicode/utf8.first", "unicode/utf8.acceptRanges"], apart := false, laid := [("unicode/utf8.acceptRanges", laid_unicode_utf8_acceptRanges), ("unicode/utf8.first", laid_unicode_utf8_first)], narrowed := true }
def ValueJoinsUptoSaid : Prop := valueJoinsUptoRow.holds Tryd.pinned (OpenSpec.upto valueJoinsSpec)

/-- 'gabionlaw06.ValueSames', WHERE WHAT IT READS IS OF BULK AT MOST 1048576: true; the input reads as it did. -/
def valueSamesUptoRow : OpenClaim := { program := "ytddmhilamoghcaadoor", sum := "f66a8a66f3a612b82fb786e1c6495924ad5701e73b66795e6e40e45f7a59716e", func := "gabion/gabionlaw06.ValueSames", spec := "valueSames", inPlace := ["math.Float64frombits", "math.Float64bits"], recurses := true, named := ["unicode/utf8.first", "unicode/utf8.acceptRanges"], loops := true, apart := false, laid := [("unicode/utf8.acceptRanges", laid_unicode_utf8_acceptRanges), ("unicode/utf8.first", laid_unicode_utf8_first)], narrowed := true }
def ValueSamesUptoSaid : Prop := valueSamesUptoRow.holds Tryd.pinned (OpenSpec.upto valueSamesSpec)

end Rows
end Go.Proofs.YtddmhilamoghcaaDoor
