/-
  NARROWER THAN 'FOR EVERY INPUT', by the rows' own cells (each row's printed sentence says how): ResolveNumbers: laid · ResolveChecks: loops, laid · ResolveProjects: loops, laid · ResolveSelf: loops, laid · ResolveTyped: loops, laid · ResolveBack: loops, laid · ResolveValues: loops, laid · ResolveRows: loops, laid.
  DERIVED. THE GIVEN ROWS OF THIS SEAT. 8 by the template 'for every input the law returns true; each argument reads behind the call as it read before'; 0 by the template 'total and deterministic' (their statements: YtknpaooloambdaaDoorTotals.lean).
  GIVEN WITH THE SEED: the statements are not yours to turn. If you find one false, say at which input.
  Laid BY PROGRAM, IN A SANDBOX (cutbox-rows.mjs): the forced cells as the released guide's own fill.sh prints them over the translation c924600f9ec7d594… (all of the seat's roots in one cut). By AI agents, Wed Nov 11 2026. No macro, syntax, notation, axiom, sorry.
-/
import Derived.Test.YtknpaooloambdaaDoorChecked
import GoSem.PinnedTables
import GoSem.Claim
import GoSem.ClaimJoined
import GoSem.ClaimMapViews
import Derived.JoinedTies
import Derived.KernelRfl
namespace Go.Proofs.YtknpaooloambdaaDoor
/- THE CELL 'sum', in the pinned program and in every row, IS THE sha256 OF THE DUMP (.gsa) THAT YtknpaooloambdaaDoorProg.lean LOADS. Nothing in Lean hashes anything: it is a label: what it is worth is what the hold of that sum in a sandbox is worth. -/
noncomputable def Tryd.pinned : Pinned := { name := "ytknpaooloambdaadoor", sum := "c924600f9ec7d59480ddc6e83a830b3ca5e455e44513fee9269ccf990cd0b04f", checked := Tryd.checked }
namespace Rows
def none {H : Type} : Left H := { results := [], args := [] }

/- WHAT THE LISTED PACKAGE-LEVEL VARIABLES READ AS WHEN THE CALL BEGINS. Each datum BY PROGRAM (the guide's laid-datum.mjs) off the statement by which the dump's own 'gosem.cut.vars' lays the variable. In a bare row this is a premise. The card (YtknpaooloambdaaDoorCards.lean) ties it to the program's text. -/
def laid_unicode_utf8_acceptRanges {H : Type} : DataW H := .agg [.agg [.lit (.int .u8 128), .lit (.int .u8 191)], .agg [.lit (.int .u8 160), .lit (.int .u8 191)], .agg [.lit (.int .u8 128), .lit (.int .u8 159)], .agg [.lit (.int .u8 144), .lit (.int .u8 191)], .agg [.lit (.int .u8 128), .lit (.int .u8 143)], .agg [.lit (.int .u8 0), .lit (.int .u8 0)], .agg [.lit (.int .u8 0), .lit (.int .u8 0)], .agg [.lit (.int .u8 0), .lit (.int .u8 0)], .agg [.lit (.int .u8 0), .lit (.int .u8 0)], .agg [.lit (.int .u8 0), .lit (.int .u8 0)], .agg [.lit (.int .u8 0), .lit (.int .u8 0)], .agg [.lit (.int .u8 0), .lit (.int .u8 0)], .agg [.lit (.int .u8 0), .lit (.int .u8 0)], .agg [.lit (.int .u8 0), .lit (.int .u8 0)], .agg [.lit (.int .u8 0), .lit (.int .u8 0)], .agg [.lit (.int .u8 0), .lit (.int .u8 0)]]
/-- One of Go's own tables, pinned by name: the form's constant. -/
def laid_unicode_utf8_first : DataW Unit := Go.Pinned.utf8First

/-- 'gabionlaw09.ResolveNumbers': WHATEVER THE INPUT: true; the input reads as it did. -/
def resolveNumbersSpec : ChangeSpec := { name := "resolveNumbers", fn := fun _ => fun
  | [] => { results := [.lit (.bool true)], args := [] }
  | _ => none }
def resolveNumbersRow : OpenClaim := { program := "ytknpaooloambdaadoor", sum := "c924600f9ec7d59480ddc6e83a830b3ca5e455e44513fee9269ccf990cd0b04f", func := "gabion/gabionlaw09.ResolveNumbers", spec := "resolveNumbers", inPlace := ["math.Float64bits", "math.Float64frombits", "math.archTrunc"], recurses := true, named := ["unicode/utf8.first", "unicode/utf8.acceptRanges"], apart := false, laid := [("unicode/utf8.acceptRanges", laid_unicode_utf8_acceptRanges), ("unicode/utf8.first", laid_unicode_utf8_first)] }
def ResolveNumbersSaid : Prop := resolveNumbersRow.holds Tryd.pinned (OpenSpec.ofChange resolveNumbersSpec)

/-- ITS FALSE NEIGHBOUR: 'it returns false'. Refute it at one input. -/
def resolveNumbersWrong : ChangeSpec := { name := "resolveNumbers", fn := fun _ => fun
  | [] => { results := [.lit (.bool false)], args := [] }
  | _ => none }
def ResolveNumbersWrongFalsely : Prop := resolveNumbersRow.holds Tryd.pinned (OpenSpec.ofChange resolveNumbersWrong)

/-- 'gabionlaw09.ResolveChecks': WHATEVER THE INPUT: true; the input reads as it did. -/
def resolveChecksSpec : ChangeSpec := { name := "resolveChecks", fn := fun _ => fun
  | [d1, d2] => { results := [.lit (.bool true)], args := [d1, d2] }
  | _ => none }
def resolveChecksRow : OpenClaim := { program := "ytknpaooloambdaadoor", sum := "c924600f9ec7d59480ddc6e83a830b3ca5e455e44513fee9269ccf990cd0b04f", func := "gabion/gabionlaw09.ResolveChecks", spec := "resolveChecks", inPlace := ["math.Float64frombits", "math.Float64bits", "math.archTrunc"], recurses := true, named := ["unicode/utf8.first", "unicode/utf8.acceptRanges"], loops := true, apart := false, laid := [("unicode/utf8.acceptRanges", laid_unicode_utf8_acceptRanges), ("unicode/utf8.first", laid_unicode_utf8_first)] }
def ResolveChecksSaid : Prop := resolveChecksRow.holds Tryd.pinned (OpenSpec.ofChange resolveChecksSpec)

/-- ITS FALSE NEIGHBOUR: 'it returns false'. Refute it at one input. -/
def resolveChecksWrong : ChangeSpec := { name := "resolveChecks", fn := fun _ => fun
  | [d1, d2] => { results := [.lit (.bool false)], args := [d1, d2] }
  | _ => none }
def ResolveChecksWrongFalsely : Prop := resolveChecksRow.holds Tryd.pinned (OpenSpec.ofChange resolveChecksWrong)

/-- 'gabionlaw09.ResolveProjects': WHATEVER THE INPUT: true; the input reads as it did. -/
def resolveProjectsSpec : ChangeSpec := { name := "resolveProjects", fn := fun _ => fun
  | [d1, d2] => { results := [.lit (.bool true)], args := [d1, d2] }
  | _ => none }
def resolveProjectsRow : OpenClaim := { program := "ytknpaooloambdaadoor", sum := "c924600f9ec7d59480ddc6e83a830b3ca5e455e44513fee9269ccf990cd0b04f", func := "gabion/gabionlaw09.ResolveProjects", spec := "resolveProjects", inPlace := ["math.Float64frombits", "math.Float64bits", "math.archTrunc"], recurses := true, named := ["unicode/utf8.first", "unicode/utf8.acceptRanges"], loops := true, apart := false, laid := [("unicode/utf8.acceptRanges", laid_unicode_utf8_acceptRanges), ("unicode/utf8.first", laid_unicode_utf8_first)] }
def ResolveProjectsSaid : Prop := resolveProjectsRow.holds Tryd.pinned (OpenSpec.ofChange resolveProjectsSpec)

/-- ITS FALSE NEIGHBOUR: 'it returns false'. Refute it at one input. -/
def resolveProjectsWrong : ChangeSpec := { name := "resolveProjects", fn := fun _ => fun
  | [d1, d2] => { results := [.lit (.bool false)], args := [d1, d2] }
  | _ => none }
def ResolveProjectsWrongFalsely : Prop := resolveProjectsRow.holds Tryd.pinned (OpenSpec.ofChange resolveProjectsWrong)

/-- 'gabionlaw09.ResolveSelf': WHATEVER THE INPUT: true; the input reads as it did. -/
def resolveSelfSpec : ChangeSpec := { name := "resolveSelf", fn := fun _ => fun
  | [d1, d2, d3] => { results := [.lit (.bool true)], args := [d1, d2, d3] }
  | _ => none }
def resolveSelfRow : OpenClaim := { program := "ytknpaooloambdaadoor", sum := "c924600f9ec7d59480ddc6e83a830b3ca5e455e44513fee9269ccf990cd0b04f", func := "gabion/gabionlaw09.ResolveSelf", spec := "resolveSelf", inPlace := ["math.Float64frombits", "math.Float64bits", "math.archTrunc"], recurses := true, named := ["unicode/utf8.first", "unicode/utf8.acceptRanges"], loops := true, apart := false, laid := [("unicode/utf8.acceptRanges", laid_unicode_utf8_acceptRanges), ("unicode/utf8.first", laid_unicode_utf8_first)] }
def ResolveSelfSaid : Prop := resolveSelfRow.holds Tryd.pinned (OpenSpec.ofChange resolveSelfSpec)

/-- ITS FALSE NEIGHBOUR: 'it returns false'. Refute it at one input. -/
def resolveSelfWrong : ChangeSpec := { name := "resolveSelf", fn := fun _ => fun
  | [d1, d2, d3] => { results := [.lit (.bool false)], args := [d1, d2, d3] }
  | _ => none }
def ResolveSelfWrongFalsely : Prop := resolveSelfRow.holds Tryd.pinned (OpenSpec.ofChange resolveSelfWrong)

/-- 'gabionlaw09.ResolveTyped': WHATEVER THE INPUT: true; the input reads as it did. -/
def resolveTypedSpec : ChangeSpec := { name := "resolveTyped", fn := fun _ => fun
  | [d1, d2, d3] => { results := [.lit (.bool true)], args := [d1, d2, d3] }
  | _ => none }
def resolveTypedRow : OpenClaim := { program := "ytknpaooloambdaadoor", sum := "c924600f9ec7d59480ddc6e83a830b3ca5e455e44513fee9269ccf990cd0b04f", func := "gabion/gabionlaw09.ResolveTyped", spec := "resolveTyped", inPlace := ["math.Float64frombits", "math.Float64bits", "math.archTrunc"], recurses := true, named := ["unicode/utf8.first", "unicode/utf8.acceptRanges"], loops := true, apart := false, laid := [("unicode/utf8.acceptRanges", laid_unicode_utf8_acceptRanges), ("unicode/utf8.first", laid_unicode_utf8_first)] }
def ResolveTypedSaid : Prop := resolveTypedRow.holds Tryd.pinned (OpenSpec.ofChange resolveTypedSpec)

/-- ITS FALSE NEIGHBOUR: 'it returns false'. Refute it at one input. -/
def resolveTypedWrong : ChangeSpec := { name := "resolveTyped", fn := fun _ => fun
  | [d1, d2, d3] => { results := [.lit (.bool false)], args := [d1, d2, d3] }
  | _ => none }
def ResolveTypedWrongFalsely : Prop := resolveTypedRow.holds Tryd.pinned (OpenSpec.ofChange resolveTypedWrong)

/-- 'gabionlaw09.ResolveBack': WHATEVER THE INPUT: true; the input reads as it did. -/
def resolveBackSpec : ChangeSpec := { name := "resolveBack", fn := fun _ => fun
  | [d] => { results := [.lit (.bool true)], args := [d] }
  | _ => none }
def resolveBackRow : OpenClaim := { program := "ytknpaooloambdaadoor", sum := "c924600f9ec7d59480ddc6e83a830b3ca5e455e44513fee9269ccf990cd0b04f", func := "gabion/gabionlaw09.ResolveBack", spec := "resolveBack", inPlace := ["math.Float64frombits", "math.Float64bits", "math.archTrunc"], recurses := true, named := ["unicode/utf8.first", "unicode/utf8.acceptRanges"], loops := true, apart := false, laid := [("unicode/utf8.acceptRanges", laid_unicode_utf8_acceptRanges), ("unicode/utf8.first", laid_unicode_utf8_first)] }
def ResolveBackSaid : Prop := resolveBackRow.holds Tryd.pinned (OpenSpec.ofChange resolveBackSpec)

/-- ITS FALSE NEIGHBOUR: 'it returns false'. Refute it at one input. -/
def resolveBackWrong : ChangeSpec := { name := "resolveBack", fn := fun _ => fun
  | [d] => { results := [.lit (.bool false)], args := [d] }
  | _ => none }
def ResolveBackWrongFalsely : Prop := resolveBackRow.holds Tryd.pinned (OpenSpec.ofChange resolveBackWrong)

/-- 'gabionlaw09.ResolveValues': WHATEVER THE INPUT: true; the input reads as it did. -/
def resolveValuesSpec : ChangeSpec := { name := "resolveValues", fn := fun _ => fun
  | [d1, d2, d3] => { results := [.lit (.bool true)], args := [d1, d2, d3] }
  | _ => none }
def resolveValuesRow : OpenClaim := { program := "ytknpaooloambdaadoor", sum := "c924600f9ec7d59480ddc6e83a830b3ca5e455e44513fee9269ccf990cd0b04f", func := "gabion/gabionlaw09.ResolveValues", spec := "resolveValues", inPlace := ["math.Float64frombits", "math.Float64bits", "math.archTrunc", "math.archFloor"], recurses := true, named := ["unicode/utf8.first", "unicode/utf8.acceptRanges"], loops := true, apart := false, laid := [("unicode/utf8.acceptRanges", laid_unicode_utf8_acceptRanges), ("unicode/utf8.first", laid_unicode_utf8_first)] }
def ResolveValuesSaid : Prop := resolveValuesRow.holds Tryd.pinned (OpenSpec.ofChange resolveValuesSpec)

/-- ITS FALSE NEIGHBOUR: 'it returns false'. Refute it at one input. -/
def resolveValuesWrong : ChangeSpec := { name := "resolveValues", fn := fun _ => fun
  | [d1, d2, d3] => { results := [.lit (.bool false)], args := [d1, d2, d3] }
  | _ => none }
def ResolveValuesWrongFalsely : Prop := resolveValuesRow.holds Tryd.pinned (OpenSpec.ofChange resolveValuesWrong)

/-- 'gabionlaw09.ResolveRows': WHATEVER THE INPUT: true; the input reads as it did. -/
def resolveRowsSpec : ChangeSpec := { name := "resolveRows", fn := fun _ => fun
  | [d1, d2, d3] => { results := [.lit (.bool true)], args := [d1, d2, d3] }
  | _ => none }
def resolveRowsRow : OpenClaim := { program := "ytknpaooloambdaadoor", sum := "c924600f9ec7d59480ddc6e83a830b3ca5e455e44513fee9269ccf990cd0b04f", func := "gabion/gabionlaw09.ResolveRows", spec := "resolveRows", inPlace := ["math.Float64frombits", "math.Float64bits", "math.archTrunc", "math.archFloor"], recurses := true, named := ["unicode/utf8.first", "unicode/utf8.acceptRanges"], loops := true, apart := false, laid := [("unicode/utf8.acceptRanges", laid_unicode_utf8_acceptRanges), ("unicode/utf8.first", laid_unicode_utf8_first)] }
def ResolveRowsSaid : Prop := resolveRowsRow.holds Tryd.pinned (OpenSpec.ofChange resolveRowsSpec)

/-- ITS FALSE NEIGHBOUR: 'it returns false'. Refute it at one input. -/
def resolveRowsWrong : ChangeSpec := { name := "resolveRows", fn := fun _ => fun
  | [d1, d2, d3] => { results := [.lit (.bool false)], args := [d1, d2, d3] }
  | _ => none }
def ResolveRowsWrongFalsely : Prop := resolveRowsRow.holds Tryd.pinned (OpenSpec.ofChange resolveRowsWrong)

/- THE SECOND FORM. 'bulk': how many values and letters a reading holds, each counted each time it is reached (what is shared counts as often as it is met; a slice's spare places count too). A statement '..UptoSaid' is the law's where the arguments, and the package variables that the reading takes, are together of bulk at most 1048576: NARROWER than '..Said'. Prove '..Said' where nothing that the law and all that it calls make is longer than what came in: it says more and counts as full. Else prove '..UptoSaid'. A law counts once. -/
mutual
def uptoBulk {H : Type} : DataW H → Nat
  | .lit (.string bytes) => bytes.length + 1
  | .lit _ => 1
  | .nil => 1
  | .ptr d => uptoBulk d + 1
  | .slice elems spare => uptoBulkAll elems + uptoBulkAll spare + 1
  | .agg parts => uptoBulkAll parts + 1
  | .iface _ d => uptoBulk d + 1
  | .map entries => uptoBulkEntries entries + 1
  | .held _ => 1
def uptoBulkAll {H : Type} : List (DataW H) → Nat
  | [] => 0
  | d :: r => uptoBulk d + uptoBulkAll r
def uptoBulkEntries {H : Type} : List (Lit × DataW H) → Nat
  | [] => 0
  | x :: r => uptoBulkEntry x + uptoBulkEntries r
def uptoBulkEntry {H : Type} : Lit × DataW H → Nat
  | (.string bytes, d) => bytes.length + uptoBulk d + 1
  | (_, d) => uptoBulk d + 1
 end
def uptoSmall : (H : Type) → List (DataW H) → Bool := fun _ ds => decide (uptoBulkAll ds ≤ 1048576)
def OpenSpec.upto (s : _root_.Go.ChangeSpec) : _root_.Go.OpenSpec := { _root_.Go.OpenSpec.ofChange s with cond := some uptoSmall }

/-- 'gabionlaw09.ResolveNumbers', WHERE WHAT IT READS IS OF BULK AT MOST 1048576: true; the input reads as it did. -/
def resolveNumbersUptoRow : OpenClaim := { program := "ytknpaooloambdaadoor", sum := "c924600f9ec7d59480ddc6e83a830b3ca5e455e44513fee9269ccf990cd0b04f", func := "gabion/gabionlaw09.ResolveNumbers", spec := "resolveNumbers", inPlace := ["math.Float64bits", "math.Float64frombits", "math.archTrunc"], recurses := true, named := ["unicode/utf8.first", "unicode/utf8.acceptRanges"], apart := false, laid := [("unicode/utf8.acceptRanges", laid_unicode_utf8_acceptRanges), ("unicode/utf8.first", laid_unicode_utf8_first)], narrowed := true }
def ResolveNumbersUptoSaid : Prop := resolveNumbersUptoRow.holds Tryd.pinned (OpenSpec.upto resolveNumbersSpec)

/-- 'gabionlaw09.ResolveChecks', WHERE WHAT IT READS IS OF BULK AT MOST 1048576: true; the input reads as it did. -/
def resolveChecksUptoRow : OpenClaim := { program := "ytknpaooloambdaadoor", sum := "c924600f9ec7d59480ddc6e83a830b3ca5e455e44513fee9269ccf990cd0b04f", func := "gabion/gabionlaw09.ResolveChecks", spec := "resolveChecks", inPlace := ["math.Float64frombits", "math.Float64bits", "math.archTrunc"], recurses := true, named := ["unicode/utf8.first", "unicode/utf8.acceptRanges"], loops := true, apart := false, laid := [("unicode/utf8.acceptRanges", laid_unicode_utf8_acceptRanges), ("unicode/utf8.first", laid_unicode_utf8_first)], narrowed := true }
def ResolveChecksUptoSaid : Prop := resolveChecksUptoRow.holds Tryd.pinned (OpenSpec.upto resolveChecksSpec)

/-- 'gabionlaw09.ResolveProjects', WHERE WHAT IT READS IS OF BULK AT MOST 1048576: true; the input reads as it did. -/
def resolveProjectsUptoRow : OpenClaim := { program := "ytknpaooloambdaadoor", sum := "c924600f9ec7d59480ddc6e83a830b3ca5e455e44513fee9269ccf990cd0b04f", func := "gabion/gabionlaw09.ResolveProjects", spec := "resolveProjects", inPlace := ["math.Float64frombits", "math.Float64bits", "math.archTrunc"], recurses := true, named := ["unicode/utf8.first", "unicode/utf8.acceptRanges"], loops := true, apart := false, laid := [("unicode/utf8.acceptRanges", laid_unicode_utf8_acceptRanges), ("unicode/utf8.first", laid_unicode_utf8_first)], narrowed := true }
def ResolveProjectsUptoSaid : Prop := resolveProjectsUptoRow.holds Tryd.pinned (OpenSpec.upto resolveProjectsSpec)

/-- 'gabionlaw09.ResolveSelf', WHERE WHAT IT READS IS OF BULK AT MOST 1048576: true; the input reads as it did. -/
def resolveSelfUptoRow : OpenClaim := { program := "ytknpaooloambdaadoor", sum := "c924600f9ec7d59480ddc6e83a830b3ca5e455e44513fee9269ccf990cd0b04f", func := "gabion/gabionlaw09.ResolveSelf", spec := "resolveSelf", inPlace := ["math.Float64frombits", "math.Float64bits", "math.archTrunc"], recurses := true, named := ["unicode/utf8.first", "unicode/utf8.acceptRanges"], loops := true, apart := false, laid := [("unicode/utf8.acceptRanges", laid_unicode_utf8_acceptRanges), ("unicode/utf8.first", laid_unicode_utf8_first)], narrowed := true }
def ResolveSelfUptoSaid : Prop := resolveSelfUptoRow.holds Tryd.pinned (OpenSpec.upto resolveSelfSpec)

/-- 'gabionlaw09.ResolveTyped', WHERE WHAT IT READS IS OF BULK AT MOST 1048576: true; the input reads as it did. -/
def resolveTypedUptoRow : OpenClaim := { program := "ytknpaooloambdaadoor", sum := "c924600f9ec7d59480ddc6e83a830b3ca5e455e44513fee9269ccf990cd0b04f", func := "gabion/gabionlaw09.ResolveTyped", spec := "resolveTyped", inPlace := ["math.Float64frombits", "math.Float64bits", "math.archTrunc"], recurses := true, named := ["unicode/utf8.first", "unicode/utf8.acceptRanges"], loops := true, apart := false, laid := [("unicode/utf8.acceptRanges", laid_unicode_utf8_acceptRanges), ("unicode/utf8.first", laid_unicode_utf8_first)], narrowed := true }
def ResolveTypedUptoSaid : Prop := resolveTypedUptoRow.holds Tryd.pinned (OpenSpec.upto resolveTypedSpec)

/-- 'gabionlaw09.ResolveBack', WHERE WHAT IT READS IS OF BULK AT MOST 1048576: true; the input reads as it did. -/
def resolveBackUptoRow : OpenClaim := { program := "ytknpaooloambdaadoor", sum := "c924600f9ec7d59480ddc6e83a830b3ca5e455e44513fee9269ccf990cd0b04f", func := "gabion/gabionlaw09.ResolveBack", spec := "resolveBack", inPlace := ["math.Float64frombits", "math.Float64bits", "math.archTrunc"], recurses := true, named := ["unicode/utf8.first", "unicode/utf8.acceptRanges"], loops := true, apart := false, laid := [("unicode/utf8.acceptRanges", laid_unicode_utf8_acceptRanges), ("unicode/utf8.first", laid_unicode_utf8_first)], narrowed := true }
def ResolveBackUptoSaid : Prop := resolveBackUptoRow.holds Tryd.pinned (OpenSpec.upto resolveBackSpec)

/-- 'gabionlaw09.ResolveValues', WHERE WHAT IT READS IS OF BULK AT MOST 1048576: true; the input reads as it did. -/
def resolveValuesUptoRow : OpenClaim := { program := "ytknpaooloambdaadoor", sum := "c924600f9ec7d59480ddc6e83a830b3ca5e455e44513fee9269ccf990cd0b04f", func := "gabion/gabionlaw09.ResolveValues", spec := "resolveValues", inPlace := ["math.Float64frombits", "math.Float64bits", "math.archTrunc", "math.archFloor"], recurses := true, named := ["unicode/utf8.first", "unicode/utf8.acceptRanges"], loops := true, apart := false, laid := [("unicode/utf8.acceptRanges", laid_unicode_utf8_acceptRanges), ("unicode/utf8.first", laid_unicode_utf8_first)], narrowed := true }
def ResolveValuesUptoSaid : Prop := resolveValuesUptoRow.holds Tryd.pinned (OpenSpec.upto resolveValuesSpec)

/-- 'gabionlaw09.ResolveRows', WHERE WHAT IT READS IS OF BULK AT MOST 1048576: true; the input reads as it did. -/
def resolveRowsUptoRow : OpenClaim := { program := "ytknpaooloambdaadoor", sum := "c924600f9ec7d59480ddc6e83a830b3ca5e455e44513fee9269ccf990cd0b04f", func := "gabion/gabionlaw09.ResolveRows", spec := "resolveRows", inPlace := ["math.Float64frombits", "math.Float64bits", "math.archTrunc", "math.archFloor"], recurses := true, named := ["unicode/utf8.first", "unicode/utf8.acceptRanges"], loops := true, apart := false, laid := [("unicode/utf8.acceptRanges", laid_unicode_utf8_acceptRanges), ("unicode/utf8.first", laid_unicode_utf8_first)], narrowed := true }
def ResolveRowsUptoSaid : Prop := resolveRowsUptoRow.holds Tryd.pinned (OpenSpec.upto resolveRowsSpec)

end Rows
end Go.Proofs.YtknpaooloambdaaDoor
