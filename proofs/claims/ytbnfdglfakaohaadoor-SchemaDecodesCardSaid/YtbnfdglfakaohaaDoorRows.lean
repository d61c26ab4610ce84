/-
  NARROWER THAN 'FOR EVERY INPUT', by the rows' own cells (each row's printed sentence says how): SchemaNumbers: laid · SchemaChecks: loops, laid · SchemaTypes: loops, laid · SchemaNames: loops, laid · SchemaSames: loops, laid · SchemaEncodes: loops, laid · SchemaDecodes: laid · SchemaBack: loops, laid · SchemaUnlike: loops, laid · SchemaIs: loops, laid.
  DERIVED. THE GIVEN ROWS OF THIS SEAT. 10 by the template 'for every input the law returns true; each argument reads behind the call as it read before'; 0 by the template 'total and deterministic' (their statements: YtbnfdglfakaohaaDoorTotals.lean).
  GIVEN WITH THE SEED: the statements are not yours to turn. If you find one false, say at which input.
  Laid BY PROGRAM, IN A SANDBOX (cutbox-rows.mjs): the forced cells as the released guide's own fill.sh prints them over the translation 62a64a57c0646cb1… (all of the seat's roots in one cut). By AI agents, Wed Nov 11 2026. No macro, syntax, notation, axiom, sorry.
-/
import Derived.Test.YtbnfdglfakaohaaDoorChecked
import GoSem.PinnedTables
import GoSem.Claim
import GoSem.ClaimJoined
import GoSem.ClaimMapViews
import Derived.JoinedTies
import Derived.KernelRfl
namespace Go.Proofs.YtbnfdglfakaohaaDoor
/- THE CELL 'sum', in the pinned program and in every row, IS THE sha256 OF THE DUMP (.gsa) THAT YtbnfdglfakaohaaDoorProg.lean LOADS. Nothing in Lean hashes anything: it is a label: what it is worth is what the hold of that sum in a sandbox is worth. -/
noncomputable def Tryd.pinned : Pinned := { name := "ytbnfdglfakaohaadoor", sum := "62a64a57c0646cb1eceb3c6f83033d05fee3dd8d6926dcbdc3f169377167c719", checked := Tryd.checked }
namespace Rows
def none {H : Type} : Left H := { results := [], args := [] }

/- WHAT THE LISTED PACKAGE-LEVEL VARIABLES READ AS WHEN THE CALL BEGINS. Each datum BY PROGRAM (the guide's laid-datum.mjs) off the statement by which the dump's own 'gosem.cut.vars' lays the variable. In a bare row this is a premise. The card (YtbnfdglfakaohaaDoorCards.lean) ties it to the program's text. -/
def laid_unicode_utf8_acceptRanges {H : Type} : DataW H := .agg [.agg [.lit (.int .u8 128), .lit (.int .u8 191)], .agg [.lit (.int .u8 160), .lit (.int .u8 191)], .agg [.lit (.int .u8 128), .lit (.int .u8 159)], .agg [.lit (.int .u8 144), .lit (.int .u8 191)], .agg [.lit (.int .u8 128), .lit (.int .u8 143)], .agg [.lit (.int .u8 0), .lit (.int .u8 0)], .agg [.lit (.int .u8 0), .lit (.int .u8 0)], .agg [.lit (.int .u8 0), .lit (.int .u8 0)], .agg [.lit (.int .u8 0), .lit (.int .u8 0)], .agg [.lit (.int .u8 0), .lit (.int .u8 0)], .agg [.lit (.int .u8 0), .lit (.int .u8 0)], .agg [.lit (.int .u8 0), .lit (.int .u8 0)], .agg [.lit (.int .u8 0), .lit (.int .u8 0)], .agg [.lit (.int .u8 0), .lit (.int .u8 0)], .agg [.lit (.int .u8 0), .lit (.int .u8 0)], .agg [.lit (.int .u8 0), .lit (.int .u8 0)]]
/-- One of Go's own tables, pinned by name: the form's constant. -/
def laid_unicode_utf8_first : DataW Unit := Go.Pinned.utf8First

/-- 'gabionlaw07.SchemaNumbers': WHATEVER THE INPUT: true; the input reads as it did. -/
def schemaNumbersSpec : ChangeSpec := { name := "schemaNumbers", fn := fun _ => fun
  | [] => { results := [.lit (.bool true)], args := [] }
  | _ => none }
def schemaNumbersRow : OpenClaim := { program := "ytbnfdglfakaohaadoor", sum := "62a64a57c0646cb1eceb3c6f83033d05fee3dd8d6926dcbdc3f169377167c719", func := "gabion/gabionlaw07.SchemaNumbers", spec := "schemaNumbers", inPlace := ["math.Float64frombits", "math.Float64bits"], unfollowed := true, recurses := true, named := ["unicode/utf8.first", "unicode/utf8.acceptRanges"], apart := false, laid := [("unicode/utf8.acceptRanges", laid_unicode_utf8_acceptRanges), ("unicode/utf8.first", laid_unicode_utf8_first)] }
def SchemaNumbersSaid : Prop := schemaNumbersRow.holds Tryd.pinned (OpenSpec.ofChange schemaNumbersSpec)

/-- ITS FALSE NEIGHBOUR: 'it returns false'. Refute it at one input. -/
def schemaNumbersWrong : ChangeSpec := { name := "schemaNumbers", fn := fun _ => fun
  | [] => { results := [.lit (.bool false)], args := [] }
  | _ => none }
def SchemaNumbersWrongFalsely : Prop := schemaNumbersRow.holds Tryd.pinned (OpenSpec.ofChange schemaNumbersWrong)

/-- 'gabionlaw07.SchemaChecks': WHATEVER THE INPUT: true; the input reads as it did. -/
def schemaChecksSpec : ChangeSpec := { name := "schemaChecks", fn := fun _ => fun
  | [d] => { results := [.lit (.bool true)], args := [d] }
  | _ => none }
def schemaChecksRow : OpenClaim := { program := "ytbnfdglfakaohaadoor", sum := "62a64a57c0646cb1eceb3c6f83033d05fee3dd8d6926dcbdc3f169377167c719", func := "gabion/gabionlaw07.SchemaChecks", spec := "schemaChecks", inPlace := ["math.Float64frombits", "math.Float64bits"], unfollowed := true, recurses := true, named := ["unicode/utf8.first", "unicode/utf8.acceptRanges"], loops := true, apart := false, laid := [("unicode/utf8.acceptRanges", laid_unicode_utf8_acceptRanges), ("unicode/utf8.first", laid_unicode_utf8_first)] }
def SchemaChecksSaid : Prop := schemaChecksRow.holds Tryd.pinned (OpenSpec.ofChange schemaChecksSpec)

/-- ITS FALSE NEIGHBOUR: 'it returns false'. Refute it at one input. -/
def schemaChecksWrong : ChangeSpec := { name := "schemaChecks", fn := fun _ => fun
  | [d] => { results := [.lit (.bool false)], args := [d] }
  | _ => none }
def SchemaChecksWrongFalsely : Prop := schemaChecksRow.holds Tryd.pinned (OpenSpec.ofChange schemaChecksWrong)

/-- 'gabionlaw07.SchemaTypes': WHATEVER THE INPUT: true; the input reads as it did. -/
def schemaTypesSpec : ChangeSpec := { name := "schemaTypes", fn := fun _ => fun
  | [d1, d2] => { results := [.lit (.bool true)], args := [d1, d2] }
  | _ => none }
def schemaTypesRow : OpenClaim := { program := "ytbnfdglfakaohaadoor", sum := "62a64a57c0646cb1eceb3c6f83033d05fee3dd8d6926dcbdc3f169377167c719", func := "gabion/gabionlaw07.SchemaTypes", spec := "schemaTypes", inPlace := ["math.Float64frombits", "math.Float64bits"], unfollowed := true, recurses := true, named := ["unicode/utf8.first", "unicode/utf8.acceptRanges"], loops := true, apart := false, laid := [("unicode/utf8.acceptRanges", laid_unicode_utf8_acceptRanges), ("unicode/utf8.first", laid_unicode_utf8_first)] }
def SchemaTypesSaid : Prop := schemaTypesRow.holds Tryd.pinned (OpenSpec.ofChange schemaTypesSpec)

/-- ITS FALSE NEIGHBOUR: 'it returns false'. Refute it at one input. -/
def schemaTypesWrong : ChangeSpec := { name := "schemaTypes", fn := fun _ => fun
  | [d1, d2] => { results := [.lit (.bool false)], args := [d1, d2] }
  | _ => none }
def SchemaTypesWrongFalsely : Prop := schemaTypesRow.holds Tryd.pinned (OpenSpec.ofChange schemaTypesWrong)

/-- 'gabionlaw07.SchemaNames': WHATEVER THE INPUT: true; the input reads as it did. -/
def schemaNamesSpec : ChangeSpec := { name := "schemaNames", fn := fun _ => fun
  | [d1, d2] => { results := [.lit (.bool true)], args := [d1, d2] }
  | _ => none }
def schemaNamesRow : OpenClaim := { program := "ytbnfdglfakaohaadoor", sum := "62a64a57c0646cb1eceb3c6f83033d05fee3dd8d6926dcbdc3f169377167c719", func := "gabion/gabionlaw07.SchemaNames", spec := "schemaNames", inPlace := ["math.Float64frombits", "math.Float64bits"], unfollowed := true, recurses := true, named := ["unicode/utf8.first", "unicode/utf8.acceptRanges"], loops := true, apart := false, laid := [("unicode/utf8.acceptRanges", laid_unicode_utf8_acceptRanges), ("unicode/utf8.first", laid_unicode_utf8_first)] }
def SchemaNamesSaid : Prop := schemaNamesRow.holds Tryd.pinned (OpenSpec.ofChange schemaNamesSpec)

/-- ITS FALSE NEIGHBOUR: 'it returns false'. Refute it at one input. -/
def schemaNamesWrong : ChangeSpec := { name := "schemaNames", fn := fun _ => fun
  | [d1, d2] => { results := [.lit (.bool false)], args := [d1, d2] }
  | _ => none }
def SchemaNamesWrongFalsely : Prop := schemaNamesRow.holds Tryd.pinned (OpenSpec.ofChange schemaNamesWrong)

/-- 'gabionlaw07.SchemaSames': WHATEVER THE INPUT: true; the input reads as it did. -/
def schemaSamesSpec : ChangeSpec := { name := "schemaSames", fn := fun _ => fun
  | [d1, d2] => { results := [.lit (.bool true)], args := [d1, d2] }
  | _ => none }
def schemaSamesRow : OpenClaim := { program := "ytbnfdglfakaohaadoor", sum := "62a64a57c0646cb1eceb3c6f83033d05fee3dd8d6926dcbdc3f169377167c719", func := "gabion/gabionlaw07.SchemaSames", spec := "schemaSames", inPlace := ["math.Float64bits", "math.Float64frombits"], unfollowed := true, recurses := true, named := ["unicode/utf8.first", "unicode/utf8.acceptRanges"], loops := true, apart := false, laid := [("unicode/utf8.acceptRanges", laid_unicode_utf8_acceptRanges), ("unicode/utf8.first", laid_unicode_utf8_first)] }
def SchemaSamesSaid : Prop := schemaSamesRow.holds Tryd.pinned (OpenSpec.ofChange schemaSamesSpec)

/-- ITS FALSE NEIGHBOUR: 'it returns false'. Refute it at one input. -/
def schemaSamesWrong : ChangeSpec := { name := "schemaSames", fn := fun _ => fun
  | [d1, d2] => { results := [.lit (.bool false)], args := [d1, d2] }
  | _ => none }
def SchemaSamesWrongFalsely : Prop := schemaSamesRow.holds Tryd.pinned (OpenSpec.ofChange schemaSamesWrong)

/-- 'gabionlaw07.SchemaEncodes': WHATEVER THE INPUT: true; the input reads as it did. -/
def schemaEncodesSpec : ChangeSpec := { name := "schemaEncodes", fn := fun _ => fun
  | [d] => { results := [.lit (.bool true)], args := [d] }
  | _ => none }
def schemaEncodesRow : OpenClaim := { program := "ytbnfdglfakaohaadoor", sum := "62a64a57c0646cb1eceb3c6f83033d05fee3dd8d6926dcbdc3f169377167c719", func := "gabion/gabionlaw07.SchemaEncodes", spec := "schemaEncodes", inPlace := ["math.Float64frombits", "math.Float64bits"], unfollowed := true, recurses := true, named := ["unicode/utf8.first", "unicode/utf8.acceptRanges"], loops := true, apart := false, laid := [("unicode/utf8.acceptRanges", laid_unicode_utf8_acceptRanges), ("unicode/utf8.first", laid_unicode_utf8_first)] }
def SchemaEncodesSaid : Prop := schemaEncodesRow.holds Tryd.pinned (OpenSpec.ofChange schemaEncodesSpec)

/-- ITS FALSE NEIGHBOUR: 'it returns false'. Refute it at one input. -/
def schemaEncodesWrong : ChangeSpec := { name := "schemaEncodes", fn := fun _ => fun
  | [d] => { results := [.lit (.bool false)], args := [d] }
  | _ => none }
def SchemaEncodesWrongFalsely : Prop := schemaEncodesRow.holds Tryd.pinned (OpenSpec.ofChange schemaEncodesWrong)

/-- 'gabionlaw07.SchemaDecodes': WHATEVER THE INPUT: true; the input reads as it did. -/
def schemaDecodesSpec : ChangeSpec := { name := "schemaDecodes", fn := fun _ => fun
  | [d] => { results := [.lit (.bool true)], args := [d] }
  | _ => none }
def schemaDecodesRow : OpenClaim := { program := "ytbnfdglfakaohaadoor", sum := "62a64a57c0646cb1eceb3c6f83033d05fee3dd8d6926dcbdc3f169377167c719", func := "gabion/gabionlaw07.SchemaDecodes", spec := "schemaDecodes", inPlace := ["math.Float64frombits", "math.Float64bits"], unfollowed := true, recurses := true, named := ["unicode/utf8.first", "unicode/utf8.acceptRanges"], apart := false, laid := [("unicode/utf8.acceptRanges", laid_unicode_utf8_acceptRanges), ("unicode/utf8.first", laid_unicode_utf8_first)] }
def SchemaDecodesSaid : Prop := schemaDecodesRow.holds Tryd.pinned (OpenSpec.ofChange schemaDecodesSpec)

/-- ITS FALSE NEIGHBOUR: 'it returns false'. Refute it at one input. -/
def schemaDecodesWrong : ChangeSpec := { name := "schemaDecodes", fn := fun _ => fun
  | [d] => { results := [.lit (.bool false)], args := [d] }
  | _ => none }
def SchemaDecodesWrongFalsely : Prop := schemaDecodesRow.holds Tryd.pinned (OpenSpec.ofChange schemaDecodesWrong)

/-- 'gabionlaw07.SchemaBack': WHATEVER THE INPUT: true; the input reads as it did. -/
def schemaBackSpec : ChangeSpec := { name := "schemaBack", fn := fun _ => fun
  | [d1, d2] => { results := [.lit (.bool true)], args := [d1, d2] }
  | _ => none }
def schemaBackRow : OpenClaim := { program := "ytbnfdglfakaohaadoor", sum := "62a64a57c0646cb1eceb3c6f83033d05fee3dd8d6926dcbdc3f169377167c719", func := "gabion/gabionlaw07.SchemaBack", spec := "schemaBack", inPlace := ["math.Float64frombits", "math.Float64bits"], unfollowed := true, recurses := true, named := ["unicode/utf8.first", "unicode/utf8.acceptRanges"], loops := true, apart := false, laid := [("unicode/utf8.acceptRanges", laid_unicode_utf8_acceptRanges), ("unicode/utf8.first", laid_unicode_utf8_first)] }
def SchemaBackSaid : Prop := schemaBackRow.holds Tryd.pinned (OpenSpec.ofChange schemaBackSpec)

/-- ITS FALSE NEIGHBOUR: 'it returns false'. Refute it at one input. -/
def schemaBackWrong : ChangeSpec := { name := "schemaBack", fn := fun _ => fun
  | [d1, d2] => { results := [.lit (.bool false)], args := [d1, d2] }
  | _ => none }
def SchemaBackWrongFalsely : Prop := schemaBackRow.holds Tryd.pinned (OpenSpec.ofChange schemaBackWrong)

/-- 'gabionlaw07.SchemaUnlike': WHATEVER THE INPUT: true; the input reads as it did. -/
def schemaUnlikeSpec : ChangeSpec := { name := "schemaUnlike", fn := fun _ => fun
  | [d1, d2] => { results := [.lit (.bool true)], args := [d1, d2] }
  | _ => none }
def schemaUnlikeRow : OpenClaim := { program := "ytbnfdglfakaohaadoor", sum := "62a64a57c0646cb1eceb3c6f83033d05fee3dd8d6926dcbdc3f169377167c719", func := "gabion/gabionlaw07.SchemaUnlike", spec := "schemaUnlike", inPlace := ["math.Float64frombits", "math.Float64bits"], unfollowed := true, recurses := true, named := ["unicode/utf8.first", "unicode/utf8.acceptRanges"], loops := true, apart := false, laid := [("unicode/utf8.acceptRanges", laid_unicode_utf8_acceptRanges), ("unicode/utf8.first", laid_unicode_utf8_first)] }
def SchemaUnlikeSaid : Prop := schemaUnlikeRow.holds Tryd.pinned (OpenSpec.ofChange schemaUnlikeSpec)

/-- ITS FALSE NEIGHBOUR: 'it returns false'. Refute it at one input. -/
def schemaUnlikeWrong : ChangeSpec := { name := "schemaUnlike", fn := fun _ => fun
  | [d1, d2] => { results := [.lit (.bool false)], args := [d1, d2] }
  | _ => none }
def SchemaUnlikeWrongFalsely : Prop := schemaUnlikeRow.holds Tryd.pinned (OpenSpec.ofChange schemaUnlikeWrong)

/-- 'gabionlaw07.SchemaIs': WHATEVER THE INPUT: true; the input reads as it did. -/
def schemaIsSpec : ChangeSpec := { name := "schemaIs", fn := fun _ => fun
  | [d1, d2] => { results := [.lit (.bool true)], args := [d1, d2] }
  | _ => none }
def schemaIsRow : OpenClaim := { program := "ytbnfdglfakaohaadoor", sum := "62a64a57c0646cb1eceb3c6f83033d05fee3dd8d6926dcbdc3f169377167c719", func := "gabion/gabionlaw07.SchemaIs", spec := "schemaIs", inPlace := ["math.Float64bits", "math.Float64frombits"], unfollowed := true, recurses := true, named := ["unicode/utf8.first", "unicode/utf8.acceptRanges"], loops := true, apart := false, laid := [("unicode/utf8.acceptRanges", laid_unicode_utf8_acceptRanges), ("unicode/utf8.first", laid_unicode_utf8_first)] }
def SchemaIsSaid : Prop := schemaIsRow.holds Tryd.pinned (OpenSpec.ofChange schemaIsSpec)

/-- ITS FALSE NEIGHBOUR: 'it returns false'. Refute it at one input. -/
def schemaIsWrong : ChangeSpec := { name := "schemaIs", fn := fun _ => fun
  | [d1, d2] => { results := [.lit (.bool false)], args := [d1, d2] }
  | _ => none }
def SchemaIsWrongFalsely : Prop := schemaIsRow.holds Tryd.pinned (OpenSpec.ofChange schemaIsWrong)

/- THE SECOND FORM. 'bulk': how many values and letters a reading holds, each counted each time it is reached (what is shared counts as often as it is met; a slice's spare places count too). A statement '..UptoSaid' is the law's where the arguments, and the package variables that the reading takes, are together of bulk at most 1048576: NARROWER than '..Said'. Prove '..Said' where nothing that the law and all that it calls make is longer than what came in: it says more and counts as full. Else prove '..UptoSaid'. A law counts once. -/
mutual
def uptoBulk {H : Type} : DataW H → Nat
  | .lit (.string bytes) => bytes.length + 1
  | .lit _ => 1
  | .nil => 1
  | .ptr d => uptoBulk d + 1
  | .slice elems spare => uptoBulkAll elems + uptoBulkAll spare + 1
  | .agg parts => uptoBulkAll parts + 1
  | .iface _ d => uptoBulk d + 1
  | .map entries => uptoBulkEntries entries + 1
  | .held _ => 1
def uptoBulkAll {H : Type} : List (DataW H) → Nat
  | [] => 0
  | d :: r => uptoBulk d + uptoBulkAll r
def uptoBulkEntries {H : Type} : List (Lit × DataW H) → Nat
  | [] => 0
  | x :: r => uptoBulkEntry x + uptoBulkEntries r
def uptoBulkEntry {H : Type} : Lit × DataW H → Nat
  | (.string bytes, d) => bytes.length + uptoBulk d + 1
  | (_, d) => uptoBulk d + 1
 end
def uptoSmall : (H : Type) → List (DataW H) → Bool := fun _ ds => decide (uptoBulkAll ds ≤ 1048576)
def OpenSpec.upto (s : _root_.Go.ChangeSpec) : _root_.Go.OpenSpec := { _root_.Go.OpenSpec.ofChange s with cond := some uptoSmall }

/-- 'gabionlaw07.SchemaNumbers', WHERE WHAT IT READS IS OF BULK AT MOST 1048576: true; the input reads as it did. -/
def schemaNumbersUptoRow : OpenClaim := { program := "ytbnfdglfakaohaadoor", sum := "62a64a57c0646cb1eceb3c6f83033d05fee3dd8d6926dcbdc3f169377167c719", func := "gabion/gabionlaw07.SchemaNumbers", spec := "schemaNumbers", inPlace := ["math.Float64frombits", "math.Float64bits"], unfollowed := true, recurses := true, named := ["unicode/utf8.first", "unicode/utf8.acceptRanges"], apart := false, laid := [("unicode/utf8.acceptRanges", laid_unicode_utf8_acceptRanges), ("unicode/utf8.first", laid_unicode_utf8_first)], narrowed := true }
def SchemaNumbersUptoSaid : Prop := schemaNumbersUptoRow.holds Tryd.pinned (OpenSpec.upto schemaNumbersSpec)

/-- 'gabionlaw07.SchemaChecks', WHERE WHAT IT READS IS OF BULK AT MOST 1048576: true; the input reads as it did. -/
def schemaChecksUptoRow : OpenClaim := { program := "ytbnfdglfakaohaadoor", sum := "62a64a57c0646cb1eceb3c6f83033d05fee3dd8d6926dcbdc3f169377167c719", func := "gabion/gabionlaw07.SchemaChecks", spec := "schemaChecks", inPlace := ["math.Float64frombits", "math.Float64bits"], unfollowed := true, recurses := true, named := ["unicode/utf8.first", "unicode/utf8.acceptRanges"], loops := true, apart := false, laid := [("unicode/utf8.acceptRanges", laid_unicode_utf8_acceptRanges), ("unicode/utf8.first", laid_unicode_utf8_first)], narrowed := true }
def SchemaChecksUptoSaid : Prop := schemaChecksUptoRow.holds Tryd.pinned (OpenSpec.upto schemaChecksSpec)

/-- 'gabionlaw07.SchemaTypes', WHERE WHAT IT READS IS OF BULK AT MOST 1048576: true; the input reads as it did. -/
def schemaTypesUptoRow : OpenClaim := { program := "ytbnfdglfakaohaadoor", sum := "62a64a57c0646cb1eceb3c6f83033d05fee3dd8d6926dcbdc3f169377167c719", func := "gabion/gabionlaw07.SchemaTypes", spec := "schemaTypes", inPlace := ["math.Float64frombits", "math.Float64bits"], unfollowed := true, recurses := true, named := ["unicode/utf8.first", "unicode/utf8.acceptRanges"], loops := true, apart := false, laid := [("unicode/utf8.acceptRanges", laid_unicode_utf8_acceptRanges), ("unicode/utf8.first", laid_unicode_utf8_first)], narrowed := true }
def SchemaTypesUptoSaid : Prop := schemaTypesUptoRow.holds Tryd.pinned (OpenSpec.upto schemaTypesSpec)

/-- 'gabionlaw07.SchemaNames', WHERE WHAT IT READS IS OF BULK AT MOST 1048576: true; the input reads as it did. -/
def schemaNamesUptoRow : OpenClaim := { program := "ytbnfdglfakaohaadoor", sum := "62a64a57c0646cb1eceb3c6f83033d05fee3dd8d6926dcbdc3f169377167c719", func := "gabion/gabionlaw07.SchemaNames", spec := "schemaNames", inPlace := ["math.Float64frombits", "math.Float64bits"], unfollowed := true, recurses := true, named := ["unicode/utf8.first", "unicode/utf8.acceptRanges"], loops := true, apart := false, laid := [("unicode/utf8.acceptRanges", laid_unicode_utf8_acceptRanges), ("unicode/utf8.first", laid_unicode_utf8_first)], narrowed := true }
def SchemaNamesUptoSaid : Prop := schemaNamesUptoRow.holds Tryd.pinned (OpenSpec.upto schemaNamesSpec)

/-- 'gabionlaw07.SchemaSames', WHERE WHAT IT READS IS OF BULK AT MOST 1048576: true; the input reads as it did. -/
def schemaSamesUptoRow : OpenClaim := { program := "ytbnfdglfakaohaadoor", sum := "62a64a57c0646cb1eceb3c6f83033d05fee3dd8d6926dcbdc3f169377167c719", func := "gabion/gabionlaw07.SchemaSames", spec := "schemaSames", inPlace := ["math.Float64bits", "math.Float64frombits"], unfollowed := true, recurses := true, named := ["unicode/utf8.first", "unicode/utf8.acceptRanges"], loops := true, apart := false, laid := [("unicode/utf8.acceptRanges", laid_unicode_utf8_acceptRanges), ("unicode/utf8.first", laid_unicode_utf8_first)], narrowed := true }
def SchemaSamesUptoSaid : Prop := schemaSamesUptoRow.holds Tryd.pinned (OpenSpec.upto schemaSamesSpec)

/-- 'gabionlaw07.SchemaEncodes', WHERE WHAT IT READS IS OF BULK AT MOST 1048576: true; the input reads as it did. -/
def schemaEncodesUptoRow : OpenClaim := { program := "ytbnfdglfakaohaadoor", sum := "62a64a57c0646cb1eceb3c6f83033d05fee3dd8d6926dcbdc3f169377167c719", func := "gabion/gabionlaw07.SchemaEncodes", spec := "schemaEncodes", inPlace := ["math.Float64frombits", "math.Float64bits"], unfollowed := true, recurses := true, named := ["unicode/utf8.first", "unicode/utf8.acceptRanges"], loops := true, apart := false, laid := [("unicode/utf8.acceptRanges", laid_unicode_utf8_acceptRanges), ("unicode/utf8.first", laid_unicode_utf8_first)], narrowed := true }
def SchemaEncodesUptoSaid : Prop := schemaEncodesUptoRow.holds Tryd.pinned (OpenSpec.upto schemaEncodesSpec)

/-- 'gabionlaw07.SchemaDecodes', WHERE WHAT IT READS IS OF BULK AT MOST 1048576: true; the input reads as it did. -/
def schemaDecodesUptoRow : OpenClaim := { program := "ytbnfdglfakaohaadoor", sum := "62a64a57c0646cb1eceb3c6f83033d05fee3dd8d6926dcbdc3f169377167c719", func := "gabion/gabionlaw07.SchemaDecodes", spec := "schemaDecodes", inPlace := ["math.Float64frombits", "math.Float64bits"], unfollowed := true, recurses := true, named := ["unicode/utf8.first", "unicode/utf8.acceptRanges"], apart := false, laid := [("unicode/utf8.acceptRanges", laid_unicode_utf8_acceptRanges), ("unicode/utf8.first", laid_unicode_utf8_first)], narrowed := true }
def SchemaDecodesUptoSaid : Prop := schemaDecodesUptoRow.holds Tryd.pinned (OpenSpec.upto schemaDecodesSpec)

/-- 'gabionlaw07.SchemaBack', WHERE WHAT IT READS IS OF BULK AT MOST 1048576: true; the input reads as it did. -/
def schemaBackUptoRow : OpenClaim := { program := "ytbnfdglfakaohaadoor", sum := "62a64a57c0646cb1eceb3c6f83033d05fee3dd8d6926dcbdc3f169377167c719", func := "gabion/gabionlaw07.SchemaBack", spec := "schemaBack", inPlace := ["math.Float64frombits", "math.Float64bits"], unfollowed := true, recurses := true, named := ["unicode/utf8.first", "unicode/utf8.acceptRanges"], loops := true, apart := false, laid := [("unicode/utf8.acceptRanges", laid_unicode_utf8_acceptRanges), ("unicode/utf8.first", laid_unicode_utf8_first)], narrowed := true }
def SchemaBackUptoSaid : Prop := schemaBackUptoRow.holds Tryd.pinned (OpenSpec.upto schemaBackSpec)

/-- 'gabionlaw07.SchemaUnlike', WHERE WHAT IT READS IS OF BULK AT MOST 1048576: true; the input reads as it did. -/
def schemaUnlikeUptoRow : OpenClaim := { program := "ytbnfdglfakaohaadoor", sum := "62a64a57c0646cb1eceb3c6f83033d05fee3dd8d6926dcbdc3f169377167c719", func := "gabion/gabionlaw07.SchemaUnlike", spec := "schemaUnlike", inPlace := ["math.Float64frombits", "math.Float64bits"], unfollowed := true, recurses := true, named := ["unicode/utf8.first", "unicode/utf8.acceptRanges"], loops := true, apart := false, laid := [("unicode/utf8.acceptRanges", laid_unicode_utf8_acceptRanges), ("unicode/utf8.first", laid_unicode_utf8_first)], narrowed := true }
def SchemaUnlikeUptoSaid : Prop := schemaUnlikeUptoRow.holds Tryd.pinned (OpenSpec.upto schemaUnlikeSpec)

/-- 'gabionlaw07.SchemaIs', WHERE WHAT IT READS IS OF BULK AT MOST 1048576: true; the input reads as it did. -/
def schemaIsUptoRow : OpenClaim := { program := "ytbnfdglfakaohaadoor", sum := "62a64a57c0646cb1eceb3c6f83033d05fee3dd8d6926dcbdc3f169377167c719", func := "gabion/gabionlaw07.SchemaIs", spec := "schemaIs", inPlace := ["math.Float64bits", "math.Float64frombits"], unfollowed := true, recurses := true, named := ["unicode/utf8.first", "unicode/utf8.acceptRanges"], loops := true, apart := false, laid := [("unicode/utf8.acceptRanges", laid_unicode_utf8_acceptRanges), ("unicode/utf8.first", laid_unicode_utf8_first)], narrowed := true }
def SchemaIsUptoSaid : Prop := schemaIsUptoRow.holds Tryd.pinned (OpenSpec.upto schemaIsSpec)

end Rows
end Go.Proofs.YtbnfdglfakaohaaDoor
