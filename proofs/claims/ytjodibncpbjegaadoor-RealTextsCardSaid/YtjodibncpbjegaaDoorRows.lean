/-
  NARROWER THAN 'FOR EVERY INPUT', by the rows' own cells (each row's printed sentence says how): RealNumbers: laid · RealWholes: laid · RealFixes: laid · RealExact: laid · RealPrints: laid · RealParses: laid · RealTexts: laid.
  DERIVED. THE GIVEN ROWS OF THIS SEAT. 7 by the template 'for every input the law returns true; each argument reads behind the call as it read before'; 0 by the template 'total and deterministic' (their statements: YtjodibncpbjegaaDoorTotals.lean).
  GIVEN WITH THE SEED: the statements are not yours to turn. If you find one false, say at which input.
  Laid BY PROGRAM, IN A SANDBOX (cutbox-rows.mjs): the forced cells as the released guide's own fill.sh prints them over the translation ccf3aa8ab65ca921… (all of the seat's roots in one cut). By AI agents, Wed Nov 11 2026. No macro, syntax, notation, axiom, sorry.
-/
import Derived.Test.YtjodibncpbjegaaDoorChecked
import GoSem.Claim
import GoSem.ClaimJoined
import GoSem.ClaimMapViews
import Derived.JoinedTies
import Derived.KernelRfl
namespace Go.Proofs.YtjodibncpbjegaaDoor
/- THE CELL 'sum', in the pinned program and in every row, IS THE sha256 OF THE DUMP (.gsa) THAT YtjodibncpbjegaaDoorProg.lean LOADS. Nothing in Lean hashes anything: it is a label: what it is worth is what the hold of that sum in a sandbox is worth. -/
noncomputable def Tryd.pinned : Pinned := { name := "ytjodibncpbjegaadoor", sum := "ccf3aa8ab65ca921c498b2166b041c1cfa89eebbbab19c7307f359584c2c6104", checked := Tryd.checked }
namespace Rows
def none {H : Type} : Left H := { results := [], args := [] }

/- WHAT THE LISTED PACKAGE-LEVEL VARIABLES READ AS WHEN THE CALL BEGINS. Each datum BY PROGRAM (the guide's laid-datum.mjs) off the statement by which the dump's own 'gosem.cut.vars' lays the variable. In a bare row this is a premise. The card (YtjodibncpbjegaaDoorCards.lean) ties it to the program's text. -/
def laid_math_bits_deBruijn32tab {H : Type} : DataW H := .agg [.lit (.int .u8 0), .lit (.int .u8 1), .lit (.int .u8 28), .lit (.int .u8 2), .lit (.int .u8 29), .lit (.int .u8 14), .lit (.int .u8 24), .lit (.int .u8 3), .lit (.int .u8 30), .lit (.int .u8 22), .lit (.int .u8 20), .lit (.int .u8 15), .lit (.int .u8 25), .lit (.int .u8 17), .lit (.int .u8 4), .lit (.int .u8 8), .lit (.int .u8 31), .lit (.int .u8 27), .lit (.int .u8 13), .lit (.int .u8 23), .lit (.int .u8 21), .lit (.int .u8 19), .lit (.int .u8 16), .lit (.int .u8 7), .lit (.int .u8 26), .lit (.int .u8 12), .lit (.int .u8 18), .lit (.int .u8 6), .lit (.int .u8 11), .lit (.int .u8 5), .lit (.int .u8 10), .lit (.int .u8 9)]
def laid_math_bits_deBruijn64tab {H : Type} : DataW H := .agg [.lit (.int .u8 0), .lit (.int .u8 1), .lit (.int .u8 56), .lit (.int .u8 2), .lit (.int .u8 57), .lit (.int .u8 49), .lit (.int .u8 28), .lit (.int .u8 3), .lit (.int .u8 61), .lit (.int .u8 58), .lit (.int .u8 42), .lit (.int .u8 50), .lit (.int .u8 38), .lit (.int .u8 29), .lit (.int .u8 17), .lit (.int .u8 4), .lit (.int .u8 62), .lit (.int .u8 47), .lit (.int .u8 59), .lit (.int .u8 36), .lit (.int .u8 45), .lit (.int .u8 43), .lit (.int .u8 51), .lit (.int .u8 22), .lit (.int .u8 53), .lit (.int .u8 39), .lit (.int .u8 33), .lit (.int .u8 30), .lit (.int .u8 24), .lit (.int .u8 18), .lit (.int .u8 12), .lit (.int .u8 5), .lit (.int .u8 63), .lit (.int .u8 55), .lit (.int .u8 48), .lit (.int .u8 27), .lit (.int .u8 60), .lit (.int .u8 41), .lit (.int .u8 37), .lit (.int .u8 16), .lit (.int .u8 46), .lit (.int .u8 35), .lit (.int .u8 44), .lit (.int .u8 21), .lit (.int .u8 52), .lit (.int .u8 32), .lit (.int .u8 23), .lit (.int .u8 11), .lit (.int .u8 54), .lit (.int .u8 26), .lit (.int .u8 40), .lit (.int .u8 15), .lit (.int .u8 34), .lit (.int .u8 20), .lit (.int .u8 31), .lit (.int .u8 10), .lit (.int .u8 25), .lit (.int .u8 14), .lit (.int .u8 19), .lit (.int .u8 9), .lit (.int .u8 13), .lit (.int .u8 8), .lit (.int .u8 7), .lit (.int .u8 6)]
def laid_internal_strconv_uint64pow10 {H : Type} : DataW H := .agg [.lit (.int .u64 1), .lit (.int .u64 10), .lit (.int .u64 100), .lit (.int .u64 1000), .lit (.int .u64 10000), .lit (.int .u64 100000), .lit (.int .u64 1000000), .lit (.int .u64 10000000), .lit (.int .u64 100000000), .lit (.int .u64 1000000000), .lit (.int .u64 10000000000), .lit (.int .u64 100000000000), .lit (.int .u64 1000000000000), .lit (.int .u64 10000000000000), .lit (.int .u64 100000000000000), .lit (.int .u64 1000000000000000), .lit (.int .u64 10000000000000000), .lit (.int .u64 100000000000000000), .lit (.int .u64 1000000000000000000), .lit (.int .u64 10000000000000000000)]
def laid_strconv_ErrRange {H : Type} : DataW H := .iface "*errors.errorString" (.ptr (.agg [.lit (.string [118, 97, 108, 117, 101, 32, 111, 117, 116, 32, 111, 102, 32, 114, 97, 110, 103, 101])]))
def laid_strconv_ErrSyntax {H : Type} : DataW H := .iface "*errors.errorString" (.ptr (.agg [.lit (.string [105, 110, 118, 97, 108, 105, 100, 32, 115, 121, 110, 116, 97, 120])]))

/-- 'gabionlaw01.RealNumbers': WHATEVER THE INPUT: true; the input reads as it did. -/
def realNumbersSpec : ChangeSpec := { name := "realNumbers", fn := fun _ => fun
  | [] => { results := [.lit (.bool true)], args := [] }
  | _ => none }
def realNumbersRow : OpenClaim := { program := "ytjodibncpbjegaadoor", sum := "ccf3aa8ab65ca921c498b2166b041c1cfa89eebbbab19c7307f359584c2c6104", func := "gabion/gabionlaw01.RealNumbers", spec := "realNumbers", inPlace := ["math.Float64frombits", "math.archTrunc", "math.Float64bits", "internal/abi.NoEscape", "internal/bytealg.MakeNoZero"], named := ["internal/strconv.uint64pow10", "math/bits.deBruijn32tab", "math/bits.deBruijn64tab"], apart := false, laid := [("math/bits.deBruijn32tab", laid_math_bits_deBruijn32tab), ("math/bits.deBruijn64tab", laid_math_bits_deBruijn64tab), ("internal/strconv.uint64pow10", laid_internal_strconv_uint64pow10)] }
def RealNumbersSaid : Prop := realNumbersRow.holds Tryd.pinned (OpenSpec.ofChange realNumbersSpec)

/-- ITS FALSE NEIGHBOUR: 'it returns false'. Refute it at one input. -/
def realNumbersWrong : ChangeSpec := { name := "realNumbers", fn := fun _ => fun
  | [] => { results := [.lit (.bool false)], args := [] }
  | _ => none }
def RealNumbersWrongFalsely : Prop := realNumbersRow.holds Tryd.pinned (OpenSpec.ofChange realNumbersWrong)

/-- 'gabionlaw01.RealWholes': WHATEVER THE INPUT: true; the input reads as it did. -/
def realWholesSpec : ChangeSpec := { name := "realWholes", fn := fun _ => fun
  | [d1, d2] => { results := [.lit (.bool true)], args := [d1, d2] }
  | _ => none }
def realWholesRow : OpenClaim := { program := "ytjodibncpbjegaadoor", sum := "ccf3aa8ab65ca921c498b2166b041c1cfa89eebbbab19c7307f359584c2c6104", func := "gabion/gabionlaw01.RealWholes", spec := "realWholes", inPlace := ["math.Float64frombits", "math.archTrunc", "math.Float64bits", "math.archFloor", "internal/abi.NoEscape", "internal/bytealg.MakeNoZero"], named := ["strconv.ErrSyntax", "strconv.ErrRange", "internal/strconv.uint64pow10", "math/bits.deBruijn32tab", "math/bits.deBruijn64tab"], apart := false, laid := [("math/bits.deBruijn32tab", laid_math_bits_deBruijn32tab), ("math/bits.deBruijn64tab", laid_math_bits_deBruijn64tab), ("internal/strconv.uint64pow10", laid_internal_strconv_uint64pow10), ("strconv.ErrRange", laid_strconv_ErrRange), ("strconv.ErrSyntax", laid_strconv_ErrSyntax)] }
def RealWholesSaid : Prop := realWholesRow.holds Tryd.pinned (OpenSpec.ofChange realWholesSpec)

/-- ITS FALSE NEIGHBOUR: 'it returns false'. Refute it at one input. -/
def realWholesWrong : ChangeSpec := { name := "realWholes", fn := fun _ => fun
  | [d1, d2] => { results := [.lit (.bool false)], args := [d1, d2] }
  | _ => none }
def RealWholesWrongFalsely : Prop := realWholesRow.holds Tryd.pinned (OpenSpec.ofChange realWholesWrong)

/-- 'gabionlaw01.RealFixes': WHATEVER THE INPUT: true; the input reads as it did. -/
def realFixesSpec : ChangeSpec := { name := "realFixes", fn := fun _ => fun
  | [d1, d2] => { results := [.lit (.bool true)], args := [d1, d2] }
  | _ => none }
def realFixesRow : OpenClaim := { program := "ytjodibncpbjegaadoor", sum := "ccf3aa8ab65ca921c498b2166b041c1cfa89eebbbab19c7307f359584c2c6104", func := "gabion/gabionlaw01.RealFixes", spec := "realFixes", inPlace := ["math.Float64frombits", "math.Float64bits", "math.archTrunc", "internal/abi.NoEscape", "internal/bytealg.MakeNoZero"], named := ["strconv.ErrSyntax", "strconv.ErrRange", "internal/strconv.uint64pow10", "math/bits.deBruijn32tab", "math/bits.deBruijn64tab"], apart := false, laid := [("math/bits.deBruijn32tab", laid_math_bits_deBruijn32tab), ("math/bits.deBruijn64tab", laid_math_bits_deBruijn64tab), ("internal/strconv.uint64pow10", laid_internal_strconv_uint64pow10), ("strconv.ErrRange", laid_strconv_ErrRange), ("strconv.ErrSyntax", laid_strconv_ErrSyntax)] }
def RealFixesSaid : Prop := realFixesRow.holds Tryd.pinned (OpenSpec.ofChange realFixesSpec)

/-- ITS FALSE NEIGHBOUR: 'it returns false'. Refute it at one input. -/
def realFixesWrong : ChangeSpec := { name := "realFixes", fn := fun _ => fun
  | [d1, d2] => { results := [.lit (.bool false)], args := [d1, d2] }
  | _ => none }
def RealFixesWrongFalsely : Prop := realFixesRow.holds Tryd.pinned (OpenSpec.ofChange realFixesWrong)

/-- 'gabionlaw01.RealExact': WHATEVER THE INPUT: true; the input reads as it did. -/
def realExactSpec : ChangeSpec := { name := "realExact", fn := fun _ => fun
  | [d1, d2] => { results := [.lit (.bool true)], args := [d1, d2] }
  | _ => none }
def realExactRow : OpenClaim := { program := "ytjodibncpbjegaadoor", sum := "ccf3aa8ab65ca921c498b2166b041c1cfa89eebbbab19c7307f359584c2c6104", func := "gabion/gabionlaw01.RealExact", spec := "realExact", inPlace := ["math.Float64frombits", "math.archTrunc", "math.Float64bits", "internal/abi.NoEscape", "internal/bytealg.MakeNoZero"], named := ["strconv.ErrSyntax", "strconv.ErrRange", "internal/strconv.uint64pow10", "math/bits.deBruijn32tab", "math/bits.deBruijn64tab"], apart := false, laid := [("math/bits.deBruijn32tab", laid_math_bits_deBruijn32tab), ("math/bits.deBruijn64tab", laid_math_bits_deBruijn64tab), ("internal/strconv.uint64pow10", laid_internal_strconv_uint64pow10), ("strconv.ErrRange", laid_strconv_ErrRange), ("strconv.ErrSyntax", laid_strconv_ErrSyntax)] }
def RealExactSaid : Prop := realExactRow.holds Tryd.pinned (OpenSpec.ofChange realExactSpec)

/-- ITS FALSE NEIGHBOUR: 'it returns false'. Refute it at one input. -/
def realExactWrong : ChangeSpec := { name := "realExact", fn := fun _ => fun
  | [d1, d2] => { results := [.lit (.bool false)], args := [d1, d2] }
  | _ => none }
def RealExactWrongFalsely : Prop := realExactRow.holds Tryd.pinned (OpenSpec.ofChange realExactWrong)

/-- 'gabionlaw01.RealPrints': WHATEVER THE INPUT: true; the input reads as it did. -/
def realPrintsSpec : ChangeSpec := { name := "realPrints", fn := fun _ => fun
  | [d] => { results := [.lit (.bool true)], args := [d] }
  | _ => none }
def realPrintsRow : OpenClaim := { program := "ytjodibncpbjegaadoor", sum := "ccf3aa8ab65ca921c498b2166b041c1cfa89eebbbab19c7307f359584c2c6104", func := "gabion/gabionlaw01.RealPrints", spec := "realPrints", inPlace := ["math.archTrunc", "math.Float64bits", "math.Float64frombits", "internal/abi.NoEscape", "internal/bytealg.MakeNoZero"], named := ["strconv.ErrSyntax", "strconv.ErrRange", "internal/strconv.uint64pow10", "math/bits.deBruijn32tab", "math/bits.deBruijn64tab"], apart := false, laid := [("math/bits.deBruijn32tab", laid_math_bits_deBruijn32tab), ("math/bits.deBruijn64tab", laid_math_bits_deBruijn64tab), ("internal/strconv.uint64pow10", laid_internal_strconv_uint64pow10), ("strconv.ErrRange", laid_strconv_ErrRange), ("strconv.ErrSyntax", laid_strconv_ErrSyntax)] }
def RealPrintsSaid : Prop := realPrintsRow.holds Tryd.pinned (OpenSpec.ofChange realPrintsSpec)

/-- ITS FALSE NEIGHBOUR: 'it returns false'. Refute it at one input. -/
def realPrintsWrong : ChangeSpec := { name := "realPrints", fn := fun _ => fun
  | [d] => { results := [.lit (.bool false)], args := [d] }
  | _ => none }
def RealPrintsWrongFalsely : Prop := realPrintsRow.holds Tryd.pinned (OpenSpec.ofChange realPrintsWrong)

/-- 'gabionlaw01.RealParses': WHATEVER THE INPUT: true; the input reads as it did. -/
def realParsesSpec : ChangeSpec := { name := "realParses", fn := fun _ => fun
  | [d] => { results := [.lit (.bool true)], args := [d] }
  | _ => none }
def realParsesRow : OpenClaim := { program := "ytjodibncpbjegaadoor", sum := "ccf3aa8ab65ca921c498b2166b041c1cfa89eebbbab19c7307f359584c2c6104", func := "gabion/gabionlaw01.RealParses", spec := "realParses", inPlace := ["math.Float64frombits", "math.Float64bits", "math.archTrunc", "internal/abi.NoEscape", "internal/bytealg.MakeNoZero"], named := ["strconv.ErrSyntax", "strconv.ErrRange", "internal/strconv.uint64pow10", "math/bits.deBruijn32tab", "math/bits.deBruijn64tab"], apart := false, laid := [("math/bits.deBruijn32tab", laid_math_bits_deBruijn32tab), ("math/bits.deBruijn64tab", laid_math_bits_deBruijn64tab), ("internal/strconv.uint64pow10", laid_internal_strconv_uint64pow10), ("strconv.ErrRange", laid_strconv_ErrRange), ("strconv.ErrSyntax", laid_strconv_ErrSyntax)] }
def RealParsesSaid : Prop := realParsesRow.holds Tryd.pinned (OpenSpec.ofChange realParsesSpec)

/-- ITS FALSE NEIGHBOUR: 'it returns false'. Refute it at one input. -/
def realParsesWrong : ChangeSpec := { name := "realParses", fn := fun _ => fun
  | [d] => { results := [.lit (.bool false)], args := [d] }
  | _ => none }
def RealParsesWrongFalsely : Prop := realParsesRow.holds Tryd.pinned (OpenSpec.ofChange realParsesWrong)

/-- 'gabionlaw01.RealTexts': WHATEVER THE INPUT: true; the input reads as it did. -/
def realTextsSpec : ChangeSpec := { name := "realTexts", fn := fun _ => fun
  | [d1, d2, d3] => { results := [.lit (.bool true)], args := [d1, d2, d3] }
  | _ => none }
def realTextsRow : OpenClaim := { program := "ytjodibncpbjegaadoor", sum := "ccf3aa8ab65ca921c498b2166b041c1cfa89eebbbab19c7307f359584c2c6104", func := "gabion/gabionlaw01.RealTexts", spec := "realTexts", inPlace := ["math.Float64frombits", "math.Float64bits", "math.archTrunc", "internal/abi.NoEscape", "internal/bytealg.MakeNoZero"], named := ["internal/strconv.uint64pow10", "math/bits.deBruijn32tab", "math/bits.deBruijn64tab", "strconv.ErrSyntax", "strconv.ErrRange"], apart := false, laid := [("math/bits.deBruijn32tab", laid_math_bits_deBruijn32tab), ("math/bits.deBruijn64tab", laid_math_bits_deBruijn64tab), ("internal/strconv.uint64pow10", laid_internal_strconv_uint64pow10), ("strconv.ErrRange", laid_strconv_ErrRange), ("strconv.ErrSyntax", laid_strconv_ErrSyntax)] }
def RealTextsSaid : Prop := realTextsRow.holds Tryd.pinned (OpenSpec.ofChange realTextsSpec)

/-- ITS FALSE NEIGHBOUR: 'it returns false'. Refute it at one input. -/
def realTextsWrong : ChangeSpec := { name := "realTexts", fn := fun _ => fun
  | [d1, d2, d3] => { results := [.lit (.bool false)], args := [d1, d2, d3] }
  | _ => none }
def RealTextsWrongFalsely : Prop := realTextsRow.holds Tryd.pinned (OpenSpec.ofChange realTextsWrong)

/- THE SECOND FORM. 'bulk': how many values and letters a reading holds, each counted each time it is reached (what is shared counts as often as it is met; a slice's spare places count too). A statement '..UptoSaid' is the law's where the arguments, and the package variables that the reading takes, are together of bulk at most 1048576: NARROWER than '..Said'. Prove '..Said' where nothing that the law and all that it calls make is longer than what came in: it says more and counts as full. Else prove '..UptoSaid'. A law counts once. -/
mutual
def uptoBulk {H : Type} : DataW H → Nat
  | .lit (.string bytes) => bytes.length + 1
  | .lit _ => 1
  | .nil => 1
  | .ptr d => uptoBulk d + 1
  | .slice elems spare => uptoBulkAll elems + uptoBulkAll spare + 1
  | .agg parts => uptoBulkAll parts + 1
  | .iface _ d => uptoBulk d + 1
  | .map entries => uptoBulkEntries entries + 1
  | .held _ => 1
def uptoBulkAll {H : Type} : List (DataW H) → Nat
  | [] => 0
  | d :: r => uptoBulk d + uptoBulkAll r
def uptoBulkEntries {H : Type} : List (Lit × DataW H) → Nat
  | [] => 0
  | x :: r => uptoBulkEntry x + uptoBulkEntries r
def uptoBulkEntry {H : Type} : Lit × DataW H → Nat
  | (.string bytes, d) => bytes.length + uptoBulk d + 1
  | (_, d) => uptoBulk d + 1
 end
def uptoSmall : (H : Type) → List (DataW H) → Bool := fun _ ds => decide (uptoBulkAll ds ≤ 1048576)
def OpenSpec.upto (s : _root_.Go.ChangeSpec) : _root_.Go.OpenSpec := { _root_.Go.OpenSpec.ofChange s with cond := some uptoSmall }

/-- 'gabionlaw01.RealNumbers', WHERE WHAT IT READS IS OF BULK AT MOST 1048576: true; the input reads as it did. -/
def realNumbersUptoRow : OpenClaim := { program := "ytjodibncpbjegaadoor", sum := "ccf3aa8ab65ca921c498b2166b041c1cfa89eebbbab19c7307f359584c2c6104", func := "gabion/gabionlaw01.RealNumbers", spec := "realNumbers", inPlace := ["math.Float64frombits", "math.archTrunc", "math.Float64bits", "internal/abi.NoEscape", "internal/bytealg.MakeNoZero"], named := ["internal/strconv.uint64pow10", "math/bits.deBruijn32tab", "math/bits.deBruijn64tab"], apart := false, laid := [("math/bits.deBruijn32tab", laid_math_bits_deBruijn32tab), ("math/bits.deBruijn64tab", laid_math_bits_deBruijn64tab), ("internal/strconv.uint64pow10", laid_internal_strconv_uint64pow10)], narrowed := true }
def RealNumbersUptoSaid : Prop := realNumbersUptoRow.holds Tryd.pinned (OpenSpec.upto realNumbersSpec)

/-- 'gabionlaw01.RealWholes', WHERE WHAT IT READS IS OF BULK AT MOST 1048576: true; the input reads as it did. -/
def realWholesUptoRow : OpenClaim := { program := "ytjodibncpbjegaadoor", sum := "ccf3aa8ab65ca921c498b2166b041c1cfa89eebbbab19c7307f359584c2c6104", func := "gabion/gabionlaw01.RealWholes", spec := "realWholes", inPlace := ["math.Float64frombits", "math.archTrunc", "math.Float64bits", "math.archFloor", "internal/abi.NoEscape", "internal/bytealg.MakeNoZero"], named := ["strconv.ErrSyntax", "strconv.ErrRange", "internal/strconv.uint64pow10", "math/bits.deBruijn32tab", "math/bits.deBruijn64tab"], apart := false, laid := [("math/bits.deBruijn32tab", laid_math_bits_deBruijn32tab), ("math/bits.deBruijn64tab", laid_math_bits_deBruijn64tab), ("internal/strconv.uint64pow10", laid_internal_strconv_uint64pow10), ("strconv.ErrRange", laid_strconv_ErrRange), ("strconv.ErrSyntax", laid_strconv_ErrSyntax)], narrowed := true }
def RealWholesUptoSaid : Prop := realWholesUptoRow.holds Tryd.pinned (OpenSpec.upto realWholesSpec)

/-- 'gabionlaw01.RealFixes', WHERE WHAT IT READS IS OF BULK AT MOST 1048576: true; the input reads as it did. -/
def realFixesUptoRow : OpenClaim := { program := "ytjodibncpbjegaadoor", sum := "ccf3aa8ab65ca921c498b2166b041c1cfa89eebbbab19c7307f359584c2c6104", func := "gabion/gabionlaw01.RealFixes", spec := "realFixes", inPlace := ["math.Float64frombits", "math.Float64bits", "math.archTrunc", "internal/abi.NoEscape", "internal/bytealg.MakeNoZero"], named := ["strconv.ErrSyntax", "strconv.ErrRange", "internal/strconv.uint64pow10", "math/bits.deBruijn32tab", "math/bits.deBruijn64tab"], apart := false, laid := [("math/bits.deBruijn32tab", laid_math_bits_deBruijn32tab), ("math/bits.deBruijn64tab", laid_math_bits_deBruijn64tab), ("internal/strconv.uint64pow10", laid_internal_strconv_uint64pow10), ("strconv.ErrRange", laid_strconv_ErrRange), ("strconv.ErrSyntax", laid_strconv_ErrSyntax)], narrowed := true }
def RealFixesUptoSaid : Prop := realFixesUptoRow.holds Tryd.pinned (OpenSpec.upto realFixesSpec)

/-- 'gabionlaw01.RealExact', WHERE WHAT IT READS IS OF BULK AT MOST 1048576: true; the input reads as it did. -/
def realExactUptoRow : OpenClaim := { program := "ytjodibncpbjegaadoor", sum := "ccf3aa8ab65ca921c498b2166b041c1cfa89eebbbab19c7307f359584c2c6104", func := "gabion/gabionlaw01.RealExact", spec := "realExact", inPlace := ["math.Float64frombits", "math.archTrunc", "math.Float64bits", "internal/abi.NoEscape", "internal/bytealg.MakeNoZero"], named := ["strconv.ErrSyntax", "strconv.ErrRange", "internal/strconv.uint64pow10", "math/bits.deBruijn32tab", "math/bits.deBruijn64tab"], apart := false, laid := [("math/bits.deBruijn32tab", laid_math_bits_deBruijn32tab), ("math/bits.deBruijn64tab", laid_math_bits_deBruijn64tab), ("internal/strconv.uint64pow10", laid_internal_strconv_uint64pow10), ("strconv.ErrRange", laid_strconv_ErrRange), ("strconv.ErrSyntax", laid_strconv_ErrSyntax)], narrowed := true }
def RealExactUptoSaid : Prop := realExactUptoRow.holds Tryd.pinned (OpenSpec.upto realExactSpec)

/-- 'gabionlaw01.RealPrints', WHERE WHAT IT READS IS OF BULK AT MOST 1048576: true; the input reads as it did. -/
def realPrintsUptoRow : OpenClaim := { program := "ytjodibncpbjegaadoor", sum := "ccf3aa8ab65ca921c498b2166b041c1cfa89eebbbab19c7307f359584c2c6104", func := "gabion/gabionlaw01.RealPrints", spec := "realPrints", inPlace := ["math.archTrunc", "math.Float64bits", "math.Float64frombits", "internal/abi.NoEscape", "internal/bytealg.MakeNoZero"], named := ["strconv.ErrSyntax", "strconv.ErrRange", "internal/strconv.uint64pow10", "math/bits.deBruijn32tab", "math/bits.deBruijn64tab"], apart := false, laid := [("math/bits.deBruijn32tab", laid_math_bits_deBruijn32tab), ("math/bits.deBruijn64tab", laid_math_bits_deBruijn64tab), ("internal/strconv.uint64pow10", laid_internal_strconv_uint64pow10), ("strconv.ErrRange", laid_strconv_ErrRange), ("strconv.ErrSyntax", laid_strconv_ErrSyntax)], narrowed := true }
def RealPrintsUptoSaid : Prop := realPrintsUptoRow.holds Tryd.pinned (OpenSpec.upto realPrintsSpec)

/-- 'gabionlaw01.RealParses', WHERE WHAT IT READS IS OF BULK AT MOST 1048576: true; the input reads as it did. -/
def realParsesUptoRow : OpenClaim := { program := "ytjodibncpbjegaadoor", sum := "ccf3aa8ab65ca921c498b2166b041c1cfa89eebbbab19c7307f359584c2c6104", func := "gabion/gabionlaw01.RealParses", spec := "realParses", inPlace := ["math.Float64frombits", "math.Float64bits", "math.archTrunc", "internal/abi.NoEscape", "internal/bytealg.MakeNoZero"], named := ["strconv.ErrSyntax", "strconv.ErrRange", "internal/strconv.uint64pow10", "math/bits.deBruijn32tab", "math/bits.deBruijn64tab"], apart := false, laid := [("math/bits.deBruijn32tab", laid_math_bits_deBruijn32tab), ("math/bits.deBruijn64tab", laid_math_bits_deBruijn64tab), ("internal/strconv.uint64pow10", laid_internal_strconv_uint64pow10), ("strconv.ErrRange", laid_strconv_ErrRange), ("strconv.ErrSyntax", laid_strconv_ErrSyntax)], narrowed := true }
def RealParsesUptoSaid : Prop := realParsesUptoRow.holds Tryd.pinned (OpenSpec.upto realParsesSpec)

/-- 'gabionlaw01.RealTexts', WHERE WHAT IT READS IS OF BULK AT MOST 1048576: true; the input reads as it did. -/
def realTextsUptoRow : OpenClaim := { program := "ytjodibncpbjegaadoor", sum := "ccf3aa8ab65ca921c498b2166b041c1cfa89eebbbab19c7307f359584c2c6104", func := "gabion/gabionlaw01.RealTexts", spec := "realTexts", inPlace := ["math.Float64frombits", "math.Float64bits", "math.archTrunc", "internal/abi.NoEscape", "internal/bytealg.MakeNoZero"], named := ["internal/strconv.uint64pow10", "math/bits.deBruijn32tab", "math/bits.deBruijn64tab", "strconv.ErrSyntax", "strconv.ErrRange"], apart := false, laid := [("math/bits.deBruijn32tab", laid_math_bits_deBruijn32tab), ("math/bits.deBruijn64tab", laid_math_bits_deBruijn64tab), ("internal/strconv.uint64pow10", laid_internal_strconv_uint64pow10), ("strconv.ErrRange", laid_strconv_ErrRange), ("strconv.ErrSyntax", laid_strconv_ErrSyntax)], narrowed := true }
def RealTextsUptoSaid : Prop := realTextsUptoRow.holds Tryd.pinned (OpenSpec.upto realTextsSpec)

end Rows
end Go.Proofs.YtjodibncpbjegaaDoor
