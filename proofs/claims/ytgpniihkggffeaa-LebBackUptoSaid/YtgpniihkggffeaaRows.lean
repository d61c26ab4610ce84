/-
  No cell of these rows narrows 'for every input' (looked for: loops, veiled, ifaces, maps, wideKeys, modest, calm, conditions, laid).
  DERIVED. THE GIVEN ROWS OF THIS SEAT. 6 by the template 'for every input the law returns true; each argument reads behind the call as it read before'; 0 by the template 'total and deterministic' (their statements: YtgpniihkggffeaaTotals.lean).
  GIVEN WITH THE SEED: the statements are not yours to turn. If you find one false, say at which input.
  Laid BY PROGRAM, IN A SANDBOX (cutbox-rows.mjs): the forced cells as the released guide's own fill.sh prints them over the translation 5f5e2b75c8f02555… (all of the seat's roots in one cut). By AI agents, Wed Nov 11 2026. No macro, syntax, notation, axiom, sorry.
-/
import Derived.Test.YtgpniihkggffeaaChecked
import GoSem.Claim
import GoSem.ClaimJoined
import GoSem.ClaimMapViews
import Derived.JoinedTies
import Derived.KernelRfl
namespace Go.Proofs.Ytgpniihkggffeaa
/- THE CELL 'sum', in the pinned program and in every row, IS THE sha256 OF THE DUMP (.gsa) THAT YtgpniihkggffeaaProg.lean LOADS. Nothing in Lean hashes anything: it is a label: what it is worth is what the hold of that sum in a sandbox is worth. -/
noncomputable def Try.pinned : Pinned := { name := "ytgpniihkggffeaa", sum := "5f5e2b75c8f0255581e0a9237c8887367fcb24745465dc0617c92585eb8b84e2", checked := Try.checked }
namespace Rows
def none {H : Type} : Left H := { results := [], args := [] }

/-- 'gabionlaw03.LebGets': WHATEVER THE INPUT: true; the input reads as it did. -/
def lebGetsSpec : ChangeSpec := { name := "lebGets", fn := fun _ => fun
  | [d1, d2] => { results := [.lit (.bool true)], args := [d1, d2] }
  | _ => none }
def lebGetsRow : OpenClaim := { program := "ytgpniihkggffeaa", sum := "5f5e2b75c8f0255581e0a9237c8887367fcb24745465dc0617c92585eb8b84e2", func := "gabion/gabionlaw03.LebGets", spec := "lebGets", apart := false }
def LebGetsSaid : Prop := lebGetsRow.holds Try.pinned (OpenSpec.ofChange lebGetsSpec)

/-- ITS FALSE NEIGHBOUR: 'it returns false'. Refute it at one input. -/
def lebGetsWrong : ChangeSpec := { name := "lebGets", fn := fun _ => fun
  | [d1, d2] => { results := [.lit (.bool false)], args := [d1, d2] }
  | _ => none }
def LebGetsWrongFalsely : Prop := lebGetsRow.holds Try.pinned (OpenSpec.ofChange lebGetsWrong)

/-- 'gabionlaw03.LebSigns': WHATEVER THE INPUT: true; the input reads as it did. -/
def lebSignsSpec : ChangeSpec := { name := "lebSigns", fn := fun _ => fun
  | [d1, d2, d3] => { results := [.lit (.bool true)], args := [d1, d2, d3] }
  | _ => none }
def lebSignsRow : OpenClaim := { program := "ytgpniihkggffeaa", sum := "5f5e2b75c8f0255581e0a9237c8887367fcb24745465dc0617c92585eb8b84e2", func := "gabion/gabionlaw03.LebSigns", spec := "lebSigns", apart := false }
def LebSignsSaid : Prop := lebSignsRow.holds Try.pinned (OpenSpec.ofChange lebSignsSpec)

/-- ITS FALSE NEIGHBOUR: 'it returns false'. Refute it at one input. -/
def lebSignsWrong : ChangeSpec := { name := "lebSigns", fn := fun _ => fun
  | [d1, d2, d3] => { results := [.lit (.bool false)], args := [d1, d2, d3] }
  | _ => none }
def LebSignsWrongFalsely : Prop := lebSignsRow.holds Try.pinned (OpenSpec.ofChange lebSignsWrong)

/-- 'gabionlaw03.LebNumbers': WHATEVER THE INPUT: true; the input reads as it did. -/
def lebNumbersSpec : ChangeSpec := { name := "lebNumbers", fn := fun _ => fun
  | [] => { results := [.lit (.bool true)], args := [] }
  | _ => none }
def lebNumbersRow : OpenClaim := { program := "ytgpniihkggffeaa", sum := "5f5e2b75c8f0255581e0a9237c8887367fcb24745465dc0617c92585eb8b84e2", func := "gabion/gabionlaw03.LebNumbers", spec := "lebNumbers", apart := false }
def LebNumbersSaid : Prop := lebNumbersRow.holds Try.pinned (OpenSpec.ofChange lebNumbersSpec)

/-- ITS FALSE NEIGHBOUR: 'it returns false'. Refute it at one input. -/
def lebNumbersWrong : ChangeSpec := { name := "lebNumbers", fn := fun _ => fun
  | [] => { results := [.lit (.bool false)], args := [] }
  | _ => none }
def LebNumbersWrongFalsely : Prop := lebNumbersRow.holds Try.pinned (OpenSpec.ofChange lebNumbersWrong)

/-- 'gabionlaw03.LebPuts': WHATEVER THE INPUT: true; the input reads as it did. -/
def lebPutsSpec : ChangeSpec := { name := "lebPuts", fn := fun _ => fun
  | [d1, d2] => { results := [.lit (.bool true)], args := [d1, d2] }
  | _ => none }
def lebPutsRow : OpenClaim := { program := "ytgpniihkggffeaa", sum := "5f5e2b75c8f0255581e0a9237c8887367fcb24745465dc0617c92585eb8b84e2", func := "gabion/gabionlaw03.LebPuts", spec := "lebPuts", apart := false }
def LebPutsSaid : Prop := lebPutsRow.holds Try.pinned (OpenSpec.ofChange lebPutsSpec)

/-- ITS FALSE NEIGHBOUR: 'it returns false'. Refute it at one input. -/
def lebPutsWrong : ChangeSpec := { name := "lebPuts", fn := fun _ => fun
  | [d1, d2] => { results := [.lit (.bool false)], args := [d1, d2] }
  | _ => none }
def LebPutsWrongFalsely : Prop := lebPutsRow.holds Try.pinned (OpenSpec.ofChange lebPutsWrong)

/-- 'gabionlaw03.LebBack': WHATEVER THE INPUT: true; the input reads as it did. -/
def lebBackSpec : ChangeSpec := { name := "lebBack", fn := fun _ => fun
  | [d] => { results := [.lit (.bool true)], args := [d] }
  | _ => none }
def lebBackRow : OpenClaim := { program := "ytgpniihkggffeaa", sum := "5f5e2b75c8f0255581e0a9237c8887367fcb24745465dc0617c92585eb8b84e2", func := "gabion/gabionlaw03.LebBack", spec := "lebBack", apart := false }
def LebBackSaid : Prop := lebBackRow.holds Try.pinned (OpenSpec.ofChange lebBackSpec)

/-- ITS FALSE NEIGHBOUR: 'it returns false'. Refute it at one input. -/
def lebBackWrong : ChangeSpec := { name := "lebBack", fn := fun _ => fun
  | [d] => { results := [.lit (.bool false)], args := [d] }
  | _ => none }
def LebBackWrongFalsely : Prop := lebBackRow.holds Try.pinned (OpenSpec.ofChange lebBackWrong)

/-- 'gabionlaw03.LebUnlike': WHATEVER THE INPUT: true; the input reads as it did. -/
def lebUnlikeSpec : ChangeSpec := { name := "lebUnlike", fn := fun _ => fun
  | [d1, d2] => { results := [.lit (.bool true)], args := [d1, d2] }
  | _ => none }
def lebUnlikeRow : OpenClaim := { program := "ytgpniihkggffeaa", sum := "5f5e2b75c8f0255581e0a9237c8887367fcb24745465dc0617c92585eb8b84e2", func := "gabion/gabionlaw03.LebUnlike", spec := "lebUnlike", apart := false }
def LebUnlikeSaid : Prop := lebUnlikeRow.holds Try.pinned (OpenSpec.ofChange lebUnlikeSpec)

/-- ITS FALSE NEIGHBOUR: 'it returns false'. Refute it at one input. -/
def lebUnlikeWrong : ChangeSpec := { name := "lebUnlike", fn := fun _ => fun
  | [d1, d2] => { results := [.lit (.bool false)], args := [d1, d2] }
  | _ => none }
def LebUnlikeWrongFalsely : Prop := lebUnlikeRow.holds Try.pinned (OpenSpec.ofChange lebUnlikeWrong)

/- THE SECOND FORM. 'bulk': how many values and letters a reading holds, each counted each time it is reached (what is shared counts as often as it is met; a slice's spare places count too). A statement '..UptoSaid' is the law's where the arguments, and the package variables that the reading takes, are together of bulk at most 1048576: NARROWER than '..Said'. Prove '..Said' where nothing that the law and all that it calls make is longer than what came in: it says more and counts as full. Else prove '..UptoSaid'. A law counts once. -/
mutual
def uptoBulk {H : Type} : DataW H → Nat
  | .lit (.string bytes) => bytes.length + 1
  | .lit _ => 1
  | .nil => 1
  | .ptr d => uptoBulk d + 1
  | .slice elems spare => uptoBulkAll elems + uptoBulkAll spare + 1
  | .agg parts => uptoBulkAll parts + 1
  | .iface _ d => uptoBulk d + 1
  | .map entries => uptoBulkEntries entries + 1
  | .held _ => 1
def uptoBulkAll {H : Type} : List (DataW H) → Nat
  | [] => 0
  | d :: r => uptoBulk d + uptoBulkAll r
def uptoBulkEntries {H : Type} : List (Lit × DataW H) → Nat
  | [] => 0
  | x :: r => uptoBulkEntry x + uptoBulkEntries r
def uptoBulkEntry {H : Type} : Lit × DataW H → Nat
  | (.string bytes, d) => bytes.length + uptoBulk d + 1
  | (_, d) => uptoBulk d + 1
 end
def uptoSmall : (H : Type) → List (DataW H) → Bool := fun _ ds => decide (uptoBulkAll ds ≤ 1048576)
def OpenSpec.upto (s : _root_.Go.ChangeSpec) : _root_.Go.OpenSpec := { _root_.Go.OpenSpec.ofChange s with cond := some uptoSmall }

/-- 'gabionlaw03.LebGets', WHERE WHAT IT READS IS OF BULK AT MOST 1048576: true; the input reads as it did. -/
def lebGetsUptoRow : OpenClaim := { program := "ytgpniihkggffeaa", sum := "5f5e2b75c8f0255581e0a9237c8887367fcb24745465dc0617c92585eb8b84e2", func := "gabion/gabionlaw03.LebGets", spec := "lebGets", apart := false, narrowed := true }
def LebGetsUptoSaid : Prop := lebGetsUptoRow.holds Try.pinned (OpenSpec.upto lebGetsSpec)

/-- 'gabionlaw03.LebSigns', WHERE WHAT IT READS IS OF BULK AT MOST 1048576: true; the input reads as it did. -/
def lebSignsUptoRow : OpenClaim := { program := "ytgpniihkggffeaa", sum := "5f5e2b75c8f0255581e0a9237c8887367fcb24745465dc0617c92585eb8b84e2", func := "gabion/gabionlaw03.LebSigns", spec := "lebSigns", apart := false, narrowed := true }
def LebSignsUptoSaid : Prop := lebSignsUptoRow.holds Try.pinned (OpenSpec.upto lebSignsSpec)

/-- 'gabionlaw03.LebNumbers', WHERE WHAT IT READS IS OF BULK AT MOST 1048576: true; the input reads as it did. -/
def lebNumbersUptoRow : OpenClaim := { program := "ytgpniihkggffeaa", sum := "5f5e2b75c8f0255581e0a9237c8887367fcb24745465dc0617c92585eb8b84e2", func := "gabion/gabionlaw03.LebNumbers", spec := "lebNumbers", apart := false, narrowed := true }
def LebNumbersUptoSaid : Prop := lebNumbersUptoRow.holds Try.pinned (OpenSpec.upto lebNumbersSpec)

/-- 'gabionlaw03.LebPuts', WHERE WHAT IT READS IS OF BULK AT MOST 1048576: true; the input reads as it did. -/
def lebPutsUptoRow : OpenClaim := { program := "ytgpniihkggffeaa", sum := "5f5e2b75c8f0255581e0a9237c8887367fcb24745465dc0617c92585eb8b84e2", func := "gabion/gabionlaw03.LebPuts", spec := "lebPuts", apart := false, narrowed := true }
def LebPutsUptoSaid : Prop := lebPutsUptoRow.holds Try.pinned (OpenSpec.upto lebPutsSpec)

/-- 'gabionlaw03.LebBack', WHERE WHAT IT READS IS OF BULK AT MOST 1048576: true; the input reads as it did. -/
def lebBackUptoRow : OpenClaim := { program := "ytgpniihkggffeaa", sum := "5f5e2b75c8f0255581e0a9237c8887367fcb24745465dc0617c92585eb8b84e2", func := "gabion/gabionlaw03.LebBack", spec := "lebBack", apart := false, narrowed := true }
def LebBackUptoSaid : Prop := lebBackUptoRow.holds Try.pinned (OpenSpec.upto lebBackSpec)

/-- 'gabionlaw03.LebUnlike', WHERE WHAT IT READS IS OF BULK AT MOST 1048576: true; the input reads as it did. -/
def lebUnlikeUptoRow : OpenClaim := { program := "ytgpniihkggffeaa", sum := "5f5e2b75c8f0255581e0a9237c8887367fcb24745465dc0617c92585eb8b84e2", func := "gabion/gabionlaw03.LebUnlike", spec := "lebUnlike", apart := false, narrowed := true }
def LebUnlikeUptoSaid : Prop := lebUnlikeUptoRow.holds Try.pinned (OpenSpec.upto lebUnlikeSpec)

end Rows
end Go.Proofs.Ytgpniihkggffeaa
