/-
  DERIVED. GIVEN WITH THE SEED: THE CARDS: each row of YtfheoidnahhnlaaDoorRows.lean that lists a variable, with what it lists TIED to the program's text (the seventh form; the later family's looks); each row that meets fmt, with fmt's text TOLD by the authors' own Lean function (tested against real Go, not proved from fmt's source: count such statements apart). THE CARD IS WHAT COUNTS. Prove the row's statement (the work); the ties are given (YtfheoidnahhnlaaDoorTie.lean); close each card by the builder's one call (the guide's Derived/Test/ToyasCard.lean, 'card_holds'). Laid BY PROGRAM, IN A SANDBOX (cutbox-door.mjs). By AI agents, Wed Nov 11 2026. No macro, syntax, notation, axiom, sorry.
-/
import Derived.Test.YtfheoidnahhnlaaDoorRows
import GoSem.ClaimSeven
namespace Go.Proofs.YtfheoidnahhnlaaDoor
namespace Rows

/-- THE TIED CARD OF 'gabionlaw11.BatchOnce'. -/
def batchOnceCard : Claim7 := { stood := { row := batchOnceRow, standIns := [], harness := (true, "9e6b74302fb7458dac6a86cda74a2ac3389081b6d4966aecb75e2badb6543050"), looks := true }, kinds := [], alts := [], laidByText := true, laidKinds := [.data, .pinned], laidTests := true, laidLooks := .later }
def BatchOnceCardSaid : Prop := Claim7.holds Tryd.pinned (.plain (OpenSpec.ofChange batchOnceSpec)) batchOnceCard

/-- THE TIED CARD OF 'gabionlaw11.BatchNumbers'. -/
def batchNumbersCard : Claim7 := { stood := { row := batchNumbersRow, standIns := [], harness := (true, "9e6b74302fb7458dac6a86cda74a2ac3389081b6d4966aecb75e2badb6543050"), looks := true }, kinds := [], alts := [], laidByText := true, laidKinds := [.data, .pinned], laidTests := true, laidLooks := .later }
def BatchNumbersCardSaid : Prop := Claim7.holds Tryd.pinned (.plain (OpenSpec.ofChange batchNumbersSpec)) batchNumbersCard

/-- THE TIED CARD OF 'gabionlaw11.BatchBack'. -/
def batchBackCard : Claim7 := { stood := { row := batchBackRow, standIns := [], harness := (true, "9e6b74302fb7458dac6a86cda74a2ac3389081b6d4966aecb75e2badb6543050"), looks := true }, kinds := [], alts := [], laidByText := true, laidKinds := [.data, .pinned], laidTests := true, laidLooks := .later }
def BatchBackCardSaid : Prop := Claim7.holds Tryd.pinned (.plain (OpenSpec.ofChange batchBackSpec)) batchBackCard

/-- THE SECOND FORM's CARD OF 'gabionlaw11.BatchOnce'. -/
def batchOnceUptoCard : Claim7 := { stood := { row := batchOnceUptoRow, standIns := [], harness := (true, "9e6b74302fb7458dac6a86cda74a2ac3389081b6d4966aecb75e2badb6543050"), looks := true }, kinds := [], alts := [], laidByText := true, laidKinds := [.data, .pinned], laidTests := true, laidLooks := .later }
def BatchOnceUptoCardSaid : Prop := Claim7.holds Tryd.pinned (.plain (OpenSpec.upto batchOnceSpec)) batchOnceUptoCard

/-- THE SECOND FORM's CARD OF 'gabionlaw11.BatchNumbers'. -/
def batchNumbersUptoCard : Claim7 := { stood := { row := batchNumbersUptoRow, standIns := [], harness := (true, "9e6b74302fb7458dac6a86cda74a2ac3389081b6d4966aecb75e2badb6543050"), looks := true }, kinds := [], alts := [], laidByText := true, laidKinds := [.data, .pinned], laidTests := true, laidLooks := .later }
def BatchNumbersUptoCardSaid : Prop := Claim7.holds Tryd.pinned (.plain (OpenSpec.upto batchNumbersSpec)) batchNumbersUptoCard

/-- THE SECOND FORM's CARD OF 'gabionlaw11.BatchBack'. -/
def batchBackUptoCard : Claim7 := { stood := { row := batchBackUptoRow, standIns := [], harness := (true, "9e6b74302fb7458dac6a86cda74a2ac3389081b6d4966aecb75e2badb6543050"), looks := true }, kinds := [], alts := [], laidByText := true, laidKinds := [.data, .pinned], laidTests := true, laidLooks := .later }
def BatchBackUptoCardSaid : Prop := Claim7.holds Tryd.pinned (.plain (OpenSpec.upto batchBackSpec)) batchBackUptoCard
end Rows
end Go.Proofs.YtfheoidnahhnlaaDoor
