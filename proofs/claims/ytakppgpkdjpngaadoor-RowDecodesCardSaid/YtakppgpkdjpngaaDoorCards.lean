/-
  DERIVED. GIVEN WITH THE SEED: THE CARDS: each row of YtakppgpkdjpngaaDoorRows.lean that lists a variable, with what it lists TIED to the program's text (the seventh form; the later family's looks); each row that meets fmt, with fmt's text TOLD by the authors' own Lean function (tested against real Go, not proved from fmt's source: count such statements apart). THE CARD IS WHAT COUNTS. Prove the row's statement (the work); the ties are given (YtakppgpkdjpngaaDoorTie.lean); close each card by the builder's one call (the guide's Derived/Test/ToyasCard.lean, 'card_holds'). Laid BY PROGRAM, IN A SANDBOX (cutbox-door.mjs). By AI agents, Wed Nov 11 2026. No macro, syntax, notation, axiom, sorry.
-/
import Derived.Test.YtakppgpkdjpngaaDoorRows
import GoSem.ClaimSeven
namespace Go.Proofs.YtakppgpkdjpngaaDoor
namespace Rows

/-- THE TIED CARD OF 'gabionlaw08.RowNumbers'. -/
def rowNumbersCard : Claim7 := { stood := { row := rowNumbersRow, standIns := [], harness := (true, "f9b3099b1e72becbd4150d9a9912e92086921c8e81829b636660d6d4522f7e68"), looks := true }, kinds := [], alts := [], laidByText := true, laidKinds := [.data, .pinned], laidTests := true, laidLooks := .later }
def RowNumbersCardSaid : Prop := Claim7.holds Tryd.pinned (.plain (OpenSpec.ofChange rowNumbersSpec)) rowNumbersCard

/-- THE TIED CARD OF 'gabionlaw08.RowChecks'. -/
def rowChecksCard : Claim7 := { stood := { row := rowChecksRow, standIns := [], harness := (true, "f9b3099b1e72becbd4150d9a9912e92086921c8e81829b636660d6d4522f7e68"), looks := true }, kinds := [], alts := [], laidByText := true, laidKinds := [.data, .pinned], laidTests := true, laidLooks := .later }
def RowChecksCardSaid : Prop := Claim7.holds Tryd.pinned (.plain (OpenSpec.ofChange rowChecksSpec)) rowChecksCard

/-- THE TIED CARD OF 'gabionlaw08.RowEncodes'. -/
def rowEncodesCard : Claim7 := { stood := { row := rowEncodesRow, standIns := [], harness := (true, "f9b3099b1e72becbd4150d9a9912e92086921c8e81829b636660d6d4522f7e68"), looks := true }, kinds := [], alts := [], laidByText := true, laidKinds := [.data, .pinned], laidTests := true, laidLooks := .later }
def RowEncodesCardSaid : Prop := Claim7.holds Tryd.pinned (.plain (OpenSpec.ofChange rowEncodesSpec)) rowEncodesCard

/-- THE TIED CARD OF 'gabionlaw08.RowDecodes'. -/
def rowDecodesCard : Claim7 := { stood := { row := rowDecodesRow, standIns := [], harness := (true, "f9b3099b1e72becbd4150d9a9912e92086921c8e81829b636660d6d4522f7e68"), looks := true }, kinds := [], alts := [], laidByText := true, laidKinds := [.data, .pinned], laidTests := true, laidLooks := .later }
def RowDecodesCardSaid : Prop := Claim7.holds Tryd.pinned (.plain (OpenSpec.ofChange rowDecodesSpec)) rowDecodesCard

/-- THE TIED CARD OF 'gabionlaw08.RowValues'. -/
def rowValuesCard : Claim7 := { stood := { row := rowValuesRow, standIns := [], harness := (true, "f9b3099b1e72becbd4150d9a9912e92086921c8e81829b636660d6d4522f7e68"), looks := true }, kinds := [], alts := [], laidByText := true, laidKinds := [.data, .pinned], laidTests := true, laidLooks := .later }
def RowValuesCardSaid : Prop := Claim7.holds Tryd.pinned (.plain (OpenSpec.ofChange rowValuesSpec)) rowValuesCard

/-- THE TIED CARD OF 'gabionlaw08.RowBack'. -/
def rowBackCard : Claim7 := { stood := { row := rowBackRow, standIns := [], harness := (true, "f9b3099b1e72becbd4150d9a9912e92086921c8e81829b636660d6d4522f7e68"), looks := true }, kinds := [], alts := [], laidByText := true, laidKinds := [.data, .pinned], laidTests := true, laidLooks := .later }
def RowBackCardSaid : Prop := Claim7.holds Tryd.pinned (.plain (OpenSpec.ofChange rowBackSpec)) rowBackCard

/-- THE TIED CARD OF 'gabionlaw08.RowStream'. -/
def rowStreamCard : Claim7 := { stood := { row := rowStreamRow, standIns := [], harness := (true, "f9b3099b1e72becbd4150d9a9912e92086921c8e81829b636660d6d4522f7e68"), looks := true }, kinds := [], alts := [], laidByText := true, laidKinds := [.data, .pinned], laidTests := true, laidLooks := .later }
def RowStreamCardSaid : Prop := Claim7.holds Tryd.pinned (.plain (OpenSpec.ofChange rowStreamSpec)) rowStreamCard

/-- THE TIED CARD OF 'gabionlaw08.RowBegins'. -/
def rowBeginsCard : Claim7 := { stood := { row := rowBeginsRow, standIns := [], harness := (true, "f9b3099b1e72becbd4150d9a9912e92086921c8e81829b636660d6d4522f7e68"), looks := true }, kinds := [], alts := [], laidByText := true, laidKinds := [.data, .pinned], laidTests := true, laidLooks := .later }
def RowBeginsCardSaid : Prop := Claim7.holds Tryd.pinned (.plain (OpenSpec.ofChange rowBeginsSpec)) rowBeginsCard

/-- THE TIED CARD OF 'gabionlaw08.RowReads'. -/
def rowReadsCard : Claim7 := { stood := { row := rowReadsRow, standIns := [], harness := (true, "f9b3099b1e72becbd4150d9a9912e92086921c8e81829b636660d6d4522f7e68"), looks := true }, kinds := [], alts := [], laidByText := true, laidKinds := [.data, .pinned], laidTests := true, laidLooks := .later }
def RowReadsCardSaid : Prop := Claim7.holds Tryd.pinned (.plain (OpenSpec.ofChange rowReadsSpec)) rowReadsCard

/-- THE SECOND FORM's CARD OF 'gabionlaw08.RowNumbers'. -/
def rowNumbersUptoCard : Claim7 := { stood := { row := rowNumbersUptoRow, standIns := [], harness := (true, "f9b3099b1e72becbd4150d9a9912e92086921c8e81829b636660d6d4522f7e68"), looks := true }, kinds := [], alts := [], laidByText := true, laidKinds := [.data, .pinned], laidTests := true, laidLooks := .later }
def RowNumbersUptoCardSaid : Prop := Claim7.holds Tryd.pinned (.plain (OpenSpec.upto rowNumbersSpec)) rowNumbersUptoCard

/-- THE SECOND FORM's CARD OF 'gabionlaw08.RowChecks'. -/
def rowChecksUptoCard : Claim7 := { stood := { row := rowChecksUptoRow, standIns := [], harness := (true, "f9b3099b1e72becbd4150d9a9912e92086921c8e81829b636660d6d4522f7e68"), looks := true }, kinds := [], alts := [], laidByText := true, laidKinds := [.data, .pinned], laidTests := true, laidLooks := .later }
def RowChecksUptoCardSaid : Prop := Claim7.holds Tryd.pinned (.plain (OpenSpec.upto rowChecksSpec)) rowChecksUptoCard

/-- THE SECOND FORM's CARD OF 'gabionlaw08.RowEncodes'. -/
def rowEncodesUptoCard : Claim7 := { stood := { row := rowEncodesUptoRow, standIns := [], harness := (true, "f9b3099b1e72becbd4150d9a9912e92086921c8e81829b636660d6d4522f7e68"), looks := true }, kinds := [], alts := [], laidByText := true, laidKinds := [.data, .pinned], laidTests := true, laidLooks := .later }
def RowEncodesUptoCardSaid : Prop := Claim7.holds Tryd.pinned (.plain (OpenSpec.upto rowEncodesSpec)) rowEncodesUptoCard

/-- THE SECOND FORM's CARD OF 'gabionlaw08.RowDecodes'. -/
def rowDecodesUptoCard : Claim7 := { stood := { row := rowDecodesUptoRow, standIns := [], harness := (true, "f9b3099b1e72becbd4150d9a9912e92086921c8e81829b636660d6d4522f7e68"), looks := true }, kinds := [], alts := [], laidByText := true, laidKinds := [.data, .pinned], laidTests := true, laidLooks := .later }
def RowDecodesUptoCardSaid : Prop := Claim7.holds Tryd.pinned (.plain (OpenSpec.upto rowDecodesSpec)) rowDecodesUptoCard

/-- THE SECOND FORM's CARD OF 'gabionlaw08.RowValues'. -/
def rowValuesUptoCard : Claim7 := { stood := { row := rowValuesUptoRow, standIns := [], harness := (true, "f9b3099b1e72becbd4150d9a9912e92086921c8e81829b636660d6d4522f7e68"), looks := true }, kinds := [], alts := [], laidByText := true, laidKinds := [.data, .pinned], laidTests := true, laidLooks := .later }
def RowValuesUptoCardSaid : Prop := Claim7.holds Tryd.pinned (.plain (OpenSpec.upto rowValuesSpec)) rowValuesUptoCard

/-- THE SECOND FORM's CARD OF 'gabionlaw08.RowBack'. -/
def rowBackUptoCard : Claim7 := { stood := { row := rowBackUptoRow, standIns := [], harness := (true, "f9b3099b1e72becbd4150d9a9912e92086921c8e81829b636660d6d4522f7e68"), looks := true }, kinds := [], alts := [], laidByText := true, laidKinds := [.data, .pinned], laidTests := true, laidLooks := .later }
def RowBackUptoCardSaid : Prop := Claim7.holds Tryd.pinned (.plain (OpenSpec.upto rowBackSpec)) rowBackUptoCard

/-- THE SECOND FORM's CARD OF 'gabionlaw08.RowStream'. -/
def rowStreamUptoCard : Claim7 := { stood := { row := rowStreamUptoRow, standIns := [], harness := (true, "f9b3099b1e72becbd4150d9a9912e92086921c8e81829b636660d6d4522f7e68"), looks := true }, kinds := [], alts := [], laidByText := true, laidKinds := [.data, .pinned], laidTests := true, laidLooks := .later }
def RowStreamUptoCardSaid : Prop := Claim7.holds Tryd.pinned (.plain (OpenSpec.upto rowStreamSpec)) rowStreamUptoCard

/-- THE SECOND FORM's CARD OF 'gabionlaw08.RowBegins'. -/
def rowBeginsUptoCard : Claim7 := { stood := { row := rowBeginsUptoRow, standIns := [], harness := (true, "f9b3099b1e72becbd4150d9a9912e92086921c8e81829b636660d6d4522f7e68"), looks := true }, kinds := [], alts := [], laidByText := true, laidKinds := [.data, .pinned], laidTests := true, laidLooks := .later }
def RowBeginsUptoCardSaid : Prop := Claim7.holds Tryd.pinned (.plain (OpenSpec.upto rowBeginsSpec)) rowBeginsUptoCard

/-- THE SECOND FORM's CARD OF 'gabionlaw08.RowReads'. -/
def rowReadsUptoCard : Claim7 := { stood := { row := rowReadsUptoRow, standIns := [], harness := (true, "f9b3099b1e72becbd4150d9a9912e92086921c8e81829b636660d6d4522f7e68"), looks := true }, kinds := [], alts := [], laidByText := true, laidKinds := [.data, .pinned], laidTests := true, laidLooks := .later }
def RowReadsUptoCardSaid : Prop := Claim7.holds Tryd.pinned (.plain (OpenSpec.upto rowReadsSpec)) rowReadsUptoCard
end Rows
end Go.Proofs.YtakppgpkdjpngaaDoor
