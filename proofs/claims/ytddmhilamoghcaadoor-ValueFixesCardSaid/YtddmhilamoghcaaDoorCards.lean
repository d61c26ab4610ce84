/-
  DERIVED. GIVEN WITH THE SEED: THE CARDS: each row of YtddmhilamoghcaaDoorRows.lean that lists a variable, with what it lists TIED to the program's text (the seventh form; the later family's looks); each row that meets fmt, with fmt's text TOLD by the authors' own Lean function (tested against real Go, not proved from fmt's source: count such statements apart). THE CARD IS WHAT COUNTS. Prove the row's statement (the work); the ties are given (YtddmhilamoghcaaDoorTie.lean); close each card by the builder's one call (the guide's Derived/Test/ToyasCard.lean, 'card_holds'). Laid BY PROGRAM, IN A SANDBOX (cutbox-door.mjs). By AI agents, Wed Nov 11 2026. No macro, syntax, notation, axiom, sorry.
-/
import Derived.Test.YtddmhilamoghcaaDoorRows
import GoSem.ClaimSeven
namespace Go.Proofs.YtddmhilamoghcaaDoor
namespace Rows

/-- THE TIED CARD OF 'gabionlaw06.ValueNumbers'. -/
def valueNumbersCard : Claim7 := { stood := { row := valueNumbersRow, standIns := [], harness := (true, "35d969914910027ccdd119d55af0a2a7177a308b7037e78e9973230bf377da4b"), looks := false }, kinds := [], alts := [], laidByText := true, laidKinds := [.data, .pinned], laidTests := true, laidLooks := .later }
def ValueNumbersCardSaid : Prop := Claim7.holds Tryd.pinned (.plain (OpenSpec.ofChange valueNumbersSpec)) valueNumbersCard

/-- THE TIED CARD OF 'gabionlaw06.ValueChecks'. -/
def valueChecksCard : Claim7 := { stood := { row := valueChecksRow, standIns := [], harness := (true, "35d969914910027ccdd119d55af0a2a7177a308b7037e78e9973230bf377da4b"), looks := false }, kinds := [], alts := [], laidByText := true, laidKinds := [.data, .pinned], laidTests := true, laidLooks := .later }
def ValueChecksCardSaid : Prop := Claim7.holds Tryd.pinned (.plain (OpenSpec.ofChange valueChecksSpec)) valueChecksCard

/-- THE TIED CARD OF 'gabionlaw06.ValueFixes'. -/
def valueFixesCard : Claim7 := { stood := { row := valueFixesRow, standIns := [], harness := (true, "35d969914910027ccdd119d55af0a2a7177a308b7037e78e9973230bf377da4b"), looks := false }, kinds := [], alts := [], laidByText := true, laidKinds := [.data, .pinned], laidTests := true, laidLooks := .later }
def ValueFixesCardSaid : Prop := Claim7.holds Tryd.pinned (.plain (OpenSpec.ofChange valueFixesSpec)) valueFixesCard

/-- THE TIED CARD OF 'gabionlaw06.ValueAlike'. -/
def valueAlikeCard : Claim7 := { stood := { row := valueAlikeRow, standIns := [], harness := (true, "35d969914910027ccdd119d55af0a2a7177a308b7037e78e9973230bf377da4b"), looks := false }, kinds := [], alts := [], laidByText := true, laidKinds := [.data, .pinned], laidTests := true, laidLooks := .later }
def ValueAlikeCardSaid : Prop := Claim7.holds Tryd.pinned (.plain (OpenSpec.ofChange valueAlikeSpec)) valueAlikeCard

/-- THE TIED CARD OF 'gabionlaw06.ValueUtfs'. -/
def valueUtfsCard : Claim7 := { stood := { row := valueUtfsRow, standIns := [], harness := (true, "35d969914910027ccdd119d55af0a2a7177a308b7037e78e9973230bf377da4b"), looks := false }, kinds := [], alts := [], laidByText := true, laidKinds := [.data, .pinned], laidTests := true, laidLooks := .later }
def ValueUtfsCardSaid : Prop := Claim7.holds Tryd.pinned (.plain (OpenSpec.ofChange valueUtfsSpec)) valueUtfsCard

/-- THE TIED CARD OF 'gabionlaw06.ValueJoins'. -/
def valueJoinsCard : Claim7 := { stood := { row := valueJoinsRow, standIns := [], harness := (true, "35d969914910027ccdd119d55af0a2a7177a308b7037e78e9973230bf377da4b"), looks := false }, kinds := [], alts := [], laidByText := true, laidKinds := [.data, .pinned], laidTests := true, laidLooks := .later }
def ValueJoinsCardSaid : Prop := Claim7.holds Tryd.pinned (.plain (OpenSpec.ofChange valueJoinsSpec)) valueJoinsCard

/-- THE TIED CARD OF 'gabionlaw06.ValueSames'. -/
def valueSamesCard : Claim7 := { stood := { row := valueSamesRow, standIns := [], harness := (true, "35d969914910027ccdd119d55af0a2a7177a308b7037e78e9973230bf377da4b"), looks := false }, kinds := [], alts := [], laidByText := true, laidKinds := [.data, .pinned], laidTests := true, laidLooks := .later }
def ValueSamesCardSaid : Prop := Claim7.holds Tryd.pinned (.plain (OpenSpec.ofChange valueSamesSpec)) valueSamesCard

/-- THE SECOND FORM's CARD OF 'gabionlaw06.ValueNumbers'. -/
def valueNumbersUptoCard : Claim7 := { stood := { row := valueNumbersUptoRow, standIns := [], harness := (true, "35d969914910027ccdd119d55af0a2a7177a308b7037e78e9973230bf377da4b"), looks := false }, kinds := [], alts := [], laidByText := true, laidKinds := [.data, .pinned], laidTests := true, laidLooks := .later }
def ValueNumbersUptoCardSaid : Prop := Claim7.holds Tryd.pinned (.plain (OpenSpec.upto valueNumbersSpec)) valueNumbersUptoCard

/-- THE SECOND FORM's CARD OF 'gabionlaw06.ValueChecks'. -/
def valueChecksUptoCard : Claim7 := { stood := { row := valueChecksUptoRow, standIns := [], harness := (true, "35d969914910027ccdd119d55af0a2a7177a308b7037e78e9973230bf377da4b"), looks := false }, kinds := [], alts := [], laidByText := true, laidKinds := [.data, .pinned], laidTests := true, laidLooks := .later }
def ValueChecksUptoCardSaid : Prop := Claim7.holds Tryd.pinned (.plain (OpenSpec.upto valueChecksSpec)) valueChecksUptoCard

/-- THE SECOND FORM's CARD OF 'gabionlaw06.ValueFixes'. -/
def valueFixesUptoCard : Claim7 := { stood := { row := valueFixesUptoRow, standIns := [], harness := (true, "35d969914910027ccdd119d55af0a2a7177a308b7037e78e9973230bf377da4b"), looks := false }, kinds := [], alts := [], laidByText := true, laidKinds := [.data, .pinned], laidTests := true, laidLooks := .later }
def ValueFixesUptoCardSaid : Prop := Claim7.holds Tryd.pinned (.plain (OpenSpec.upto valueFixesSpec)) valueFixesUptoCard

/-- THE SECOND FORM's CARD OF 'gabionlaw06.ValueAlike'. -/
def valueAlikeUptoCard : Claim7 := { stood := { row := valueAlikeUptoRow, standIns := [], harness := (true, "35d969914910027ccdd119d55af0a2a7177a308b7037e78e9973230bf377da4b"), looks := false }, kinds := [], alts := [], laidByText := true, laidKinds := [.data, .pinned], laidTests := true, laidLooks := .later }
def ValueAlikeUptoCardSaid : Prop := Claim7.holds Tryd.pinned (.plain (OpenSpec.upto valueAlikeSpec)) valueAlikeUptoCard

/-- THE SECOND FORM's CARD OF 'gabionlaw06.ValueUtfs'. -/
def valueUtfsUptoCard : Claim7 := { stood := { row := valueUtfsUptoRow, standIns := [], harness := (true, "35d969914910027ccdd119d55af0a2a7177a308b7037e78e9973230bf377da4b"), looks := false }, kinds := [], alts := [], laidByText := true, laidKinds := [.data, .pinned], laidTests := true, laidLooks := .later }
def ValueUtfsUptoCardSaid : Prop := Claim7.holds Tryd.pinned (.plain (OpenSpec.upto valueUtfsSpec)) valueUtfsUptoCard

/-- THE SECOND FORM's CARD OF 'gabionlaw06.ValueJoins'. -/
def valueJoinsUptoCard : Claim7 := { stood := { row := valueJoinsUptoRow, standIns := [], harness := (true, "35d969914910027ccdd119d55af0a2a7177a308b7037e78e9973230bf377da4b"), looks := false }, kinds := [], alts := [], laidByText := true, laidKinds := [.data, .pinned], laidTests := true, laidLooks := .later }
def ValueJoinsUptoCardSaid : Prop := Claim7.holds Tryd.pinned (.plain (OpenSpec.upto valueJoinsSpec)) valueJoinsUptoCard

/-- THE SECOND FORM's CARD OF 'gabionlaw06.ValueSames'. -/
def valueSamesUptoCard : Claim7 := { stood := { row := valueSamesUptoRow, standIns := [], harness := (true, "35d969914910027ccdd119d55af0a2a7177a308b7037e78e9973230bf377da4b"), looks := false }, kinds := [], alts := [], laidByText := true, laidKinds := [.data, .pinned], laidTests := true, laidLooks := .later }
def ValueSamesUptoCardSaid : Prop := Claim7.holds Tryd.pinned (.plain (OpenSpec.upto valueSamesSpec)) valueSamesUptoCard
end Rows
end Go.Proofs.YtddmhilamoghcaaDoor
