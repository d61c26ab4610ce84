/-
  DERIVED. GIVEN WITH THE SEED: THE CARDS: each row of YtbnfdglfakaohaaDoorRows.lean that lists a variable, with what it lists TIED to the program's text (the seventh form; the later family's looks); each row that meets fmt, with fmt's text TOLD by the authors' own Lean function (tested against real Go, not proved from fmt's source: count such statements apart). THE CARD IS WHAT COUNTS. Prove the row's statement (the work); the ties are given (YtbnfdglfakaohaaDoorTie.lean); close each card by the builder's one call (the guide's Derived/Test/ToyasCard.lean, 'card_holds'). Laid BY PROGRAM, IN A SANDBOX (cutbox-door.mjs). By AI agents, Wed Nov 11 2026. No macro, syntax, notation, axiom, sorry.
-/
import Derived.Test.YtbnfdglfakaohaaDoorRows
import GoSem.ClaimSeven
namespace Go.Proofs.YtbnfdglfakaohaaDoor
namespace Rows

/-- THE TIED CARD OF 'gabionlaw07.SchemaNumbers'. -/
def schemaNumbersCard : Claim7 := { stood := { row := schemaNumbersRow, standIns := [], harness := (true, "11e2f58577b4759ba34af907e415851af815196309dbae685bfec82347259208"), looks := true }, kinds := [], alts := [], laidByText := true, laidKinds := [.data, .pinned], laidTests := true, laidLooks := .later }
def SchemaNumbersCardSaid : Prop := Claim7.holds Tryd.pinned (.plain (OpenSpec.ofChange schemaNumbersSpec)) schemaNumbersCard

/-- THE TIED CARD OF 'gabionlaw07.SchemaChecks'. -/
def schemaChecksCard : Claim7 := { stood := { row := schemaChecksRow, standIns := [], harness := (true, "11e2f58577b4759ba34af907e415851af815196309dbae685bfec82347259208"), looks := true }, kinds := [], alts := [], laidByText := true, laidKinds := [.data, .pinned], laidTests := true, laidLooks := .later }
def SchemaChecksCardSaid : Prop := Claim7.holds Tryd.pinned (.plain (OpenSpec.ofChange schemaChecksSpec)) schemaChecksCard

/-- THE TIED CARD OF 'gabionlaw07.SchemaTypes'. -/
def schemaTypesCard : Claim7 := { stood := { row := schemaTypesRow, standIns := [], harness := (true, "11e2f58577b4759ba34af907e415851af815196309dbae685bfec82347259208"), looks := true }, kinds := [], alts := [], laidByText := true, laidKinds := [.data, .pinned], laidTests := true, laidLooks := .later }
def SchemaTypesCardSaid : Prop := Claim7.holds Tryd.pinned (.plain (OpenSpec.ofChange schemaTypesSpec)) schemaTypesCard

/-- THE TIED CARD OF 'gabionlaw07.SchemaNames'. -/
def schemaNamesCard : Claim7 := { stood := { row := schemaNamesRow, standIns := [], harness := (true, "11e2f58577b4759ba34af907e415851af815196309dbae685bfec82347259208"), looks := true }, kinds := [], alts := [], laidByText := true, laidKinds := [.data, .pinned], laidTests := true, laidLooks := .later }
def SchemaNamesCardSaid : Prop := Claim7.holds Tryd.pinned (.plain (OpenSpec.ofChange schemaNamesSpec)) schemaNamesCard

/-- THE TIED CARD OF 'gabionlaw07.SchemaSames'. -/
def schemaSamesCard : Claim7 := { stood := { row := schemaSamesRow, standIns := [], harness := (true, "11e2f58577b4759ba34af907e415851af815196309dbae685bfec82347259208"), looks := true }, kinds := [], alts := [], laidByText := true, laidKinds := [.data, .pinned], laidTests := true, laidLooks := .later }
def SchemaSamesCardSaid : Prop := Claim7.holds Tryd.pinned (.plain (OpenSpec.ofChange schemaSamesSpec)) schemaSamesCard

/-- THE TIED CARD OF 'gabionlaw07.SchemaEncodes'. -/
def schemaEncodesCard : Claim7 := { stood := { row := schemaEncodesRow, standIns := [], harness := (true, "11e2f58577b4759ba34af907e415851af815196309dbae685bfec82347259208"), looks := true }, kinds := [], alts := [], laidByText := true, laidKinds := [.data, .pinned], laidTests := true, laidLooks := .later }
def SchemaEncodesCardSaid : Prop := Claim7.holds Tryd.pinned (.plain (OpenSpec.ofChange schemaEncodesSpec)) schemaEncodesCard

/-- THE TIED CARD OF 'gabionlaw07.SchemaDecodes'. -/
def schemaDecodesCard : Claim7 := { stood := { row := schemaDecodesRow, standIns := [], harness := (true, "11e2f58577b4759ba34af907e415851af815196309dbae685bfec82347259208"), looks := true }, kinds := [], alts := [], laidByText := true, laidKinds := [.data, .pinned], laidTests := true, laidLooks := .later }
def SchemaDecodesCardSaid : Prop := Claim7.holds Tryd.pinned (.plain (OpenSpec.ofChange schemaDecodesSpec)) schemaDecodesCard

/-- THE TIED CARD OF 'gabionlaw07.SchemaBack'. -/
def schemaBackCard : Claim7 := { stood := { row := schemaBackRow, standIns := [], harness := (true, "11e2f58577b4759ba34af907e415851af815196309dbae685bfec82347259208"), looks := true }, kinds := [], alts := [], laidByText := true, laidKinds := [.data, .pinned], laidTests := true, laidLooks := .later }
def SchemaBackCardSaid : Prop := Claim7.holds Tryd.pinned (.plain (OpenSpec.ofChange schemaBackSpec)) schemaBackCard

/-- THE TIED CARD OF 'gabionlaw07.SchemaUnlike'. -/
def schemaUnlikeCard : Claim7 := { stood := { row := schemaUnlikeRow, standIns := [], harness := (true, "11e2f58577b4759ba34af907e415851af815196309dbae685bfec82347259208"), looks := true }, kinds := [], alts := [], laidByText := true, laidKinds := [.data, .pinned], laidTests := true, laidLooks := .later }
def SchemaUnlikeCardSaid : Prop := Claim7.holds Tryd.pinned (.plain (OpenSpec.ofChange schemaUnlikeSpec)) schemaUnlikeCard

/-- THE TIED CARD OF 'gabionlaw07.SchemaIs'. -/
def schemaIsCard : Claim7 := { stood := { row := schemaIsRow, standIns := [], harness := (true, "11e2f58577b4759ba34af907e415851af815196309dbae685bfec82347259208"), looks := true }, kinds := [], alts := [], laidByText := true, laidKinds := [.data, .pinned], laidTests := true, laidLooks := .later }
def SchemaIsCardSaid : Prop := Claim7.holds Tryd.pinned (.plain (OpenSpec.ofChange schemaIsSpec)) schemaIsCard

/-- THE SECOND FORM's CARD OF 'gabionlaw07.SchemaNumbers'. -/
def schemaNumbersUptoCard : Claim7 := { stood := { row := schemaNumbersUptoRow, standIns := [], harness := (true, "11e2f58577b4759ba34af907e415851af815196309dbae685bfec82347259208"), looks := true }, kinds := [], alts := [], laidByText := true, laidKinds := [.data, .pinned], laidTests := true, laidLooks := .later }
def SchemaNumbersUptoCardSaid : Prop := Claim7.holds Tryd.pinned (.plain (OpenSpec.upto schemaNumbersSpec)) schemaNumbersUptoCard

/-- THE SECOND FORM's CARD OF 'gabionlaw07.SchemaChecks'. -/
def schemaChecksUptoCard : Claim7 := { stood := { row := schemaChecksUptoRow, standIns := [], harness := (true, "11e2f58577b4759ba34af907e415851af815196309dbae685bfec82347259208"), looks := true }, kinds := [], alts := [], laidByText := true, laidKinds := [.data, .pinned], laidTests := true, laidLooks := .later }
def SchemaChecksUptoCardSaid : Prop := Claim7.holds Tryd.pinned (.plain (OpenSpec.upto schemaChecksSpec)) schemaChecksUptoCard

/-- THE SECOND FORM's CARD OF 'gabionlaw07.SchemaTypes'. -/
def schemaTypesUptoCard : Claim7 := { stood := { row := schemaTypesUptoRow, standIns := [], harness := (true, "11e2f58577b4759ba34af907e415851af815196309dbae685bfec82347259208"), looks := true }, kinds := [], alts := [], laidByText := true, laidKinds := [.data, .pinned], laidTests := true, laidLooks := .later }
def SchemaTypesUptoCardSaid : Prop := Claim7.holds Tryd.pinned (.plain (OpenSpec.upto schemaTypesSpec)) schemaTypesUptoCard

/-- THE SECOND FORM's CARD OF 'gabionlaw07.SchemaNames'. -/
def schemaNamesUptoCard : Claim7 := { stood := { row := schemaNamesUptoRow, standIns := [], harness := (true, "11e2f58577b4759ba34af907e415851af815196309dbae685bfec82347259208"), looks := true }, kinds := [], alts := [], laidByText := true, laidKinds := [.data, .pinned], laidTests := true, laidLooks := .later }
def SchemaNamesUptoCardSaid : Prop := Claim7.holds Tryd.pinned (.plain (OpenSpec.upto schemaNamesSpec)) schemaNamesUptoCard

/-- THE SECOND FORM's CARD OF 'gabionlaw07.SchemaSames'. -/
def schemaSamesUptoCard : Claim7 := { stood := { row := schemaSamesUptoRow, standIns := [], harness := (true, "11e2f58577b4759ba34af907e415851af815196309dbae685bfec82347259208"), looks := true }, kinds := [], alts := [], laidByText := true, laidKinds := [.data, .pinned], laidTests := true, laidLooks := .later }
def SchemaSamesUptoCardSaid : Prop := Claim7.holds Tryd.pinned (.plain (OpenSpec.upto schemaSamesSpec)) schemaSamesUptoCard

/-- THE SECOND FORM's CARD OF 'gabionlaw07.SchemaEncodes'. -/
def schemaEncodesUptoCard : Claim7 := { stood := { row := schemaEncodesUptoRow, standIns := [], harness := (true, "11e2f58577b4759ba34af907e415851af815196309dbae685bfec82347259208"), looks := true }, kinds := [], alts := [], laidByText := true, laidKinds := [.data, .pinned], laidTests := true, laidLooks := .later }
def SchemaEncodesUptoCardSaid : Prop := Claim7.holds Tryd.pinned (.plain (OpenSpec.upto schemaEncodesSpec)) schemaEncodesUptoCard

/-- THE SECOND FORM's CARD OF 'gabionlaw07.SchemaDecodes'. -/
def schemaDecodesUptoCard : Claim7 := { stood := { row := schemaDecodesUptoRow, standIns := [], harness := (true, "11e2f58577b4759ba34af907e415851af815196309dbae685bfec82347259208"), looks := true }, kinds := [], alts := [], laidByText := true, laidKinds := [.data, .pinned], laidTests := true, laidLooks := .later }
def SchemaDecodesUptoCardSaid : Prop := Claim7.holds Tryd.pinned (.plain (OpenSpec.upto schemaDecodesSpec)) schemaDecodesUptoCard

/-- THE SECOND FORM's CARD OF 'gabionlaw07.SchemaBack'. -/
def schemaBackUptoCard : Claim7 := { stood := { row := schemaBackUptoRow, standIns := [], harness := (true, "11e2f58577b4759ba34af907e415851af815196309dbae685bfec82347259208"), looks := true }, kinds := [], alts := [], laidByText := true, laidKinds := [.data, .pinned], laidTests := true, laidLooks := .later }
def SchemaBackUptoCardSaid : Prop := Claim7.holds Tryd.pinned (.plain (OpenSpec.upto schemaBackSpec)) schemaBackUptoCard

/-- THE SECOND FORM's CARD OF 'gabionlaw07.SchemaUnlike'. -/
def schemaUnlikeUptoCard : Claim7 := { stood := { row := schemaUnlikeUptoRow, standIns := [], harness := (true, "11e2f58577b4759ba34af907e415851af815196309dbae685bfec82347259208"), looks := true }, kinds := [], alts := [], laidByText := true, laidKinds := [.data, .pinned], laidTests := true, laidLooks := .later }
def SchemaUnlikeUptoCardSaid : Prop := Claim7.holds Tryd.pinned (.plain (OpenSpec.upto schemaUnlikeSpec)) schemaUnlikeUptoCard

/-- THE SECOND FORM's CARD OF 'gabionlaw07.SchemaIs'. -/
def schemaIsUptoCard : Claim7 := { stood := { row := schemaIsUptoRow, standIns := [], harness := (true, "11e2f58577b4759ba34af907e415851af815196309dbae685bfec82347259208"), looks := true }, kinds := [], alts := [], laidByText := true, laidKinds := [.data, .pinned], laidTests := true, laidLooks := .later }
def SchemaIsUptoCardSaid : Prop := Claim7.holds Tryd.pinned (.plain (OpenSpec.upto schemaIsSpec)) schemaIsUptoCard
end Rows
end Go.Proofs.YtbnfdglfakaohaaDoor
