/-
  DERIVED. GIVEN WITH THE SEED: THE CARDS: each row of YtknpaooloambdaaDoorRows.lean that lists a variable, with what it lists TIED to the program's text (the seventh form; the later family's looks); each row that meets fmt, with fmt's text TOLD by the authors' own Lean function (tested against real Go, not proved from fmt's source: count such statements apart). THE CARD IS WHAT COUNTS. Prove the row's statement (the work); the ties are given (YtknpaooloambdaaDoorTie.lean); close each card by the builder's one call (the guide's Derived/Test/ToyasCard.lean, 'card_holds'). Laid BY PROGRAM, IN A SANDBOX (cutbox-door.mjs). By AI agents, Wed Nov 11 2026. No macro, syntax, notation, axiom, sorry.
-/
import Derived.Test.YtknpaooloambdaaDoorRows
import GoSem.ClaimSeven
namespace Go.Proofs.YtknpaooloambdaaDoor
namespace Rows

/-- THE TIED CARD OF 'gabionlaw09.ResolveNumbers'. -/
def resolveNumbersCard : Claim7 := { stood := { row := resolveNumbersRow, standIns := [], harness := (true, "9c641b8f631be6ff5c3379dac417b284ae9f4447fca65f2e31d4631a7651d562"), looks := false }, kinds := [], alts := [], laidByText := true, laidKinds := [.data, .pinned], laidTests := true, laidLooks := .later }
def ResolveNumbersCardSaid : Prop := Claim7.holds Tryd.pinned (.plain (OpenSpec.ofChange resolveNumbersSpec)) resolveNumbersCard

/-- THE TIED CARD OF 'gabionlaw09.ResolveChecks'. -/
def resolveChecksCard : Claim7 := { stood := { row := resolveChecksRow, standIns := [], harness := (true, "9c641b8f631be6ff5c3379dac417b284ae9f4447fca65f2e31d4631a7651d562"), looks := false }, kinds := [], alts := [], laidByText := true, laidKinds := [.data, .pinned], laidTests := true, laidLooks := .later }
def ResolveChecksCardSaid : Prop := Claim7.holds Tryd.pinned (.plain (OpenSpec.ofChange resolveChecksSpec)) resolveChecksCard

/-- THE TIED CARD OF 'gabionlaw09.ResolveProjects'. -/
def resolveProjectsCard : Claim7 := { stood := { row := resolveProjectsRow, standIns := [], harness := (true, "9c641b8f631be6ff5c3379dac417b284ae9f4447fca65f2e31d4631a7651d562"), looks := false }, kinds := [], alts := [], laidByText := true, laidKinds := [.data, .pinned], laidTests := true, laidLooks := .later }
def ResolveProjectsCardSaid : Prop := Claim7.holds Tryd.pinned (.plain (OpenSpec.ofChange resolveProjectsSpec)) resolveProjectsCard

/-- THE TIED CARD OF 'gabionlaw09.ResolveSelf'. -/
def resolveSelfCard : Claim7 := { stood := { row := resolveSelfRow, standIns := [], harness := (true, "9c641b8f631be6ff5c3379dac417b284ae9f4447fca65f2e31d4631a7651d562"), looks := false }, kinds := [], alts := [], laidByText := true, laidKinds := [.data, .pinned], laidTests := true, laidLooks := .later }
def ResolveSelfCardSaid : Prop := Claim7.holds Tryd.pinned (.plain (OpenSpec.ofChange resolveSelfSpec)) resolveSelfCard

/-- THE TIED CARD OF 'gabionlaw09.ResolveTyped'. -/
def resolveTypedCard : Claim7 := { stood := { row := resolveTypedRow, standIns := [], harness := (true, "9c641b8f631be6ff5c3379dac417b284ae9f4447fca65f2e31d4631a7651d562"), looks := false }, kinds := [], alts := [], laidByText := true, laidKinds := [.data, .pinned], laidTests := true, laidLooks := .later }
def ResolveTypedCardSaid : Prop := Claim7.holds Tryd.pinned (.plain (OpenSpec.ofChange resolveTypedSpec)) resolveTypedCard

/-- THE TIED CARD OF 'gabionlaw09.ResolveBack'. -/
def resolveBackCard : Claim7 := { stood := { row := resolveBackRow, standIns := [], harness := (true, "9c641b8f631be6ff5c3379dac417b284ae9f4447fca65f2e31d4631a7651d562"), looks := false }, kinds := [], alts := [], laidByText := true, laidKinds := [.data, .pinned], laidTests := true, laidLooks := .later }
def ResolveBackCardSaid : Prop := Claim7.holds Tryd.pinned (.plain (OpenSpec.ofChange resolveBackSpec)) resolveBackCard

/-- THE TIED CARD OF 'gabionlaw09.ResolveValues'. -/
def resolveValuesCard : Claim7 := { stood := { row := resolveValuesRow, standIns := [], harness := (true, "9c641b8f631be6ff5c3379dac417b284ae9f4447fca65f2e31d4631a7651d562"), looks := false }, kinds := [], alts := [], laidByText := true, laidKinds := [.data, .pinned], laidTests := true, laidLooks := .later }
def ResolveValuesCardSaid : Prop := Claim7.holds Tryd.pinned (.plain (OpenSpec.ofChange resolveValuesSpec)) resolveValuesCard

/-- THE TIED CARD OF 'gabionlaw09.ResolveRows'. -/
def resolveRowsCard : Claim7 := { stood := { row := resolveRowsRow, standIns := [], harness := (true, "9c641b8f631be6ff5c3379dac417b284ae9f4447fca65f2e31d4631a7651d562"), looks := false }, kinds := [], alts := [], laidByText := true, laidKinds := [.data, .pinned], laidTests := true, laidLooks := .later }
def ResolveRowsCardSaid : Prop := Claim7.holds Tryd.pinned (.plain (OpenSpec.ofChange resolveRowsSpec)) resolveRowsCard

/-- THE SECOND FORM's CARD OF 'gabionlaw09.ResolveNumbers'. -/
def resolveNumbersUptoCard : Claim7 := { stood := { row := resolveNumbersUptoRow, standIns := [], harness := (true, "9c641b8f631be6ff5c3379dac417b284ae9f4447fca65f2e31d4631a7651d562"), looks := false }, kinds := [], alts := [], laidByText := true, laidKinds := [.data, .pinned], laidTests := true, laidLooks := .later }
def ResolveNumbersUptoCardSaid : Prop := Claim7.holds Tryd.pinned (.plain (OpenSpec.upto resolveNumbersSpec)) resolveNumbersUptoCard

/-- THE SECOND FORM's CARD OF 'gabionlaw09.ResolveChecks'. -/
def resolveChecksUptoCard : Claim7 := { stood := { row := resolveChecksUptoRow, standIns := [], harness := (true, "9c641b8f631be6ff5c3379dac417b284ae9f4447fca65f2e31d4631a7651d562"), looks := false }, kinds := [], alts := [], laidByText := true, laidKinds := [.data, .pinned], laidTests := true, laidLooks := .later }
def ResolveChecksUptoCardSaid : Prop := Claim7.holds Tryd.pinned (.plain (OpenSpec.upto resolveChecksSpec)) resolveChecksUptoCard

/-- THE SECOND FORM's CARD OF 'gabionlaw09.ResolveProjects'. -/
def resolveProjectsUptoCard : Claim7 := { stood := { row := resolveProjectsUptoRow, standIns := [], harness := (true, "9c641b8f631be6ff5c3379dac417b284ae9f4447fca65f2e31d4631a7651d562"), looks := false }, kinds := [], alts := [], laidByText := true, laidKinds := [.data, .pinned], laidTests := true, laidLooks := .later }
def ResolveProjectsUptoCardSaid : Prop := Claim7.holds Tryd.pinned (.plain (OpenSpec.upto resolveProjectsSpec)) resolveProjectsUptoCard

/-- THE SECOND FORM's CARD OF 'gabionlaw09.ResolveSelf'. -/
def resolveSelfUptoCard : Claim7 := { stood := { row := resolveSelfUptoRow, standIns := [], harness := (true, "9c641b8f631be6ff5c3379dac417b284ae9f4447fca65f2e31d4631a7651d562"), looks := false }, kinds := [], alts := [], laidByText := true, laidKinds := [.data, .pinned], laidTests := true, laidLooks := .later }
def ResolveSelfUptoCardSaid : Prop := Claim7.holds Tryd.pinned (.plain (OpenSpec.upto resolveSelfSpec)) resolveSelfUptoCard

/-- THE SECOND FORM's CARD OF 'gabionlaw09.ResolveTyped'. -/
def resolveTypedUptoCard : Claim7 := { stood := { row := resolveTypedUptoRow, standIns := [], harness := (true, "9c641b8f631be6ff5c3379dac417b284ae9f4447fca65f2e31d4631a7651d562"), looks := false }, kinds := [], alts := [], laidByText := true, laidKinds := [.data, .pinned], laidTests := true, laidLooks := .later }
def ResolveTypedUptoCardSaid : Prop := Claim7.holds Tryd.pinned (.plain (OpenSpec.upto resolveTypedSpec)) resolveTypedUptoCard

/-- THE SECOND FORM's CARD OF 'gabionlaw09.ResolveBack'. -/
def resolveBackUptoCard : Claim7 := { stood := { row := resolveBackUptoRow, standIns := [], harness := (true, "9c641b8f631be6ff5c3379dac417b284ae9f4447fca65f2e31d4631a7651d562"), looks := false }, kinds := [], alts := [], laidByText := true, laidKinds := [.data, .pinned], laidTests := true, laidLooks := .later }
def ResolveBackUptoCardSaid : Prop := Claim7.holds Tryd.pinned (.plain (OpenSpec.upto resolveBackSpec)) resolveBackUptoCard

/-- THE SECOND FORM's CARD OF 'gabionlaw09.ResolveValues'. -/
def resolveValuesUptoCard : Claim7 := { stood := { row := resolveValuesUptoRow, standIns := [], harness := (true, "9c641b8f631be6ff5c3379dac417b284ae9f4447fca65f2e31d4631a7651d562"), looks := false }, kinds := [], alts := [], laidByText := true, laidKinds := [.data, .pinned], laidTests := true, laidLooks := .later }
def ResolveValuesUptoCardSaid : Prop := Claim7.holds Tryd.pinned (.plain (OpenSpec.upto resolveValuesSpec)) resolveValuesUptoCard

/-- THE SECOND FORM's CARD OF 'gabionlaw09.ResolveRows'. -/
def resolveRowsUptoCard : Claim7 := { stood := { row := resolveRowsUptoRow, standIns := [], harness := (true, "9c641b8f631be6ff5c3379dac417b284ae9f4447fca65f2e31d4631a7651d562"), looks := false }, kinds := [], alts := [], laidByText := true, laidKinds := [.data, .pinned], laidTests := true, laidLooks := .later }
def ResolveRowsUptoCardSaid : Prop := Claim7.holds Tryd.pinned (.plain (OpenSpec.upto resolveRowsSpec)) resolveRowsUptoCard
end Rows
end Go.Proofs.YtknpaooloambdaaDoor
