/-
  DERIVED. GIVEN WITH THE SEED: THE CARDS: each row of YtjodibncpbjegaaDoorRows.lean that lists a variable, with what it lists TIED to the program's text (the seventh form; the later family's looks); each row that meets fmt, with fmt's text TOLD by the authors' own Lean function (tested against real Go, not proved from fmt's source: count such statements apart). THE CARD IS WHAT COUNTS. Prove the row's statement (the work); the ties are given (YtjodibncpbjegaaDoorTie.lean); close each card by the builder's one call (the guide's Derived/Test/ToyasCard.lean, 'card_holds'). Laid BY PROGRAM, IN A SANDBOX (cutbox-door.mjs). By AI agents, Wed Nov 11 2026. No macro, syntax, notation, axiom, sorry.
-/
import Derived.Test.YtjodibncpbjegaaDoorRows
import GoSem.ClaimSeven
namespace Go.Proofs.YtjodibncpbjegaaDoor
namespace Rows

/-- THE TIED CARD OF 'gabionlaw01.RealNumbers'. -/
def realNumbersCard : Claim7 := { stood := { row := realNumbersRow, standIns := [], harness := (true, "d600ce4d96637421267db7c31e6c5586db440522862ee7996c25a14018150cda"), looks := true }, kinds := [], alts := [], laidByText := true, laidKinds := [.data, .data, .data], laidTests := true, laidLooks := .later }
def RealNumbersCardSaid : Prop := Claim7.holds Tryd.pinned (.plain (OpenSpec.ofChange realNumbersSpec)) realNumbersCard

/-- THE TIED CARD OF 'gabionlaw01.RealWholes'. -/
def realWholesCard : Claim7 := { stood := { row := realWholesRow, standIns := [], harness := (true, "d600ce4d96637421267db7c31e6c5586db440522862ee7996c25a14018150cda"), looks := true }, kinds := [], alts := [], laidByText := true, laidKinds := [.data, .data, .data, .sentinel, .sentinel], laidTests := true, laidLooks := .later }
def RealWholesCardSaid : Prop := Claim7.holds Tryd.pinned (.plain (OpenSpec.ofChange realWholesSpec)) realWholesCard

/-- THE TIED CARD OF 'gabionlaw01.RealFixes'. -/
def realFixesCard : Claim7 := { stood := { row := realFixesRow, standIns := [], harness := (true, "d600ce4d96637421267db7c31e6c5586db440522862ee7996c25a14018150cda"), looks := true }, kinds := [], alts := [], laidByText := true, laidKinds := [.data, .data, .data, .sentinel, .sentinel], laidTests := true, laidLooks := .later }
def RealFixesCardSaid : Prop := Claim7.holds Tryd.pinned (.plain (OpenSpec.ofChange realFixesSpec)) realFixesCard

/-- THE TIED CARD OF 'gabionlaw01.RealExact'. -/
def realExactCard : Claim7 := { stood := { row := realExactRow, standIns := [], harness := (true, "d600ce4d96637421267db7c31e6c5586db440522862ee7996c25a14018150cda"), looks := true }, kinds := [], alts := [], laidByText := true, laidKinds := [.data, .data, .data, .sentinel, .sentinel], laidTests := true, laidLooks := .later }
def RealExactCardSaid : Prop := Claim7.holds Tryd.pinned (.plain (OpenSpec.ofChange realExactSpec)) realExactCard

/-- THE TIED CARD OF 'gabionlaw01.RealPrints'. -/
def realPrintsCard : Claim7 := { stood := { row := realPrintsRow, standIns := [], harness := (true, "d600ce4d96637421267db7c31e6c5586db440522862ee7996c25a14018150cda"), looks := true }, kinds := [], alts := [], laidByText := true, laidKinds := [.data, .data, .data, .sentinel, .sentinel], laidTests := true, laidLooks := .later }
def RealPrintsCardSaid : Prop := Claim7.holds Tryd.pinned (.plain (OpenSpec.ofChange realPrintsSpec)) realPrintsCard

/-- THE TIED CARD OF 'gabionlaw01.RealParses'. -/
def realParsesCard : Claim7 := { stood := { row := realParsesRow, standIns := [], harness := (true, "d600ce4d96637421267db7c31e6c5586db440522862ee7996c25a14018150cda"), looks := true }, kinds := [], alts := [], laidByText := true, laidKinds := [.data, .data, .data, .sentinel, .sentinel], laidTests := true, laidLooks := .later }
def RealParsesCardSaid : Prop := Claim7.holds Tryd.pinned (.plain (OpenSpec.ofChange realParsesSpec)) realParsesCard

/-- THE TIED CARD OF 'gabionlaw01.RealTexts'. -/
def realTextsCard : Claim7 := { stood := { row := realTextsRow, standIns := [], harness := (true, "d600ce4d96637421267db7c31e6c5586db440522862ee7996c25a14018150cda"), looks := true }, kinds := [], alts := [], laidByText := true, laidKinds := [.data, .data, .data, .sentinel, .sentinel], laidTests := true, laidLooks := .later }
def RealTextsCardSaid : Prop := Claim7.holds Tryd.pinned (.plain (OpenSpec.ofChange realTextsSpec)) realTextsCard

/-- THE SECOND FORM's CARD OF 'gabionlaw01.RealNumbers'. -/
def realNumbersUptoCard : Claim7 := { stood := { row := realNumbersUptoRow, standIns := [], harness := (true, "d600ce4d96637421267db7c31e6c5586db440522862ee7996c25a14018150cda"), looks := true }, kinds := [], alts := [], laidByText := true, laidKinds := [.data, .data, .data], laidTests := true, laidLooks := .later }
def RealNumbersUptoCardSaid : Prop := Claim7.holds Tryd.pinned (.plain (OpenSpec.upto realNumbersSpec)) realNumbersUptoCard

/-- THE SECOND FORM's CARD OF 'gabionlaw01.RealWholes'. -/
def realWholesUptoCard : Claim7 := { stood := { row := realWholesUptoRow, standIns := [], harness := (true, "d600ce4d96637421267db7c31e6c5586db440522862ee7996c25a14018150cda"), looks := true }, kinds := [], alts := [], laidByText := true, laidKinds := [.data, .data, .data, .sentinel, .sentinel], laidTests := true, laidLooks := .later }
def RealWholesUptoCardSaid : Prop := Claim7.holds Tryd.pinned (.plain (OpenSpec.upto realWholesSpec)) realWholesUptoCard

/-- THE SECOND FORM's CARD OF 'gabionlaw01.RealFixes'. -/
def realFixesUptoCard : Claim7 := { stood := { row := realFixesUptoRow, standIns := [], harness := (true, "d600ce4d96637421267db7c31e6c5586db440522862ee7996c25a14018150cda"), looks := true }, kinds := [], alts := [], laidByText := true, laidKinds := [.data, .data, .data, .sentinel, .sentinel], laidTests := true, laidLooks := .later }
def RealFixesUptoCardSaid : Prop := Claim7.holds Tryd.pinned (.plain (OpenSpec.upto realFixesSpec)) realFixesUptoCard

/-- THE SECOND FORM's CARD OF 'gabionlaw01.RealExact'. -/
def realExactUptoCard : Claim7 := { stood := { row := realExactUptoRow, standIns := [], harness := (true, "d600ce4d96637421267db7c31e6c5586db440522862ee7996c25a14018150cda"), looks := true }, kinds := [], alts := [], laidByText := true, laidKinds := [.data, .data, .data, .sentinel, .sentinel], laidTests := true, laidLooks := .later }
def RealExactUptoCardSaid : Prop := Claim7.holds Tryd.pinned (.plain (OpenSpec.upto realExactSpec)) realExactUptoCard

/-- THE SECOND FORM's CARD OF 'gabionlaw01.RealPrints'. -/
def realPrintsUptoCard : Claim7 := { stood := { row := realPrintsUptoRow, standIns := [], harness := (true, "d600ce4d96637421267db7c31e6c5586db440522862ee7996c25a14018150cda"), looks := true }, kinds := [], alts := [], laidByText := true, laidKinds := [.data, .data, .data, .sentinel, .sentinel], laidTests := true, laidLooks := .later }
def RealPrintsUptoCardSaid : Prop := Claim7.holds Tryd.pinned (.plain (OpenSpec.upto realPrintsSpec)) realPrintsUptoCard

/-- THE SECOND FORM's CARD OF 'gabionlaw01.RealParses'. -/
def realParsesUptoCard : Claim7 := { stood := { row := realParsesUptoRow, standIns := [], harness := (true, "d600ce4d96637421267db7c31e6c5586db440522862ee7996c25a14018150cda"), looks := true }, kinds := [], alts := [], laidByText := true, laidKinds := [.data, .data, .data, .sentinel, .sentinel], laidTests := true, laidLooks := .later }
def RealParsesUptoCardSaid : Prop := Claim7.holds Tryd.pinned (.plain (OpenSpec.upto realParsesSpec)) realParsesUptoCard

/-- THE SECOND FORM's CARD OF 'gabionlaw01.RealTexts'. -/
def realTextsUptoCard : Claim7 := { stood := { row := realTextsUptoRow, standIns := [], harness := (true, "d600ce4d96637421267db7c31e6c5586db440522862ee7996c25a14018150cda"), looks := true }, kinds := [], alts := [], laidByText := true, laidKinds := [.data, .data, .data, .sentinel, .sentinel], laidTests := true, laidLooks := .later }
def RealTextsUptoCardSaid : Prop := Claim7.holds Tryd.pinned (.plain (OpenSpec.upto realTextsSpec)) realTextsUptoCard
end Rows
end Go.Proofs.YtjodibncpbjegaaDoor
