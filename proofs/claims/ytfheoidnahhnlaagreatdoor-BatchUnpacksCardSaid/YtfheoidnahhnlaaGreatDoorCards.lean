/-
  DERIVED. GIVEN WITH THE SEED: THE CARDS: each row of YtfheoidnahhnlaaGreatDoorRows.lean that lists a variable, with what it lists TIED to the program's text (the seventh form; the later family's looks); each row that meets fmt, with fmt's text TOLD by the authors' own Lean function (tested against real Go, not proved from fmt's source: count such statements apart). THE CARD IS WHAT COUNTS. Prove the row's statement (the work); the ties are given (YtfheoidnahhnlaaGreatDoorTie.lean); close each card by the builder's one call (the guide's Derived/Test/ToyasCard.lean, 'card_holds'). Laid BY PROGRAM, IN A SANDBOX (cutbox-door.mjs). By AI agents, Wed Nov 11 2026. No macro, syntax, notation, axiom, sorry.
-/
import Derived.Test.YtfheoidnahhnlaaGreatDoorRows
import GoSem.ClaimSeven
namespace Go.Proofs.YtfheoidnahhnlaaGreatDoor
namespace Rows

/-- THE TIED CARD OF 'gabionlaw11.BatchSizes'. -/
def batchSizesCard : Claim7 := { stood := { row := batchSizesRow, standIns := [], harness := (true, "6aefcf8b5cfac096b43ffed137de298803e72bd6a77ab867a299c1a8fe2dd088"), looks := true }, kinds := [], alts := [], laidByText := true, laidKinds := [.data, .pinned], laidTests := true, laidLooks := .later }
def BatchSizesCardSaid : Prop := Claim7.holds Tryz.pinned (.plain (OpenSpec.ofChange batchSizesSpec)) batchSizesCard

/-- THE TIED CARD OF 'gabionlaw11.BatchPacks'. -/
def batchPacksCard : Claim7 := { stood := { row := batchPacksRow, standIns := [], harness := (true, "6aefcf8b5cfac096b43ffed137de298803e72bd6a77ab867a299c1a8fe2dd088"), looks := true }, kinds := [], alts := [], laidByText := true, laidKinds := [.data, .pinned], laidTests := true, laidLooks := .later }
def BatchPacksCardSaid : Prop := Claim7.holds Tryz.pinned (.plain (OpenSpec.ofChange batchPacksSpec)) batchPacksCard

/-- THE TIED CARD OF 'gabionlaw11.BatchUnpacks'. -/
def batchUnpacksCard : Claim7 := { stood := { row := batchUnpacksRow, standIns := [], harness := (true, "6aefcf8b5cfac096b43ffed137de298803e72bd6a77ab867a299c1a8fe2dd088"), looks := true }, kinds := [], alts := [], laidByText := true, laidKinds := [.data, .pinned], laidTests := true, laidLooks := .later }
def BatchUnpacksCardSaid : Prop := Claim7.holds Tryz.pinned (.plain (OpenSpec.ofChange batchUnpacksSpec)) batchUnpacksCard

/-- THE SECOND FORM's CARD OF 'gabionlaw11.BatchSizes'. -/
def batchSizesUptoCard : Claim7 := { stood := { row := batchSizesUptoRow, standIns := [], harness := (true, "6aefcf8b5cfac096b43ffed137de298803e72bd6a77ab867a299c1a8fe2dd088"), looks := true }, kinds := [], alts := [], laidByText := true, laidKinds := [.data, .pinned], laidTests := true, laidLooks := .later }
def BatchSizesUptoCardSaid : Prop := Claim7.holds Tryz.pinned (.plain (OpenSpec.upto batchSizesSpec)) batchSizesUptoCard

/-- THE SECOND FORM's CARD OF 'gabionlaw11.BatchPacks'. -/
def batchPacksUptoCard : Claim7 := { stood := { row := batchPacksUptoRow, standIns := [], harness := (true, "6aefcf8b5cfac096b43ffed137de298803e72bd6a77ab867a299c1a8fe2dd088"), looks := true }, kinds := [], alts := [], laidByText := true, laidKinds := [.data, .pinned], laidTests := true, laidLooks := .later }
def BatchPacksUptoCardSaid : Prop := Claim7.holds Tryz.pinned (.plain (OpenSpec.upto batchPacksSpec)) batchPacksUptoCard

/-- THE SECOND FORM's CARD OF 'gabionlaw11.BatchUnpacks'. -/
def batchUnpacksUptoCard : Claim7 := { stood := { row := batchUnpacksUptoRow, standIns := [], harness := (true, "6aefcf8b5cfac096b43ffed137de298803e72bd6a77ab867a299c1a8fe2dd088"), looks := true }, kinds := [], alts := [], laidByText := true, laidKinds := [.data, .pinned], laidTests := true, laidLooks := .later }
def BatchUnpacksUptoCardSaid : Prop := Claim7.holds Tryz.pinned (.plain (OpenSpec.upto batchUnpacksSpec)) batchUnpacksUptoCard
end Rows
end Go.Proofs.YtfheoidnahhnlaaGreatDoor
