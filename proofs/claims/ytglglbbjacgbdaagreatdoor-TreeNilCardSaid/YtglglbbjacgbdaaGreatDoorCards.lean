/-
  DERIVED. GIVEN WITH THE SEED: THE CARDS: each row of YtglglbbjacgbdaaGreatDoorRows.lean that lists a variable, with what it lists TIED to the program's text (the seventh form; the later family's looks); each row that meets fmt, with fmt's text TOLD by the authors' own Lean function (tested against real Go, not proved from fmt's source: count such statements apart). THE CARD IS WHAT COUNTS. Prove the row's statement (the work); the ties are given (YtglglbbjacgbdaaGreatDoorTie.lean); close each card by the builder's one call (the guide's Derived/Test/ToyasCard.lean, 'card_holds'). Laid BY PROGRAM, IN A SANDBOX (cutbox-door.mjs). By AI agents, Wed Nov 11 2026. No macro, syntax, notation, axiom, sorry.
-/
import Derived.Test.YtglglbbjacgbdaaGreatDoorRows
import GoSem.ClaimSeven
namespace Go.Proofs.YtglglbbjacgbdaaGreatDoor
namespace Rows

/-- THE TIED CARD OF 'lockgatelaw16.TreePlays'. -/
def treePlaysCard : Claim7 := { stood := { row := treePlaysRow, standIns := [], harness := (true, "6b7303ee494e3bdaf7b4400ccaf00f23b516a149243221fde94ee3db885148a9"), looks := false }, kinds := [], alts := [], laidByText := true, laidKinds := [.data, .pinned], laidTests := true, laidLooks := .later }
def TreePlaysCardSaid : Prop := Claim7.holds Tryz.pinned (.plain (OpenSpec.ofChange treePlaysSpec)) treePlaysCard

/-- THE TIED CARD OF 'lockgatelaw16.TreeEmpties'. -/
def treeEmptiesCard : Claim7 := { stood := { row := treeEmptiesRow, standIns := [], harness := (true, "6b7303ee494e3bdaf7b4400ccaf00f23b516a149243221fde94ee3db885148a9"), looks := false }, kinds := [], alts := [], laidByText := true, laidKinds := [.data, .pinned], laidTests := true, laidLooks := .later }
def TreeEmptiesCardSaid : Prop := Claim7.holds Tryz.pinned (.plain (OpenSpec.ofChange treeEmptiesSpec)) treeEmptiesCard

/-- THE TIED CARD OF 'lockgatelaw16.TreeRenames'. -/
def treeRenamesCard : Claim7 := { stood := { row := treeRenamesRow, standIns := [], harness := (true, "6b7303ee494e3bdaf7b4400ccaf00f23b516a149243221fde94ee3db885148a9"), looks := false }, kinds := [], alts := [], laidByText := true, laidKinds := [.data, .pinned], laidTests := true, laidLooks := .later }
def TreeRenamesCardSaid : Prop := Claim7.holds Tryz.pinned (.plain (OpenSpec.ofChange treeRenamesSpec)) treeRenamesCard

/-- THE TIED CARD OF 'lockgatelaw16.TreeErrors'. -/
def treeErrorsCard : Claim7 := { stood := { row := treeErrorsRow, standIns := [], harness := (true, "6b7303ee494e3bdaf7b4400ccaf00f23b516a149243221fde94ee3db885148a9"), looks := false }, kinds := [], alts := [], laidByText := true, laidKinds := [.data, .pinned], laidTests := true, laidLooks := .later }
def TreeErrorsCardSaid : Prop := Claim7.holds Tryz.pinned (.plain (OpenSpec.ofChange treeErrorsSpec)) treeErrorsCard

/-- THE TIED CARD OF 'lockgatelaw16.TreeTells'. -/
def treeTellsCard : Claim7 := { stood := { row := treeTellsRow, standIns := [], harness := (true, "6b7303ee494e3bdaf7b4400ccaf00f23b516a149243221fde94ee3db885148a9"), looks := false }, kinds := [], alts := [], laidByText := true, laidKinds := [.data, .pinned], laidTests := true, laidLooks := .later }
def TreeTellsCardSaid : Prop := Claim7.holds Tryz.pinned (.plain (OpenSpec.ofChange treeTellsSpec)) treeTellsCard

/-- THE TIED CARD OF 'lockgatelaw16.TreeCopies'. -/
def treeCopiesCard : Claim7 := { stood := { row := treeCopiesRow, standIns := [], harness := (true, "6b7303ee494e3bdaf7b4400ccaf00f23b516a149243221fde94ee3db885148a9"), looks := false }, kinds := [], alts := [], laidByText := true, laidKinds := [.data, .pinned], laidTests := true, laidLooks := .later }
def TreeCopiesCardSaid : Prop := Claim7.holds Tryz.pinned (.plain (OpenSpec.ofChange treeCopiesSpec)) treeCopiesCard

/-- THE TIED CARD OF 'lockgatelaw16.TreeNil'. -/
def treeNilCard : Claim7 := { stood := { row := treeNilRow, standIns := [], harness := (true, "6b7303ee494e3bdaf7b4400ccaf00f23b516a149243221fde94ee3db885148a9"), looks := false }, kinds := [], alts := [], laidByText := true, laidKinds := [.data, .pinned], laidTests := true, laidLooks := .later }
def TreeNilCardSaid : Prop := Claim7.holds Tryz.pinned (.plain (OpenSpec.ofChange treeNilSpec)) treeNilCard

/-- THE SECOND FORM's CARD OF 'lockgatelaw16.TreePlays'. -/
def treePlaysUptoCard : Claim7 := { stood := { row := treePlaysUptoRow, standIns := [], harness := (true, "6b7303ee494e3bdaf7b4400ccaf00f23b516a149243221fde94ee3db885148a9"), looks := false }, kinds := [], alts := [], laidByText := true, laidKinds := [.data, .pinned], laidTests := true, laidLooks := .later }
def TreePlaysUptoCardSaid : Prop := Claim7.holds Tryz.pinned (.plain (OpenSpec.upto treePlaysSpec)) treePlaysUptoCard

/-- THE SECOND FORM's CARD OF 'lockgatelaw16.TreeEmpties'. -/
def treeEmptiesUptoCard : Claim7 := { stood := { row := treeEmptiesUptoRow, standIns := [], harness := (true, "6b7303ee494e3bdaf7b4400ccaf00f23b516a149243221fde94ee3db885148a9"), looks := false }, kinds := [], alts := [], laidByText := true, laidKinds := [.data, .pinned], laidTests := true, laidLooks := .later }
def TreeEmptiesUptoCardSaid : Prop := Claim7.holds Tryz.pinned (.plain (OpenSpec.upto treeEmptiesSpec)) treeEmptiesUptoCard

/-- THE SECOND FORM's CARD OF 'lockgatelaw16.TreeRenames'. -/
def treeRenamesUptoCard : Claim7 := { stood := { row := treeRenamesUptoRow, standIns := [], harness := (true, "6b7303ee494e3bdaf7b4400ccaf00f23b516a149243221fde94ee3db885148a9"), looks := false }, kinds := [], alts := [], laidByText := true, laidKinds := [.data, .pinned], laidTests := true, laidLooks := .later }
def TreeRenamesUptoCardSaid : Prop := Claim7.holds Tryz.pinned (.plain (OpenSpec.upto treeRenamesSpec)) treeRenamesUptoCard

/-- THE SECOND FORM's CARD OF 'lockgatelaw16.TreeErrors'. -/
def treeErrorsUptoCard : Claim7 := { stood := { row := treeErrorsUptoRow, standIns := [], harness := (true, "6b7303ee494e3bdaf7b4400ccaf00f23b516a149243221fde94ee3db885148a9"), looks := false }, kinds := [], alts := [], laidByText := true, laidKinds := [.data, .pinned], laidTests := true, laidLooks := .later }
def TreeErrorsUptoCardSaid : Prop := Claim7.holds Tryz.pinned (.plain (OpenSpec.upto treeErrorsSpec)) treeErrorsUptoCard

/-- THE SECOND FORM's CARD OF 'lockgatelaw16.TreeTells'. -/
def treeTellsUptoCard : Claim7 := { stood := { row := treeTellsUptoRow, standIns := [], harness := (true, "6b7303ee494e3bdaf7b4400ccaf00f23b516a149243221fde94ee3db885148a9"), looks := false }, kinds := [], alts := [], laidByText := true, laidKinds := [.data, .pinned], laidTests := true, laidLooks := .later }
def TreeTellsUptoCardSaid : Prop := Claim7.holds Tryz.pinned (.plain (OpenSpec.upto treeTellsSpec)) treeTellsUptoCard

/-- THE SECOND FORM's CARD OF 'lockgatelaw16.TreeCopies'. -/
def treeCopiesUptoCard : Claim7 := { stood := { row := treeCopiesUptoRow, standIns := [], harness := (true, "6b7303ee494e3bdaf7b4400ccaf00f23b516a149243221fde94ee3db885148a9"), looks := false }, kinds := [], alts := [], laidByText := true, laidKinds := [.data, .pinned], laidTests := true, laidLooks := .later }
def TreeCopiesUptoCardSaid : Prop := Claim7.holds Tryz.pinned (.plain (OpenSpec.upto treeCopiesSpec)) treeCopiesUptoCard

/-- THE SECOND FORM's CARD OF 'lockgatelaw16.TreeNil'. -/
def treeNilUptoCard : Claim7 := { stood := { row := treeNilUptoRow, standIns := [], harness := (true, "6b7303ee494e3bdaf7b4400ccaf00f23b516a149243221fde94ee3db885148a9"), looks := false }, kinds := [], alts := [], laidByText := true, laidKinds := [.data, .pinned], laidTests := true, laidLooks := .later }
def TreeNilUptoCardSaid : Prop := Claim7.holds Tryz.pinned (.plain (OpenSpec.upto treeNilSpec)) treeNilUptoCard
end Rows
end Go.Proofs.YtglglbbjacgbdaaGreatDoor
