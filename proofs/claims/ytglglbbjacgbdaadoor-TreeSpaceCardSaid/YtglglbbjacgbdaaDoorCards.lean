/-
  DERIVED. GIVEN WITH THE SEED: THE CARDS: each row of YtglglbbjacgbdaaDoorRows.lean that lists a variable, with what it lists TIED to the program's text (the seventh form; the later family's looks); each row that meets fmt, with fmt's text TOLD by the authors' own Lean function (tested against real Go, not proved from fmt's source: count such statements apart). THE CARD IS WHAT COUNTS. Prove the row's statement (the work); the ties are given (YtglglbbjacgbdaaDoorTie.lean); close each card by the builder's one call (the guide's Derived/Test/ToyasCard.lean, 'card_holds'). Laid BY PROGRAM, IN A SANDBOX (cutbox-door.mjs). By AI agents, Wed Nov 11 2026. No macro, syntax, notation, axiom, sorry.
-/
import Derived.Test.YtglglbbjacgbdaaDoorRows
import GoSem.ClaimSeven
namespace Go.Proofs.YtglglbbjacgbdaaDoor
namespace Rows

/-- THE TIED CARD OF 'lockgatelaw16.TreeBytes'. -/
def treeBytesCard : Claim7 := { stood := { row := treeBytesRow, standIns := [], harness := (true, "49c570fd0cc134fc3f16cdaa54cd0fc7d2e498557066cafda3d9c4ea1bc4fa6d"), looks := false }, kinds := [], alts := [], laidByText := true, laidKinds := [.data, .pinned], laidTests := true, laidLooks := .later }
def TreeBytesCardSaid : Prop := Claim7.holds Tryd.pinned (.plain (OpenSpec.ofChange treeBytesSpec)) treeBytesCard

/-- THE TIED CARD OF 'lockgatelaw16.TreeSpace'. -/
def treeSpaceCard : Claim7 := { stood := { row := treeSpaceRow, standIns := [], harness := (true, "49c570fd0cc134fc3f16cdaa54cd0fc7d2e498557066cafda3d9c4ea1bc4fa6d"), looks := false }, kinds := [], alts := [], laidByText := true, laidKinds := [.data, .pinned], laidTests := true, laidLooks := .later }
def TreeSpaceCardSaid : Prop := Claim7.holds Tryd.pinned (.plain (OpenSpec.ofChange treeSpaceSpec)) treeSpaceCard

/-- THE SECOND FORM's CARD OF 'lockgatelaw16.TreeBytes'. -/
def treeBytesUptoCard : Claim7 := { stood := { row := treeBytesUptoRow, standIns := [], harness := (true, "49c570fd0cc134fc3f16cdaa54cd0fc7d2e498557066cafda3d9c4ea1bc4fa6d"), looks := false }, kinds := [], alts := [], laidByText := true, laidKinds := [.data, .pinned], laidTests := true, laidLooks := .later }
def TreeBytesUptoCardSaid : Prop := Claim7.holds Tryd.pinned (.plain (OpenSpec.upto treeBytesSpec)) treeBytesUptoCard

/-- THE SECOND FORM's CARD OF 'lockgatelaw16.TreeSpace'. -/
def treeSpaceUptoCard : Claim7 := { stood := { row := treeSpaceUptoRow, standIns := [], harness := (true, "49c570fd0cc134fc3f16cdaa54cd0fc7d2e498557066cafda3d9c4ea1bc4fa6d"), looks := false }, kinds := [], alts := [], laidByText := true, laidKinds := [.data, .pinned], laidTests := true, laidLooks := .later }
def TreeSpaceUptoCardSaid : Prop := Claim7.holds Tryd.pinned (.plain (OpenSpec.upto treeSpaceSpec)) treeSpaceUptoCard
end Rows
end Go.Proofs.YtglglbbjacgbdaaDoor
