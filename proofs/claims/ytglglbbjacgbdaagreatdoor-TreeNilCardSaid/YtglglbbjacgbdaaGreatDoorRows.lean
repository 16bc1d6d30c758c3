/-
  NARROWER THAN 'FOR EVERY INPUT', by the rows' own cells (each row's printed sentence says how): TreePlays: laid · TreeEmpties: laid · TreeRenames: laid · TreeErrors: laid · TreeTells: laid · TreeCopies: laid · TreeNil: laid.
  DERIVED. THE GIVEN ROWS OF THIS SEAT. 7 by the template 'for every input the law returns true; each argument reads behind the call as it read before'; 0 by the template 'total and deterministic' (their statements: YtglglbbjacgbdaaGreatDoorTotals.lean).
  GIVEN WITH THE SEED: the statements are not yours to turn. If you find one false, say at which input.
  Laid BY PROGRAM, IN A SANDBOX (cutbox-rows.mjs): the forced cells as the released guide's own fill.sh prints them over the translation 91f1e4a6c097c58c… (all of the seat's roots in one cut). By AI agents, Wed Nov 11 2026. No macro, syntax, notation, axiom, sorry.
-/
import Derived.Test.YtglglbbjacgbdaaGreatDoorChecked
import GoSem.PinnedTables
import GoSem.Claim
import GoSem.ClaimJoined
import GoSem.ClaimMapViews
import Derived.JoinedTies
import Derived.KernelRfl
namespace Go.Proofs.YtglglbbjacgbdaaGreatDoor
/- THE CELL 'sum', in the pinned program and in every row, IS THE sha256 OF THE DUMP (.gsa) THAT YtglglbbjacgbdaaGreatDoorProg.lean LOADS. Nothing in Lean hashes anything: it is a label: what it is worth is what the hold of that sum in a sandbox is worth. -/
noncomputable def Tryz.pinned : Pinned := { name := "ytglglbbjacgbdaagreatdoor", sum := "91f1e4a6c097c58c8a01c2cac6bfafb5cc60eefed9fb97fd91c1140967bc9647", checked := Tryz.checked }
namespace Rows
def none {H : Type} : Left H := { results := [], args := [] }

/- WHAT THE LISTED PACKAGE-LEVEL VARIABLES READ AS WHEN THE CALL BEGINS. Each datum BY PROGRAM (the guide's laid-datum.mjs) off the statement by which the dump's own 'gosem.cut.vars' lays the variable. In a bare row this is a premise. The card (YtglglbbjacgbdaaGreatDoorCards.lean) ties it to the program's text. -/
def laid_unicode_utf8_acceptRanges {H : Type} : DataW H := .agg [.agg [.lit (.int .u8 128), .lit (.int .u8 191)], .agg [.lit (.int .u8 160), .lit (.int .u8 191)], .agg [.lit (.int .u8 128), .lit (.int .u8 159)], .agg [.lit (.int .u8 144), .lit (.int .u8 191)], .agg [.lit (.int .u8 128), .lit (.int .u8 143)], .agg [.lit (.int .u8 0), .lit (.int .u8 0)], .agg [.lit (.int .u8 0), .lit (.int .u8 0)], .agg [.lit (.int .u8 0), .lit (.int .u8 0)], .agg [.lit (.int .u8 0), .lit (.int .u8 0)], .agg [.lit (.int .u8 0), .lit (.int .u8 0)], .agg [.lit (.int .u8 0), .lit (.int .u8 0)], .agg [.lit (.int .u8 0), .lit (.int .u8 0)], .agg [.lit (.int .u8 0), .lit (.int .u8 0)], .agg [.lit (.int .u8 0), .lit (.int .u8 0)], .agg [.lit (.int .u8 0), .lit (.int .u8 0)], .agg [.lit (.int .u8 0), .lit (.int .u8 0)]]
/-- One of Go's own tables, pinned by name: the form's constant. -/
def laid_unicode_utf8_first : DataW Unit := Go.Pinned.utf8First

/-- 'lockgatelaw16.TreePlays': WHATEVER THE INPUT: true; the input reads as it did. -/
def treePlaysSpec : ChangeSpec := { name := "treePlays", fn := fun _ => fun
  | [d1, d2] => { results := [.lit (.bool true)], args := [d1, d2] }
  | _ => none }
def treePlaysRow : OpenClaim := { program := "ytglglbbjacgbdaagreatdoor", sum := "91f1e4a6c097c58c8a01c2cac6bfafb5cc60eefed9fb97fd91c1140967bc9647", func := "lockgate/lockgatelaw16.TreePlays", spec := "treePlays", inPlace := ["internal/bytealg.CountString", "internal/bytealg.IndexByteString", "internal/bytealg.IndexString", "slices.overlaps[lockgate/tree.child]", "internal/abi.NoEscape", "internal/bytealg.MakeNoZero"], unfollowed := true, recurses := true, named := ["unicode/utf8.first", "unicode/utf8.acceptRanges", "internal/bytealg.MaxLen"], apart := false, laid := [("unicode/utf8.acceptRanges", laid_unicode_utf8_acceptRanges), ("unicode/utf8.first", laid_unicode_utf8_first)] }
def TreePlaysSaid : Prop := treePlaysRow.holds Tryz.pinned (OpenSpec.ofChange treePlaysSpec)

/-- ITS FALSE NEIGHBOUR: 'it returns false'. Refute it at one input. -/
def treePlaysWrong : ChangeSpec := { name := "treePlays", fn := fun _ => fun
  | [d1, d2] => { results := [.lit (.bool false)], args := [d1, d2] }
  | _ => none }
def TreePlaysWrongFalsely : Prop := treePlaysRow.holds Tryz.pinned (OpenSpec.ofChange treePlaysWrong)

/-- 'lockgatelaw16.TreeEmpties': WHATEVER THE INPUT: true; the input reads as it did. -/
def treeEmptiesSpec : ChangeSpec := { name := "treeEmpties", fn := fun _ => fun
  | [d1, d2] => { results := [.lit (.bool true)], args := [d1, d2] }
  | _ => none }
def treeEmptiesRow : OpenClaim := { program := "ytglglbbjacgbdaagreatdoor", sum := "91f1e4a6c097c58c8a01c2cac6bfafb5cc60eefed9fb97fd91c1140967bc9647", func := "lockgate/lockgatelaw16.TreeEmpties", spec := "treeEmpties", inPlace := ["internal/bytealg.CountString", "internal/bytealg.IndexByteString", "internal/bytealg.IndexString", "slices.overlaps[lockgate/tree.child]", "internal/abi.NoEscape", "internal/bytealg.MakeNoZero"], unfollowed := true, recurses := true, named := ["unicode/utf8.first", "unicode/utf8.acceptRanges", "internal/bytealg.MaxLen"], apart := false, laid := [("unicode/utf8.acceptRanges", laid_unicode_utf8_acceptRanges), ("unicode/utf8.first", laid_unicode_utf8_first)] }
def TreeEmptiesSaid : Prop := treeEmptiesRow.holds Tryz.pinned (OpenSpec.ofChange treeEmptiesSpec)

/-- ITS FALSE NEIGHBOUR: 'it returns false'. Refute it at one input. -/
def treeEmptiesWrong : ChangeSpec := { name := "treeEmpties", fn := fun _ => fun
  | [d1, d2] => { results := [.lit (.bool false)], args := [d1, d2] }
  | _ => none }
def TreeEmptiesWrongFalsely : Prop := treeEmptiesRow.holds Tryz.pinned (OpenSpec.ofChange treeEmptiesWrong)

/-- 'lockgatelaw16.TreeRenames': WHATEVER THE INPUT: true; the input reads as it did. -/
def treeRenamesSpec : ChangeSpec := { name := "treeRenames", fn := fun _ => fun
  | [d1, d2, d3] => { results := [.lit (.bool true)], args := [d1, d2, d3] }
  | _ => none }
def treeRenamesRow : OpenClaim := { program := "ytglglbbjacgbdaagreatdoor", sum := "91f1e4a6c097c58c8a01c2cac6bfafb5cc60eefed9fb97fd91c1140967bc9647", func := "lockgate/lockgatelaw16.TreeRenames", spec := "treeRenames", inPlace := ["internal/bytealg.CountString", "internal/bytealg.IndexByteString", "internal/bytealg.IndexString", "slices.overlaps[lockgate/tree.child]", "internal/abi.NoEscape", "internal/bytealg.MakeNoZero"], unfollowed := true, recurses := true, named := ["unicode/utf8.first", "unicode/utf8.acceptRanges", "internal/bytealg.MaxLen"], apart := false, laid := [("unicode/utf8.acceptRanges", laid_unicode_utf8_acceptRanges), ("unicode/utf8.first", laid_unicode_utf8_first)] }
def TreeRenamesSaid : Prop := treeRenamesRow.holds Tryz.pinned (OpenSpec.ofChange treeRenamesSpec)

/-- ITS FALSE NEIGHBOUR: 'it returns false'. Refute it at one input. -/
def treeRenamesWrong : ChangeSpec := { name := "treeRenames", fn := fun _ => fun
  | [d1, d2, d3] => { results := [.lit (.bool false)], args := [d1, d2, d3] }
  | _ => none }
def TreeRenamesWrongFalsely : Prop := treeRenamesRow.holds Tryz.pinned (OpenSpec.ofChange treeRenamesWrong)

/-- 'lockgatelaw16.TreeErrors': WHATEVER THE INPUT: true; the input reads as it did. -/
def treeErrorsSpec : ChangeSpec := { name := "treeErrors", fn := fun _ => fun
  | [d1, d2] => { results := [.lit (.bool true)], args := [d1, d2] }
  | _ => none }
def treeErrorsRow : OpenClaim := { program := "ytglglbbjacgbdaagreatdoor", sum := "91f1e4a6c097c58c8a01c2cac6bfafb5cc60eefed9fb97fd91c1140967bc9647", func := "lockgate/lockgatelaw16.TreeErrors", spec := "treeErrors", inPlace := ["internal/bytealg.CountString", "internal/bytealg.IndexByteString", "internal/bytealg.IndexString", "slices.overlaps[lockgate/tree.child]", "internal/abi.NoEscape", "internal/bytealg.MakeNoZero"], unfollowed := true, recurses := true, named := ["unicode/utf8.first", "unicode/utf8.acceptRanges", "internal/bytealg.MaxLen"], apart := false, laid := [("unicode/utf8.acceptRanges", laid_unicode_utf8_acceptRanges), ("unicode/utf8.first", laid_unicode_utf8_first)] }
def TreeErrorsSaid : Prop := treeErrorsRow.holds Tryz.pinned (OpenSpec.ofChange treeErrorsSpec)

/-- ITS FALSE NEIGHBOUR: 'it returns false'. Refute it at one input. -/
def treeErrorsWrong : ChangeSpec := { name := "treeErrors", fn := fun _ => fun
  | [d1, d2] => { results := [.lit (.bool false)], args := [d1, d2] }
  | _ => none }
def TreeErrorsWrongFalsely : Prop := treeErrorsRow.holds Tryz.pinned (OpenSpec.ofChange treeErrorsWrong)

/-- 'lockgatelaw16.TreeTells': WHATEVER THE INPUT: true; the input reads as it did. -/
def treeTellsSpec : ChangeSpec := { name := "treeTells", fn := fun _ => fun
  | [d1, d2] => { results := [.lit (.bool true)], args := [d1, d2] }
  | _ => none }
def treeTellsRow : OpenClaim := { program := "ytglglbbjacgbdaagreatdoor", sum := "91f1e4a6c097c58c8a01c2cac6bfafb5cc60eefed9fb97fd91c1140967bc9647", func := "lockgate/lockgatelaw16.TreeTells", spec := "treeTells", inPlace := ["internal/bytealg.CountString", "internal/bytealg.IndexByteString", "internal/bytealg.IndexString", "slices.overlaps[lockgate/tree.child]", "internal/abi.NoEscape", "internal/bytealg.MakeNoZero"], unfollowed := true, recurses := true, named := ["unicode/utf8.first", "unicode/utf8.acceptRanges", "internal/bytealg.MaxLen"], apart := false, laid := [("unicode/utf8.acceptRanges", laid_unicode_utf8_acceptRanges), ("unicode/utf8.first", laid_unicode_utf8_first)] }
def TreeTellsSaid : Prop := treeTellsRow.holds Tryz.pinned (OpenSpec.ofChange treeTellsSpec)

/-- ITS FALSE NEIGHBOUR: 'it returns false'. Refute it at one input. -/
def treeTellsWrong : ChangeSpec := { name := "treeTells", fn := fun _ => fun
  | [d1, d2] => { results := [.lit (.bool false)], args := [d1, d2] }
  | _ => none }
def TreeTellsWrongFalsely : Prop := treeTellsRow.holds Tryz.pinned (OpenSpec.ofChange treeTellsWrong)

/-- 'lockgatelaw16.TreeCopies': WHATEVER THE INPUT: true; the input reads as it did. -/
def treeCopiesSpec : ChangeSpec := { name := "treeCopies", fn := fun _ => fun
  | [d1, d2, d3] => { results := [.lit (.bool true)], args := [d1, d2, d3] }
  | _ => none }
def treeCopiesRow : OpenClaim := { program := "ytglglbbjacgbdaagreatdoor", sum := "91f1e4a6c097c58c8a01c2cac6bfafb5cc60eefed9fb97fd91c1140967bc9647", func := "lockgate/lockgatelaw16.TreeCopies", spec := "treeCopies", inPlace := ["internal/bytealg.CountString", "internal/bytealg.IndexByteString", "internal/bytealg.IndexString", "slices.overlaps[lockgate/tree.child]", "internal/abi.NoEscape", "internal/bytealg.MakeNoZero"], unfollowed := true, recurses := true, named := ["unicode/utf8.first", "unicode/utf8.acceptRanges", "internal/bytealg.MaxLen"], apart := false, laid := [("unicode/utf8.acceptRanges", laid_unicode_utf8_acceptRanges), ("unicode/utf8.first", laid_unicode_utf8_first)] }
def TreeCopiesSaid : Prop := treeCopiesRow.holds Tryz.pinned (OpenSpec.ofChange treeCopiesSpec)

/-- ITS FALSE NEIGHBOUR: 'it returns false'. Refute it at one input. -/
def treeCopiesWrong : ChangeSpec := { name := "treeCopies", fn := fun _ => fun
  | [d1, d2, d3] => { results := [.lit (.bool false)], args := [d1, d2, d3] }
  | _ => none }
def TreeCopiesWrongFalsely : Prop := treeCopiesRow.holds Tryz.pinned (OpenSpec.ofChange treeCopiesWrong)

/-- 'lockgatelaw16.TreeNil': WHATEVER THE INPUT: true; the input reads as it did. -/
def treeNilSpec : ChangeSpec := { name := "treeNil", fn := fun _ => fun
  | [d] => { results := [.lit (.bool true)], args := [d] }
  | _ => none }
def treeNilRow : OpenClaim := { program := "ytglglbbjacgbdaagreatdoor", sum := "91f1e4a6c097c58c8a01c2cac6bfafb5cc60eefed9fb97fd91c1140967bc9647", func := "lockgate/lockgatelaw16.TreeNil", spec := "treeNil", inPlace := ["internal/bytealg.CountString", "internal/bytealg.IndexByteString", "internal/bytealg.IndexString", "slices.overlaps[lockgate/tree.child]", "internal/abi.NoEscape", "internal/bytealg.MakeNoZero"], unfollowed := true, recurses := true, named := ["unicode/utf8.first", "unicode/utf8.acceptRanges", "internal/bytealg.MaxLen"], apart := false, laid := [("unicode/utf8.acceptRanges", laid_unicode_utf8_acceptRanges), ("unicode/utf8.first", laid_unicode_utf8_first)] }
def TreeNilSaid : Prop := treeNilRow.holds Tryz.pinned (OpenSpec.ofChange treeNilSpec)

/-- ITS FALSE NEIGHBOUR: 'it returns false'. Refute it at one input. -/
def treeNilWrong : ChangeSpec := { name := "treeNil", fn := fun _ => fun
  | [d] => { results := [.lit (.bool false)], args := [d] }
  | _ => none }
def TreeNilWrongFalsely : Prop := treeNilRow.holds Tryz.pinned (OpenSpec.ofChange treeNilWrong)

/- THE SECOND FORM. 'bulk': how many values and letters a reading holds, each counted each time it is reached (what is shared counts as often as it is met; a slice's spare places count too). A statement '..UptoSaid' is the law's where the arguments, and the package variables that the reading takes, are together of bulk at most 1048576: NARROWER than '..Said'. Prove '..Said' where nothing that the law and all that it calls make is longer than what came in: it says more and counts as full. Else prove '..UptoSaid'. A law counts once. -/
mutual
def uptoBulk {H : Type} : DataW H → Nat
  | .lit (.string bytes) => bytes.length + 1
  | .lit _ => 1
  | .nil => 1
  | .ptr d => uptoBulk d + 1
  | .slice elems spare => uptoBulkAll elems + uptoBulkAll spare + 1
  | .agg parts => uptoBulkAll parts + 1
  | .iface _ d => uptoBulk d + 1
  | .map entries => uptoBulkEntries entries + 1
  | .held _ => 1
def uptoBulkAll {H : Type} : List (DataW H) → Nat
  | [] => 0
  | d :: r => uptoBulk d + uptoBulkAll r
def uptoBulkEntries {H : Type} : List (Lit × DataW H) → Nat
  | [] => 0
  | x :: r => uptoBulkEntry x + uptoBulkEntries r
def uptoBulkEntry {H : Type} : Lit × DataW H → Nat
  | (.string bytes, d) => bytes.length + uptoBulk d + 1
  | (_, d) => uptoBulk d + 1
 end
def uptoSmall : (H : Type) → List (DataW H) → Bool := fun _ ds => decide (uptoBulkAll ds ≤ 1048576)
def OpenSpec.upto (s : _root_.Go.ChangeSpec) : _root_.Go.OpenSpec := { _root_.Go.OpenSpec.ofChange s with cond := some uptoSmall }

/-- 'lockgatelaw16.TreePlays', WHERE WHAT IT READS IS OF BULK AT MOST 1048576: true; the input reads as it did. -/
def treePlaysUptoRow : OpenClaim := { program := "ytglglbbjacgbdaagreatdoor", sum := "91f1e4a6c097c58c8a01c2cac6bfafb5cc60eefed9fb97fd91c1140967bc9647", func := "lockgate/lockgatelaw16.TreePlays", spec := "treePlays", inPlace := ["internal/bytealg.CountString", "internal/bytealg.IndexByteString", "internal/bytealg.IndexString", "slices.overlaps[lockgate/tree.child]", "internal/abi.NoEscape", "internal/bytealg.MakeNoZero"], unfollowed := true, recurses := true, named := ["unicode/utf8.first", "unicode/utf8.acceptRanges", "internal/bytealg.MaxLen"], apart := false, laid := [("unicode/utf8.acceptRanges", laid_unicode_utf8_acceptRanges), ("unicode/utf8.first", laid_unicode_utf8_first)], narrowed := true }
def TreePlaysUptoSaid : Prop := treePlaysUptoRow.holds Tryz.pinned (OpenSpec.upto treePlaysSpec)

/-- 'lockgatelaw16.TreeEmpties', WHERE WHAT IT READS IS OF BULK AT MOST 1048576: true; the input reads as it did. -/
def treeEmptiesUptoRow : OpenClaim := { program := "ytglglbbjacgbdaagreatdoor", sum := "91f1e4a6c097c58c8a01c2cac6bfafb5cc60eefed9fb97fd91c1140967bc9647", func := "lockgate/lockgatelaw16.TreeEmpties", spec := "treeEmpties", inPlace := ["internal/bytealg.CountString", "internal/bytealg.IndexByteString", "internal/bytealg.IndexString", "slices.overlaps[lockgate/tree.child]", "internal/abi.NoEscape", "internal/bytealg.MakeNoZero"], unfollowed := true, recurses := true, named := ["unicode/utf8.first", "unicode/utf8.acceptRanges", "internal/bytealg.MaxLen"], apart := false, laid := [("unicode/utf8.acceptRanges", laid_unicode_utf8_acceptRanges), ("unicode/utf8.first", laid_unicode_utf8_first)], narrowed := true }
def TreeEmptiesUptoSaid : Prop := treeEmptiesUptoRow.holds Tryz.pinned (OpenSpec.upto treeEmptiesSpec)

/-- 'lockgatelaw16.TreeRenames', WHERE WHAT IT READS IS OF BULK AT MOST 1048576: true; the input reads as it did. -/
def treeRenamesUptoRow : OpenClaim := { program := "ytglglbbjacgbdaagreatdoor", sum := "91f1e4a6c097c58c8a01c2cac6bfafb5cc60eefed9fb97fd91c1140967bc9647", func := "lockgate/lockgatelaw16.TreeRenames", spec := "treeRenames", inPlace := ["internal/bytealg.CountString", "internal/bytealg.IndexByteString", "internal/bytealg.IndexString", "slices.overlaps[lockgate/tree.child]", "internal/abi.NoEscape", "internal/bytealg.MakeNoZero"], unfollowed := true, recurses := true, named := ["unicode/utf8.first", "unicode/utf8.acceptRanges", "internal/bytealg.MaxLen"], apart := false, laid := [("unicode/utf8.acceptRanges", laid_unicode_utf8_acceptRanges), ("unicode/utf8.first", laid_unicode_utf8_first)], narrowed := true }
def TreeRenamesUptoSaid : Prop := treeRenamesUptoRow.holds Tryz.pinned (OpenSpec.upto treeRenamesSpec)

/-- 'lockgatelaw16.TreeErrors', WHERE WHAT IT READS IS OF BULK AT MOST 1048576: true; the input reads as it did. -/
def treeErrorsUptoRow : OpenClaim := { program := "ytglglbbjacgbdaagreatdoor", sum := "91f1e4a6c097c58c8a01c2cac6bfafb5cc60eefed9fb97fd91c1140967bc9647", func := "lockgate/lockgatelaw16.TreeErrors", spec := "treeErrors", inPlace := ["internal/bytealg.CountString", "internal/bytealg.IndexByteString", "internal/bytealg.IndexString", "slices.overlaps[lockgate/tree.child]", "internal/abi.NoEscape", "internal/bytealg.MakeNoZero"], unfollowed := true, recurses := true, named := ["unicode/utf8.first", "unicode/utf8.acceptRanges", "internal/bytealg.MaxLen"], apart := false, laid := [("unicode/utf8.acceptRanges", laid_unicode_utf8_acceptRanges), ("unicode/utf8.first", laid_unicode_utf8_first)], narrowed := true }
def TreeErrorsUptoSaid : Prop := treeErrorsUptoRow.holds Tryz.pinned (OpenSpec.upto treeErrorsSpec)

/-- 'lockgatelaw16.TreeTells', WHERE WHAT IT READS IS OF BULK AT MOST 1048576: true; the input reads as it did. -/
def treeTellsUptoRow : OpenClaim := { program := "ytglglbbjacgbdaagreatdoor", sum := "91f1e4a6c097c58c8a01c2cac6bfafb5cc60eefed9fb97fd91c1140967bc9647", func := "lockgate/lockgatelaw16.TreeTells", spec := "treeTells", inPlace := ["internal/bytealg.CountString", "internal/bytealg.IndexByteString", "internal/bytealg.IndexString", "slices.overlaps[lockgate/tree.child]", "internal/abi.NoEscape", "internal/bytealg.MakeNoZero"], unfollowed := true, recurses := true, named := ["unicode/utf8.first", "unicode/utf8.acceptRanges", "internal/bytealg.MaxLen"], apart := false, laid := [("unicode/utf8.acceptRanges", laid_unicode_utf8_acceptRanges), ("unicode/utf8.first", laid_unicode_utf8_first)], narrowed := true }
def TreeTellsUptoSaid : Prop := treeTellsUptoRow.holds Tryz.pinned (OpenSpec.upto treeTellsSpec)

/-- 'lockgatelaw16.TreeCopies', WHERE WHAT IT READS IS OF BULK AT MOST 1048576: true; the input reads as it did. -/
def treeCopiesUptoRow : OpenClaim := { program := "ytglglbbjacgbdaagreatdoor", sum := "91f1e4a6c097c58c8a01c2cac6bfafb5cc60eefed9fb97fd91c1140967bc9647", func := "lockgate/lockgatelaw16.TreeCopies", spec := "treeCopies", inPlace := ["internal/bytealg.CountString", "internal/bytealg.IndexByteString", "internal/bytealg.IndexString", "slices.overlaps[lockgate/tree.child]", "internal/abi.NoEscape", "internal/bytealg.MakeNoZero"], unfollowed := true, recurses := true, named := ["unicode/utf8.first", "unicode/utf8.acceptRanges", "internal/bytealg.MaxLen"], apart := false, laid := [("unicode/utf8.acceptRanges", laid_unicode_utf8_acceptRanges), ("unicode/utf8.first", laid_unicode_utf8_first)], narrowed := true }
def TreeCopiesUptoSaid : Prop := treeCopiesUptoRow.holds Tryz.pinned (OpenSpec.upto treeCopiesSpec)

/-- 'lockgatelaw16.TreeNil', WHERE WHAT IT READS IS OF BULK AT MOST 1048576: true; the input reads as it did. -/
def treeNilUptoRow : OpenClaim := { program := "ytglglbbjacgbdaagreatdoor", sum := "91f1e4a6c097c58c8a01c2cac6bfafb5cc60eefed9fb97fd91c1140967bc9647", func := "lockgate/lockgatelaw16.TreeNil", spec := "treeNil", inPlace := ["internal/bytealg.CountString", "internal/bytealg.IndexByteString", "internal/bytealg.IndexString", "slices.overlaps[lockgate/tree.child]", "internal/abi.NoEscape", "internal/bytealg.MakeNoZero"], unfollowed := true, recurses := true, named := ["unicode/utf8.first", "unicode/utf8.acceptRanges", "internal/bytealg.MaxLen"], apart := false, laid := [("unicode/utf8.acceptRanges", laid_unicode_utf8_acceptRanges), ("unicode/utf8.first", laid_unicode_utf8_first)], narrowed := true }
def TreeNilUptoSaid : Prop := treeNilUptoRow.holds Tryz.pinned (OpenSpec.upto treeNilSpec)

end Rows
end Go.Proofs.YtglglbbjacgbdaaGreatDoor
