/-
  No cell of these rows narrows 'for every input' (looked for: loops, veiled, ifaces, maps, wideKeys, modest, calm, conditions, laid).
  DERIVED. THE GIVEN ROWS OF THIS SEAT. 7 by the template 'for every input the law returns true; each argument reads behind the call as it read before'; 0 by the template 'total and deterministic' (their statements: YtepmgcgpioljiaaTotals.lean).
  GIVEN WITH THE SEED: the statements are not yours to turn. If you find one false, say at which input.
  Laid BY PROGRAM, IN A SANDBOX (cutbox-rows.mjs): the forced cells as the released guide's own fill.sh prints them over the translation 18efd5b55b66a88d… (all of the seat's roots in one cut). By AI agents, Wed Nov 11 2026. No macro, syntax, notation, axiom, sorry.
-/
import Derived.Test.YtepmgcgpioljiaaChecked
import GoSem.Claim
import GoSem.ClaimJoined
import GoSem.ClaimMapViews
import Derived.JoinedTies
import Derived.KernelRfl
namespace Go.Proofs.Ytepmgcgpioljiaa
/- THE CELL 'sum', in the pinned program and in every row, IS THE sha256 OF THE DUMP (.gsa) THAT YtepmgcgpioljiaaProg.lean LOADS. Nothing in Lean hashes anything: it is a label: what it is worth is what the hold of that sum in a sandbox is worth. -/
noncomputable def Try.pinned : Pinned := { name := "ytepmgcgpioljiaa", sum := "18efd5b55b66a88d86ca9bf7a6d1a539a6cf391f1c6050c17b7d94e5ab4e4c77", checked := Try.checked }
namespace Rows
def none {H : Type} : Left H := { results := [], args := [] }

/-- 'lockgatelaw14.InodePieces': WHATEVER THE INPUT: true; the input reads as it did. -/
def inodePiecesSpec : ChangeSpec := { name := "inodePieces", fn := fun _ => fun
  | [d1, d2, d3] => { results := [.lit (.bool true)], args := [d1, d2, d3] }
  | _ => none }
def inodePiecesRow : OpenClaim := { program := "ytepmgcgpioljiaa", sum := "18efd5b55b66a88d86ca9bf7a6d1a539a6cf391f1c6050c17b7d94e5ab4e4c77", func := "lockgate/lockgatelaw14.InodePieces", spec := "inodePieces", apart := false }
def InodePiecesSaid : Prop := inodePiecesRow.holds Try.pinned (OpenSpec.ofChange inodePiecesSpec)

/-- ITS FALSE NEIGHBOUR: 'it returns false'. Refute it at one input. -/
def inodePiecesWrong : ChangeSpec := { name := "inodePieces", fn := fun _ => fun
  | [d1, d2, d3] => { results := [.lit (.bool false)], args := [d1, d2, d3] }
  | _ => none }
def InodePiecesWrongFalsely : Prop := inodePiecesRow.holds Try.pinned (OpenSpec.ofChange inodePiecesWrong)

/-- 'lockgatelaw14.InodeNeeds': WHATEVER THE INPUT: true; the input reads as it did. -/
def inodeNeedsSpec : ChangeSpec := { name := "inodeNeeds", fn := fun _ => fun
  | [d1, d2] => { results := [.lit (.bool true)], args := [d1, d2] }
  | _ => none }
def inodeNeedsRow : OpenClaim := { program := "ytepmgcgpioljiaa", sum := "18efd5b55b66a88d86ca9bf7a6d1a539a6cf391f1c6050c17b7d94e5ab4e4c77", func := "lockgate/lockgatelaw14.InodeNeeds", spec := "inodeNeeds", apart := false }
def InodeNeedsSaid : Prop := inodeNeedsRow.holds Try.pinned (OpenSpec.ofChange inodeNeedsSpec)

/-- ITS FALSE NEIGHBOUR: 'it returns false'. Refute it at one input. -/
def inodeNeedsWrong : ChangeSpec := { name := "inodeNeeds", fn := fun _ => fun
  | [d1, d2] => { results := [.lit (.bool false)], args := [d1, d2] }
  | _ => none }
def InodeNeedsWrongFalsely : Prop := inodeNeedsRow.holds Try.pinned (OpenSpec.ofChange inodeNeedsWrong)

/-- 'lockgatelaw14.InodeJoins': WHATEVER THE INPUT: true; the input reads as it did. -/
def inodeJoinsSpec : ChangeSpec := { name := "inodeJoins", fn := fun _ => fun
  | [d] => { results := [.lit (.bool true)], args := [d] }
  | _ => none }
def inodeJoinsRow : OpenClaim := { program := "ytepmgcgpioljiaa", sum := "18efd5b55b66a88d86ca9bf7a6d1a539a6cf391f1c6050c17b7d94e5ab4e4c77", func := "lockgate/lockgatelaw14.InodeJoins", spec := "inodeJoins", apart := false }
def InodeJoinsSaid : Prop := inodeJoinsRow.holds Try.pinned (OpenSpec.ofChange inodeJoinsSpec)

/-- ITS FALSE NEIGHBOUR: 'it returns false'. Refute it at one input. -/
def inodeJoinsWrong : ChangeSpec := { name := "inodeJoins", fn := fun _ => fun
  | [d] => { results := [.lit (.bool false)], args := [d] }
  | _ => none }
def InodeJoinsWrongFalsely : Prop := inodeJoinsRow.holds Try.pinned (OpenSpec.ofChange inodeJoinsWrong)

/-- 'lockgatelaw14.InodeCuts': WHATEVER THE INPUT: true; the input reads as it did. -/
def inodeCutsSpec : ChangeSpec := { name := "inodeCuts", fn := fun _ => fun
  | [d1, d2, d3] => { results := [.lit (.bool true)], args := [d1, d2, d3] }
  | _ => none }
def inodeCutsRow : OpenClaim := { program := "ytepmgcgpioljiaa", sum := "18efd5b55b66a88d86ca9bf7a6d1a539a6cf391f1c6050c17b7d94e5ab4e4c77", func := "lockgate/lockgatelaw14.InodeCuts", spec := "inodeCuts", inPlace := ["internal/abi.NoEscape", "internal/bytealg.MakeNoZero"], apart := false }
def InodeCutsSaid : Prop := inodeCutsRow.holds Try.pinned (OpenSpec.ofChange inodeCutsSpec)

/-- ITS FALSE NEIGHBOUR: 'it returns false'. Refute it at one input. -/
def inodeCutsWrong : ChangeSpec := { name := "inodeCuts", fn := fun _ => fun
  | [d1, d2, d3] => { results := [.lit (.bool false)], args := [d1, d2, d3] }
  | _ => none }
def InodeCutsWrongFalsely : Prop := inodeCutsRow.holds Try.pinned (OpenSpec.ofChange inodeCutsWrong)

/-- 'lockgatelaw14.InodeOne': WHATEVER THE INPUT: true; the input reads as it did. -/
def inodeOneSpec : ChangeSpec := { name := "inodeOne", fn := fun _ => fun
  | [d1, d2] => { results := [.lit (.bool true)], args := [d1, d2] }
  | _ => none }
def inodeOneRow : OpenClaim := { program := "ytepmgcgpioljiaa", sum := "18efd5b55b66a88d86ca9bf7a6d1a539a6cf391f1c6050c17b7d94e5ab4e4c77", func := "lockgate/lockgatelaw14.InodeOne", spec := "inodeOne", unfollowed := true, recurses := true, apart := false }
def InodeOneSaid : Prop := inodeOneRow.holds Try.pinned (OpenSpec.ofChange inodeOneSpec)

/-- ITS FALSE NEIGHBOUR: 'it returns false'. Refute it at one input. -/
def inodeOneWrong : ChangeSpec := { name := "inodeOne", fn := fun _ => fun
  | [d1, d2] => { results := [.lit (.bool false)], args := [d1, d2] }
  | _ => none }
def InodeOneWrongFalsely : Prop := inodeOneRow.holds Try.pinned (OpenSpec.ofChange inodeOneWrong)

/-- 'lockgatelaw14.InodeReads': WHATEVER THE INPUT: true; the input reads as it did. -/
def inodeReadsSpec : ChangeSpec := { name := "inodeReads", fn := fun _ => fun
  | [d] => { results := [.lit (.bool true)], args := [d] }
  | _ => none }
def inodeReadsRow : OpenClaim := { program := "ytepmgcgpioljiaa", sum := "18efd5b55b66a88d86ca9bf7a6d1a539a6cf391f1c6050c17b7d94e5ab4e4c77", func := "lockgate/lockgatelaw14.InodeReads", spec := "inodeReads", unfollowed := true, recurses := true, apart := false }
def InodeReadsSaid : Prop := inodeReadsRow.holds Try.pinned (OpenSpec.ofChange inodeReadsSpec)

/-- ITS FALSE NEIGHBOUR: 'it returns false'. Refute it at one input. -/
def inodeReadsWrong : ChangeSpec := { name := "inodeReads", fn := fun _ => fun
  | [d] => { results := [.lit (.bool false)], args := [d] }
  | _ => none }
def InodeReadsWrongFalsely : Prop := inodeReadsRow.holds Try.pinned (OpenSpec.ofChange inodeReadsWrong)

/-- 'lockgatelaw14.InodeBytes': WHATEVER THE INPUT: true; the input reads as it did. -/
def inodeBytesSpec : ChangeSpec := { name := "inodeBytes", fn := fun _ => fun
  | [d1, d2] => { results := [.lit (.bool true)], args := [d1, d2] }
  | _ => none }
def inodeBytesRow : OpenClaim := { program := "ytepmgcgpioljiaa", sum := "18efd5b55b66a88d86ca9bf7a6d1a539a6cf391f1c6050c17b7d94e5ab4e4c77", func := "lockgate/lockgatelaw14.InodeBytes", spec := "inodeBytes", unfollowed := true, recurses := true, apart := false }
def InodeBytesSaid : Prop := inodeBytesRow.holds Try.pinned (OpenSpec.ofChange inodeBytesSpec)

/-- ITS FALSE NEIGHBOUR: 'it returns false'. Refute it at one input. -/
def inodeBytesWrong : ChangeSpec := { name := "inodeBytes", fn := fun _ => fun
  | [d1, d2] => { results := [.lit (.bool false)], args := [d1, d2] }
  | _ => none }
def InodeBytesWrongFalsely : Prop := inodeBytesRow.holds Try.pinned (OpenSpec.ofChange inodeBytesWrong)

/- THE SECOND FORM. 'bulk': how many values and letters a reading holds, each counted each time it is reached (what is shared counts as often as it is met; a slice's spare places count too). A statement '..UptoSaid' is the law's where the arguments, and the package variables that the reading takes, are together of bulk at most 1048576: NARROWER than '..Said'. Prove '..Said' where nothing that the law and all that it calls make is longer than what came in: it says more and counts as full. Else prove '..UptoSaid'. A law counts once. -/
mutual
def uptoBulk {H : Type} : DataW H → Nat
  | .lit (.string bytes) => bytes.length + 1
  | .lit _ => 1
  | .nil => 1
  | .ptr d => uptoBulk d + 1
  | .slice elems spare => uptoBulkAll elems + uptoBulkAll spare + 1
  | .agg parts => uptoBulkAll parts + 1
  | .iface _ d => uptoBulk d + 1
  | .map entries => uptoBulkEntries entries + 1
  | .held _ => 1
def uptoBulkAll {H : Type} : List (DataW H) → Nat
  | [] => 0
  | d :: r => uptoBulk d + uptoBulkAll r
def uptoBulkEntries {H : Type} : List (Lit × DataW H) → Nat
  | [] => 0
  | x :: r => uptoBulkEntry x + uptoBulkEntries r
def uptoBulkEntry {H : Type} : Lit × DataW H → Nat
  | (.string bytes, d) => bytes.length + uptoBulk d + 1
  | (_, d) => uptoBulk d + 1
 end
def uptoSmall : (H : Type) → List (DataW H) → Bool := fun _ ds => decide (uptoBulkAll ds ≤ 1048576)
def OpenSpec.upto (s : _root_.Go.ChangeSpec) : _root_.Go.OpenSpec := { _root_.Go.OpenSpec.ofChange s with cond := some uptoSmall }

/-- 'lockgatelaw14.InodePieces', WHERE WHAT IT READS IS OF BULK AT MOST 1048576: true; the input reads as it did. -/
def inodePiecesUptoRow : OpenClaim := { program := "ytepmgcgpioljiaa", sum := "18efd5b55b66a88d86ca9bf7a6d1a539a6cf391f1c6050c17b7d94e5ab4e4c77", func := "lockgate/lockgatelaw14.InodePieces", spec := "inodePieces", apart := false, narrowed := true }
def InodePiecesUptoSaid : Prop := inodePiecesUptoRow.holds Try.pinned (OpenSpec.upto inodePiecesSpec)

/-- 'lockgatelaw14.InodeNeeds', WHERE WHAT IT READS IS OF BULK AT MOST 1048576: true; the input reads as it did. -/
def inodeNeedsUptoRow : OpenClaim := { program := "ytepmgcgpioljiaa", sum := "18efd5b55b66a88d86ca9bf7a6d1a539a6cf391f1c6050c17b7d94e5ab4e4c77", func := "lockgate/lockgatelaw14.InodeNeeds", spec := "inodeNeeds", apart := false, narrowed := true }
def InodeNeedsUptoSaid : Prop := inodeNeedsUptoRow.holds Try.pinned (OpenSpec.upto inodeNeedsSpec)

/-- 'lockgatelaw14.InodeJoins', WHERE WHAT IT READS IS OF BULK AT MOST 1048576: true; the input reads as it did. -/
def inodeJoinsUptoRow : OpenClaim := { program := "ytepmgcgpioljiaa", sum := "18efd5b55b66a88d86ca9bf7a6d1a539a6cf391f1c6050c17b7d94e5ab4e4c77", func := "lockgate/lockgatelaw14.InodeJoins", spec := "inodeJoins", apart := false, narrowed := true }
def InodeJoinsUptoSaid : Prop := inodeJoinsUptoRow.holds Try.pinned (OpenSpec.upto inodeJoinsSpec)

/-- 'lockgatelaw14.InodeCuts', WHERE WHAT IT READS IS OF BULK AT MOST 1048576: true; the input reads as it did. -/
def inodeCutsUptoRow : OpenClaim := { program := "ytepmgcgpioljiaa", sum := "18efd5b55b66a88d86ca9bf7a6d1a539a6cf391f1c6050c17b7d94e5ab4e4c77", func := "lockgate/lockgatelaw14.InodeCuts", spec := "inodeCuts", inPlace := ["internal/abi.NoEscape", "internal/bytealg.MakeNoZero"], apart := false, narrowed := true }
def InodeCutsUptoSaid : Prop := inodeCutsUptoRow.holds Try.pinned (OpenSpec.upto inodeCutsSpec)

/-- 'lockgatelaw14.InodeOne', WHERE WHAT IT READS IS OF BULK AT MOST 1048576: true; the input reads as it did. -/
def inodeOneUptoRow : OpenClaim := { program := "ytepmgcgpioljiaa", sum := "18efd5b55b66a88d86ca9bf7a6d1a539a6cf391f1c6050c17b7d94e5ab4e4c77", func := "lockgate/lockgatelaw14.InodeOne", spec := "inodeOne", unfollowed := true, recurses := true, apart := false, narrowed := true }
def InodeOneUptoSaid : Prop := inodeOneUptoRow.holds Try.pinned (OpenSpec.upto inodeOneSpec)

/-- 'lockgatelaw14.InodeReads', WHERE WHAT IT READS IS OF BULK AT MOST 1048576: true; the input reads as it did. -/
def inodeReadsUptoRow : OpenClaim := { program := "ytepmgcgpioljiaa", sum := "18efd5b55b66a88d86ca9bf7a6d1a539a6cf391f1c6050c17b7d94e5ab4e4c77", func := "lockgate/lockgatelaw14.InodeReads", spec := "inodeReads", unfollowed := true, recurses := true, apart := false, narrowed := true }
def InodeReadsUptoSaid : Prop := inodeReadsUptoRow.holds Try.pinned (OpenSpec.upto inodeReadsSpec)

/-- 'lockgatelaw14.InodeBytes', WHERE WHAT IT READS IS OF BULK AT MOST 1048576: true; the input reads as it did. -/
def inodeBytesUptoRow : OpenClaim := { program := "ytepmgcgpioljiaa", sum := "18efd5b55b66a88d86ca9bf7a6d1a539a6cf391f1c6050c17b7d94e5ab4e4c77", func := "lockgate/lockgatelaw14.InodeBytes", spec := "inodeBytes", unfollowed := true, recurses := true, apart := false, narrowed := true }
def InodeBytesUptoSaid : Prop := inodeBytesUptoRow.holds Try.pinned (OpenSpec.upto inodeBytesSpec)

end Rows
end Go.Proofs.Ytepmgcgpioljiaa
