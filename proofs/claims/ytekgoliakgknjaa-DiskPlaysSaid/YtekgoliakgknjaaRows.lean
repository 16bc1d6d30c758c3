/-
  No cell of these rows narrows 'for every input' (looked for: loops, veiled, ifaces, maps, wideKeys, modest, calm, conditions, laid).
  DERIVED. THE GIVEN ROWS OF THIS SEAT. 7 by the template 'for every input the law returns true; each argument reads behind the call as it read before'; 0 by the template 'total and deterministic' (their statements: YtekgoliakgknjaaTotals.lean).
  GIVEN WITH THE SEED: the statements are not yours to turn. If you find one false, say at which input.
  Laid BY PROGRAM, IN A SANDBOX (cutbox-rows.mjs): the forced cells as the released guide's own fill.sh prints them over the translation 3a15f97307dc503a… (all of the seat's roots in one cut). By AI agents, Wed Nov 11 2026. No macro, syntax, notation, axiom, sorry.
-/
import Derived.Test.YtekgoliakgknjaaChecked
import GoSem.Claim
import GoSem.ClaimJoined
import GoSem.ClaimMapViews
import Derived.JoinedTies
import Derived.KernelRfl
namespace Go.Proofs.Ytekgoliakgknjaa
/- THE CELL 'sum', in the pinned program and in every row, IS THE sha256 OF THE DUMP (.gsa) THAT YtekgoliakgknjaaProg.lean LOADS. Nothing in Lean hashes anything: it is a label: what it is worth is what the hold of that sum in a sandbox is worth. -/
noncomputable def Try.pinned : Pinned := { name := "ytekgoliakgknjaa", sum := "3a15f97307dc503aee6eeb51deee0dd2433b29de8f5f6dc19fb17f96e9ca7be2", checked := Try.checked }
namespace Rows
def none {H : Type} : Left H := { results := [], args := [] }

/-- 'lockgatelaw04.DiskApart': WHATEVER THE INPUT: true; the input reads as it did. -/
def diskApartSpec : ChangeSpec := { name := "diskApart", fn := fun _ => fun
  | [d1, d2] => { results := [.lit (.bool true)], args := [d1, d2] }
  | _ => none }
def diskApartRow : OpenClaim := { program := "ytekgoliakgknjaa", sum := "3a15f97307dc503aee6eeb51deee0dd2433b29de8f5f6dc19fb17f96e9ca7be2", func := "lockgate/lockgatelaw04.DiskApart", spec := "diskApart", inPlace := ["internal/abi.NoEscape", "internal/bytealg.MakeNoZero"], unfollowed := true, recurses := true, apart := false }
def DiskApartSaid : Prop := diskApartRow.holds Try.pinned (OpenSpec.ofChange diskApartSpec)

/-- ITS FALSE NEIGHBOUR: 'it returns false'. Refute it at one input. -/
def diskApartWrong : ChangeSpec := { name := "diskApart", fn := fun _ => fun
  | [d1, d2] => { results := [.lit (.bool false)], args := [d1, d2] }
  | _ => none }
def DiskApartWrongFalsely : Prop := diskApartRow.holds Try.pinned (OpenSpec.ofChange diskApartWrong)

/-- 'lockgatelaw04.DiskSwaps': WHATEVER THE INPUT: true; the input reads as it did. -/
def diskSwapsSpec : ChangeSpec := { name := "diskSwaps", fn := fun _ => fun
  | [d1, d2] => { results := [.lit (.bool true)], args := [d1, d2] }
  | _ => none }
def diskSwapsRow : OpenClaim := { program := "ytekgoliakgknjaa", sum := "3a15f97307dc503aee6eeb51deee0dd2433b29de8f5f6dc19fb17f96e9ca7be2", func := "lockgate/lockgatelaw04.DiskSwaps", spec := "diskSwaps", inPlace := ["internal/abi.NoEscape", "internal/bytealg.MakeNoZero"], unfollowed := true, recurses := true, apart := false }
def DiskSwapsSaid : Prop := diskSwapsRow.holds Try.pinned (OpenSpec.ofChange diskSwapsSpec)

/-- ITS FALSE NEIGHBOUR: 'it returns false'. Refute it at one input. -/
def diskSwapsWrong : ChangeSpec := { name := "diskSwaps", fn := fun _ => fun
  | [d1, d2] => { results := [.lit (.bool false)], args := [d1, d2] }
  | _ => none }
def DiskSwapsWrongFalsely : Prop := diskSwapsRow.holds Try.pinned (OpenSpec.ofChange diskSwapsWrong)

/-- 'lockgatelaw04.DiskFlushes': WHATEVER THE INPUT: true; the input reads as it did. -/
def diskFlushesSpec : ChangeSpec := { name := "diskFlushes", fn := fun _ => fun
  | [d1, d2] => { results := [.lit (.bool true)], args := [d1, d2] }
  | _ => none }
def diskFlushesRow : OpenClaim := { program := "ytekgoliakgknjaa", sum := "3a15f97307dc503aee6eeb51deee0dd2433b29de8f5f6dc19fb17f96e9ca7be2", func := "lockgate/lockgatelaw04.DiskFlushes", spec := "diskFlushes", inPlace := ["internal/abi.NoEscape", "internal/bytealg.MakeNoZero"], unfollowed := true, recurses := true, apart := false }
def DiskFlushesSaid : Prop := diskFlushesRow.holds Try.pinned (OpenSpec.ofChange diskFlushesSpec)

/-- ITS FALSE NEIGHBOUR: 'it returns false'. Refute it at one input. -/
def diskFlushesWrong : ChangeSpec := { name := "diskFlushes", fn := fun _ => fun
  | [d1, d2] => { results := [.lit (.bool false)], args := [d1, d2] }
  | _ => none }
def DiskFlushesWrongFalsely : Prop := diskFlushesRow.holds Try.pinned (OpenSpec.ofChange diskFlushesWrong)

/-- 'lockgatelaw04.DiskLoses': WHATEVER THE INPUT: true; the input reads as it did. -/
def diskLosesSpec : ChangeSpec := { name := "diskLoses", fn := fun _ => fun
  | [d1, d2] => { results := [.lit (.bool true)], args := [d1, d2] }
  | _ => none }
def diskLosesRow : OpenClaim := { program := "ytekgoliakgknjaa", sum := "3a15f97307dc503aee6eeb51deee0dd2433b29de8f5f6dc19fb17f96e9ca7be2", func := "lockgate/lockgatelaw04.DiskLoses", spec := "diskLoses", inPlace := ["internal/abi.NoEscape", "internal/bytealg.MakeNoZero"], unfollowed := true, recurses := true, apart := false }
def DiskLosesSaid : Prop := diskLosesRow.holds Try.pinned (OpenSpec.ofChange diskLosesSpec)

/-- ITS FALSE NEIGHBOUR: 'it returns false'. Refute it at one input. -/
def diskLosesWrong : ChangeSpec := { name := "diskLoses", fn := fun _ => fun
  | [d1, d2] => { results := [.lit (.bool false)], args := [d1, d2] }
  | _ => none }
def DiskLosesWrongFalsely : Prop := diskLosesRow.holds Try.pinned (OpenSpec.ofChange diskLosesWrong)

/-- 'lockgatelaw04.DiskFences': WHATEVER THE INPUT: true; the input reads as it did. -/
def diskFencesSpec : ChangeSpec := { name := "diskFences", fn := fun _ => fun
  | [d1, d2, d3] => { results := [.lit (.bool true)], args := [d1, d2, d3] }
  | _ => none }
def diskFencesRow : OpenClaim := { program := "ytekgoliakgknjaa", sum := "3a15f97307dc503aee6eeb51deee0dd2433b29de8f5f6dc19fb17f96e9ca7be2", func := "lockgate/lockgatelaw04.DiskFences", spec := "diskFences", inPlace := ["internal/abi.NoEscape", "internal/bytealg.MakeNoZero"], unfollowed := true, recurses := true, apart := false }
def DiskFencesSaid : Prop := diskFencesRow.holds Try.pinned (OpenSpec.ofChange diskFencesSpec)

/-- ITS FALSE NEIGHBOUR: 'it returns false'. Refute it at one input. -/
def diskFencesWrong : ChangeSpec := { name := "diskFences", fn := fun _ => fun
  | [d1, d2, d3] => { results := [.lit (.bool false)], args := [d1, d2, d3] }
  | _ => none }
def DiskFencesWrongFalsely : Prop := diskFencesRow.holds Try.pinned (OpenSpec.ofChange diskFencesWrong)

/-- 'lockgatelaw04.DiskPlays': WHATEVER THE INPUT: true; the input reads as it did. -/
def diskPlaysSpec : ChangeSpec := { name := "diskPlays", fn := fun _ => fun
  | [d1, d2] => { results := [.lit (.bool true)], args := [d1, d2] }
  | _ => none }
def diskPlaysRow : OpenClaim := { program := "ytekgoliakgknjaa", sum := "3a15f97307dc503aee6eeb51deee0dd2433b29de8f5f6dc19fb17f96e9ca7be2", func := "lockgate/lockgatelaw04.DiskPlays", spec := "diskPlays", inPlace := ["internal/abi.NoEscape", "internal/bytealg.MakeNoZero"], unfollowed := true, recurses := true, apart := false }
def DiskPlaysSaid : Prop := diskPlaysRow.holds Try.pinned (OpenSpec.ofChange diskPlaysSpec)

/-- ITS FALSE NEIGHBOUR: 'it returns false'. Refute it at one input. -/
def diskPlaysWrong : ChangeSpec := { name := "diskPlays", fn := fun _ => fun
  | [d1, d2] => { results := [.lit (.bool false)], args := [d1, d2] }
  | _ => none }
def DiskPlaysWrongFalsely : Prop := diskPlaysRow.holds Try.pinned (OpenSpec.ofChange diskPlaysWrong)

/-- 'lockgatelaw04.DiskNil': WHATEVER THE INPUT: true; the input reads as it did. -/
def diskNilSpec : ChangeSpec := { name := "diskNil", fn := fun _ => fun
  | [d] => { results := [.lit (.bool true)], args := [d] }
  | _ => none }
def diskNilRow : OpenClaim := { program := "ytekgoliakgknjaa", sum := "3a15f97307dc503aee6eeb51deee0dd2433b29de8f5f6dc19fb17f96e9ca7be2", func := "lockgate/lockgatelaw04.DiskNil", spec := "diskNil", inPlace := ["internal/abi.NoEscape", "internal/bytealg.MakeNoZero"], unfollowed := true, recurses := true, apart := false }
def DiskNilSaid : Prop := diskNilRow.holds Try.pinned (OpenSpec.ofChange diskNilSpec)

/-- ITS FALSE NEIGHBOUR: 'it returns false'. Refute it at one input. -/
def diskNilWrong : ChangeSpec := { name := "diskNil", fn := fun _ => fun
  | [d] => { results := [.lit (.bool false)], args := [d] }
  | _ => none }
def DiskNilWrongFalsely : Prop := diskNilRow.holds Try.pinned (OpenSpec.ofChange diskNilWrong)

/- THE SECOND FORM. 'bulk': how many values and letters a reading holds, each counted each time it is reached (what is shared counts as often as it is met; a slice's spare places count too). A statement '..UptoSaid' is the law's where the arguments, and the package variables that the reading takes, are together of bulk at most 1048576: NARROWER than '..Said'. Prove '..Said' where nothing that the law and all that it calls make is longer than what came in: it says more and counts as full. Else prove '..UptoSaid'. A law counts once. -/
mutual
def uptoBulk {H : Type} : DataW H → Nat
  | .lit (.string bytes) => bytes.length + 1
  | .lit _ => 1
  | .nil => 1
  | .ptr d => uptoBulk d + 1
  | .slice elems spare => uptoBulkAll elems + uptoBulkAll spare + 1
  | .agg parts => uptoBulkAll parts + 1
  | .iface _ d => uptoBulk d + 1
  | .map entries => uptoBulkEntries entries + 1
  | .held _ => 1
def uptoBulkAll {H : Type} : List (DataW H) → Nat
  | [] => 0
  | d :: r => uptoBulk d + uptoBulkAll r
def uptoBulkEntries {H : Type} : List (Lit × DataW H) → Nat
  | [] => 0
  | x :: r => uptoBulkEntry x + uptoBulkEntries r
def uptoBulkEntry {H : Type} : Lit × DataW H → Nat
  | (.string bytes, d) => bytes.length + uptoBulk d + 1
  | (_, d) => uptoBulk d + 1
 end
def uptoSmall : (H : Type) → List (DataW H) → Bool := fun _ ds => decide (uptoBulkAll ds ≤ 1048576)
def OpenSpec.upto (s : _root_.Go.ChangeSpec) : _root_.Go.OpenSpec := { _root_.Go.OpenSpec.ofChange s with cond := some uptoSmall }

/-- 'lockgatelaw04.DiskApart', WHERE WHAT IT READS IS OF BULK AT MOST 1048576: true; the input reads as it did. -/
def diskApartUptoRow : OpenClaim := { program := "ytekgoliakgknjaa", sum := "3a15f97307dc503aee6eeb51deee0dd2433b29de8f5f6dc19fb17f96e9ca7be2", func := "lockgate/lockgatelaw04.DiskApart", spec := "diskApart", inPlace := ["internal/abi.NoEscape", "internal/bytealg.MakeNoZero"], unfollowed := true, recurses := true, apart := false, narrowed := true }
def DiskApartUptoSaid : Prop := diskApartUptoRow.holds Try.pinned (OpenSpec.upto diskApartSpec)

/-- 'lockgatelaw04.DiskSwaps', WHERE WHAT IT READS IS OF BULK AT MOST 1048576: true; the input reads as it did. -/
def diskSwapsUptoRow : OpenClaim := { program := "ytekgoliakgknjaa", sum := "3a15f97307dc503aee6eeb51deee0dd2433b29de8f5f6dc19fb17f96e9ca7be2", func := "lockgate/lockgatelaw04.DiskSwaps", spec := "diskSwaps", inPlace := ["internal/abi.NoEscape", "internal/bytealg.MakeNoZero"], unfollowed := true, recurses := true, apart := false, narrowed := true }
def DiskSwapsUptoSaid : Prop := diskSwapsUptoRow.holds Try.pinned (OpenSpec.upto diskSwapsSpec)

/-- 'lockgatelaw04.DiskFlushes', WHERE WHAT IT READS IS OF BULK AT MOST 1048576: true; the input reads as it did. -/
def diskFlushesUptoRow : OpenClaim := { program := "ytekgoliakgknjaa", sum := "3a15f97307dc503aee6eeb51deee0dd2433b29de8f5f6dc19fb17f96e9ca7be2", func := "lockgate/lockgatelaw04.DiskFlushes", spec := "diskFlushes", inPlace := ["internal/abi.NoEscape", "internal/bytealg.MakeNoZero"], unfollowed := true, recurses := true, apart := false, narrowed := true }
def DiskFlushesUptoSaid : Prop := diskFlushesUptoRow.holds Try.pinned (OpenSpec.upto diskFlushesSpec)

/-- 'lockgatelaw04.DiskLoses', WHERE WHAT IT READS IS OF BULK AT MOST 1048576: true; the input reads as it did. -/
def diskLosesUptoRow : OpenClaim := { program := "ytekgoliakgknjaa", sum := "3a15f97307dc503aee6eeb51deee0dd2433b29de8f5f6dc19fb17f96e9ca7be2", func := "lockgate/lockgatelaw04.DiskLoses", spec := "diskLoses", inPlace := ["internal/abi.NoEscape", "internal/bytealg.MakeNoZero"], unfollowed := true, recurses := true, apart := false, narrowed := true }
def DiskLosesUptoSaid : Prop := diskLosesUptoRow.holds Try.pinned (OpenSpec.upto diskLosesSpec)

/-- 'lockgatelaw04.DiskFences', WHERE WHAT IT READS IS OF BULK AT MOST 1048576: true; the input reads as it did. -/
def diskFencesUptoRow : OpenClaim := { program := "ytekgoliakgknjaa", sum := "3a15f97307dc503aee6eeb51deee0dd2433b29de8f5f6dc19fb17f96e9ca7be2", func := "lockgate/lockgatelaw04.DiskFences", spec := "diskFences", inPlace := ["internal/abi.NoEscape", "internal/bytealg.MakeNoZero"], unfollowed := true, recurses := true, apart := false, narrowed := true }
def DiskFencesUptoSaid : Prop := diskFencesUptoRow.holds Try.pinned (OpenSpec.upto diskFencesSpec)

/-- 'lockgatelaw04.DiskPlays', WHERE WHAT IT READS IS OF BULK AT MOST 1048576: true; the input reads as it did. -/
def diskPlaysUptoRow : OpenClaim := { program := "ytekgoliakgknjaa", sum := "3a15f97307dc503aee6eeb51deee0dd2433b29de8f5f6dc19fb17f96e9ca7be2", func := "lockgate/lockgatelaw04.DiskPlays", spec := "diskPlays", inPlace := ["internal/abi.NoEscape", "internal/bytealg.MakeNoZero"], unfollowed := true, recurses := true, apart := false, narrowed := true }
def DiskPlaysUptoSaid : Prop := diskPlaysUptoRow.holds Try.pinned (OpenSpec.upto diskPlaysSpec)

/-- 'lockgatelaw04.DiskNil', WHERE WHAT IT READS IS OF BULK AT MOST 1048576: true; the input reads as it did. -/
def diskNilUptoRow : OpenClaim := { program := "ytekgoliakgknjaa", sum := "3a15f97307dc503aee6eeb51deee0dd2433b29de8f5f6dc19fb17f96e9ca7be2", func := "lockgate/lockgatelaw04.DiskNil", spec := "diskNil", inPlace := ["internal/abi.NoEscape", "internal/bytealg.MakeNoZero"], unfollowed := true, recurses := true, apart := false, narrowed := true }
def DiskNilUptoSaid : Prop := diskNilUptoRow.holds Try.pinned (OpenSpec.upto diskNilSpec)

end Rows
end Go.Proofs.Ytekgoliakgknjaa
