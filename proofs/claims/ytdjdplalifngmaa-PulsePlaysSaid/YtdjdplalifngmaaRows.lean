/-
  No cell of these rows narrows 'for every input' (looked for: loops, veiled, ifaces, maps, wideKeys, modest, calm, conditions, laid).
  DERIVED. THE GIVEN ROWS OF THIS SEAT. 5 by the template 'for every input the law returns true; each argument reads behind the call as it read before'; 0 by the template 'total and deterministic' (their statements: YtdjdplalifngmaaTotals.lean).
  GIVEN WITH THE SEED: the statements are not yours to turn. If you find one false, say at which input.
  Laid BY PROGRAM, IN A SANDBOX (cutbox-rows.mjs): the forced cells as the released guide's own fill.sh prints them over the translation c668fbcd3dcb8595… (all of the seat's roots in one cut). By AI agents, Wed Nov 11 2026. No macro, syntax, notation, axiom, sorry.
-/
import Derived.Test.YtdjdplalifngmaaChecked
import GoSem.Claim
import GoSem.ClaimJoined
import GoSem.ClaimMapViews
import Derived.JoinedTies
import Derived.KernelRfl
namespace Go.Proofs.Ytdjdplalifngmaa
/- THE CELL 'sum', in the pinned program and in every row, IS THE sha256 OF THE DUMP (.gsa) THAT YtdjdplalifngmaaProg.lean LOADS. Nothing in Lean hashes anything: it is a label: what it is worth is what the hold of that sum in a sandbox is worth. -/
noncomputable def Try.pinned : Pinned := { name := "ytdjdplalifngmaa", sum := "c668fbcd3dcb85956b4aff556f640ad883233cec78b25424e449733e5630ae0d", checked := Try.checked }
namespace Rows
def none {H : Type} : Left H := { results := [], args := [] }

/-- 'lockgatelaw07.PulseLasts': WHATEVER THE INPUT: true; the input reads as it did. -/
def pulseLastsSpec : ChangeSpec := { name := "pulseLasts", fn := fun _ => fun
  | [d1, d2, d3] => { results := [.lit (.bool true)], args := [d1, d2, d3] }
  | _ => none }
def pulseLastsRow : OpenClaim := { program := "ytdjdplalifngmaa", sum := "c668fbcd3dcb85956b4aff556f640ad883233cec78b25424e449733e5630ae0d", func := "lockgate/lockgatelaw07.PulseLasts", spec := "pulseLasts", unfollowed := true, recurses := true, apart := false }
def PulseLastsSaid : Prop := pulseLastsRow.holds Try.pinned (OpenSpec.ofChange pulseLastsSpec)

/-- ITS FALSE NEIGHBOUR: 'it returns false'. Refute it at one input. -/
def pulseLastsWrong : ChangeSpec := { name := "pulseLasts", fn := fun _ => fun
  | [d1, d2, d3] => { results := [.lit (.bool false)], args := [d1, d2, d3] }
  | _ => none }
def PulseLastsWrongFalsely : Prop := pulseLastsRow.holds Try.pinned (OpenSpec.ofChange pulseLastsWrong)

/-- 'lockgatelaw07.PulseApart': WHATEVER THE INPUT: true; the input reads as it did. -/
def pulseApartSpec : ChangeSpec := { name := "pulseApart", fn := fun _ => fun
  | [d] => { results := [.lit (.bool true)], args := [d] }
  | _ => none }
def pulseApartRow : OpenClaim := { program := "ytdjdplalifngmaa", sum := "c668fbcd3dcb85956b4aff556f640ad883233cec78b25424e449733e5630ae0d", func := "lockgate/lockgatelaw07.PulseApart", spec := "pulseApart", unfollowed := true, recurses := true, apart := false }
def PulseApartSaid : Prop := pulseApartRow.holds Try.pinned (OpenSpec.ofChange pulseApartSpec)

/-- ITS FALSE NEIGHBOUR: 'it returns false'. Refute it at one input. -/
def pulseApartWrong : ChangeSpec := { name := "pulseApart", fn := fun _ => fun
  | [d] => { results := [.lit (.bool false)], args := [d] }
  | _ => none }
def PulseApartWrongFalsely : Prop := pulseApartRow.holds Try.pinned (OpenSpec.ofChange pulseApartWrong)

/-- 'lockgatelaw07.PulsePlays': WHATEVER THE INPUT: true; the input reads as it did. -/
def pulsePlaysSpec : ChangeSpec := { name := "pulsePlays", fn := fun _ => fun
  | [d1, d2] => { results := [.lit (.bool true)], args := [d1, d2] }
  | _ => none }
def pulsePlaysRow : OpenClaim := { program := "ytdjdplalifngmaa", sum := "c668fbcd3dcb85956b4aff556f640ad883233cec78b25424e449733e5630ae0d", func := "lockgate/lockgatelaw07.PulsePlays", spec := "pulsePlays", unfollowed := true, recurses := true, apart := false }
def PulsePlaysSaid : Prop := pulsePlaysRow.holds Try.pinned (OpenSpec.ofChange pulsePlaysSpec)

/-- ITS FALSE NEIGHBOUR: 'it returns false'. Refute it at one input. -/
def pulsePlaysWrong : ChangeSpec := { name := "pulsePlays", fn := fun _ => fun
  | [d1, d2] => { results := [.lit (.bool false)], args := [d1, d2] }
  | _ => none }
def PulsePlaysWrongFalsely : Prop := pulsePlaysRow.holds Try.pinned (OpenSpec.ofChange pulsePlaysWrong)

/-- 'lockgatelaw07.PulseNil': WHATEVER THE INPUT: true; the input reads as it did. -/
def pulseNilSpec : ChangeSpec := { name := "pulseNil", fn := fun _ => fun
  | [d] => { results := [.lit (.bool true)], args := [d] }
  | _ => none }
def pulseNilRow : OpenClaim := { program := "ytdjdplalifngmaa", sum := "c668fbcd3dcb85956b4aff556f640ad883233cec78b25424e449733e5630ae0d", func := "lockgate/lockgatelaw07.PulseNil", spec := "pulseNil", unfollowed := true, recurses := true, apart := false }
def PulseNilSaid : Prop := pulseNilRow.holds Try.pinned (OpenSpec.ofChange pulseNilSpec)

/-- ITS FALSE NEIGHBOUR: 'it returns false'. Refute it at one input. -/
def pulseNilWrong : ChangeSpec := { name := "pulseNil", fn := fun _ => fun
  | [d] => { results := [.lit (.bool false)], args := [d] }
  | _ => none }
def PulseNilWrongFalsely : Prop := pulseNilRow.holds Try.pinned (OpenSpec.ofChange pulseNilWrong)

/-- 'lockgatelaw07.PulseCounts': WHATEVER THE INPUT: true; the input reads as it did. -/
def pulseCountsSpec : ChangeSpec := { name := "pulseCounts", fn := fun _ => fun
  | [d1, d2, d3] => { results := [.lit (.bool true)], args := [d1, d2, d3] }
  | _ => none }
def pulseCountsRow : OpenClaim := { program := "ytdjdplalifngmaa", sum := "c668fbcd3dcb85956b4aff556f640ad883233cec78b25424e449733e5630ae0d", func := "lockgate/lockgatelaw07.PulseCounts", spec := "pulseCounts", unfollowed := true, recurses := true, apart := false }
def PulseCountsSaid : Prop := pulseCountsRow.holds Try.pinned (OpenSpec.ofChange pulseCountsSpec)

/-- ITS FALSE NEIGHBOUR: 'it returns false'. Refute it at one input. -/
def pulseCountsWrong : ChangeSpec := { name := "pulseCounts", fn := fun _ => fun
  | [d1, d2, d3] => { results := [.lit (.bool false)], args := [d1, d2, d3] }
  | _ => none }
def PulseCountsWrongFalsely : Prop := pulseCountsRow.holds Try.pinned (OpenSpec.ofChange pulseCountsWrong)

/- THE SECOND FORM. 'bulk': how many values and letters a reading holds, each counted each time it is reached (what is shared counts as often as it is met; a slice's spare places count too). A statement '..UptoSaid' is the law's where the arguments, and the package variables that the reading takes, are together of bulk at most 1048576: NARROWER than '..Said'. Prove '..Said' where nothing that the law and all that it calls make is longer than what came in: it says more and counts as full. Else prove '..UptoSaid'. A law counts once. -/
mutual
def uptoBulk {H : Type} : DataW H → Nat
  | .lit (.string bytes) => bytes.length + 1
  | .lit _ => 1
  | .nil => 1
  | .ptr d => uptoBulk d + 1
  | .slice elems spare => uptoBulkAll elems + uptoBulkAll spare + 1
  | .agg parts => uptoBulkAll parts + 1
  | .iface _ d => uptoBulk d + 1
  | .map entries => uptoBulkEntries entries + 1
  | .held _ => 1
def uptoBulkAll {H : Type} : List (DataW H) → Nat
  | [] => 0
  | d :: r => uptoBulk d + uptoBulkAll r
def uptoBulkEntries {H : Type} : List (Lit × DataW H) → Nat
  | [] => 0
  | x :: r => uptoBulkEntry x + uptoBulkEntries r
def uptoBulkEntry {H : Type} : Lit × DataW H → Nat
  | (.string bytes, d) => bytes.length + uptoBulk d + 1
  | (_, d) => uptoBulk d + 1
 end
def uptoSmall : (H : Type) → List (DataW H) → Bool := fun _ ds => decide (uptoBulkAll ds ≤ 1048576)
def OpenSpec.upto (s : _root_.Go.ChangeSpec) : _root_.Go.OpenSpec := { _root_.Go.OpenSpec.ofChange s with cond := some uptoSmall }

/-- 'lockgatelaw07.PulseLasts', WHERE WHAT IT READS IS OF BULK AT MOST 1048576: true; the input reads as it did. -/
def pulseLastsUptoRow : OpenClaim := { program := "ytdjdplalifngmaa", sum := "c668fbcd3dcb85956b4aff556f640ad883233cec78b25424e449733e5630ae0d", func := "lockgate/lockgatelaw07.PulseLasts", spec := "pulseLasts", unfollowed := true, recurses := true, apart := false, narrowed := true }
def PulseLastsUptoSaid : Prop := pulseLastsUptoRow.holds Try.pinned (OpenSpec.upto pulseLastsSpec)

/-- 'lockgatelaw07.PulseApart', WHERE WHAT IT READS IS OF BULK AT MOST 1048576: true; the input reads as it did. -/
def pulseApartUptoRow : OpenClaim := { program := "ytdjdplalifngmaa", sum := "c668fbcd3dcb85956b4aff556f640ad883233cec78b25424e449733e5630ae0d", func := "lockgate/lockgatelaw07.PulseApart", spec := "pulseApart", unfollowed := true, recurses := true, apart := false, narrowed := true }
def PulseApartUptoSaid : Prop := pulseApartUptoRow.holds Try.pinned (OpenSpec.upto pulseApartSpec)

/-- 'lockgatelaw07.PulsePlays', WHERE WHAT IT READS IS OF BULK AT MOST 1048576: true; the input reads as it did. -/
def pulsePlaysUptoRow : OpenClaim := { program := "ytdjdplalifngmaa", sum := "c668fbcd3dcb85956b4aff556f640ad883233cec78b25424e449733e5630ae0d", func := "lockgate/lockgatelaw07.PulsePlays", spec := "pulsePlays", unfollowed := true, recurses := true, apart := false, narrowed := true }
def PulsePlaysUptoSaid : Prop := pulsePlaysUptoRow.holds Try.pinned (OpenSpec.upto pulsePlaysSpec)

/-- 'lockgatelaw07.PulseNil', WHERE WHAT IT READS IS OF BULK AT MOST 1048576: true; the input reads as it did. -/
def pulseNilUptoRow : OpenClaim := { program := "ytdjdplalifngmaa", sum := "c668fbcd3dcb85956b4aff556f640ad883233cec78b25424e449733e5630ae0d", func := "lockgate/lockgatelaw07.PulseNil", spec := "pulseNil", unfollowed := true, recurses := true, apart := false, narrowed := true }
def PulseNilUptoSaid : Prop := pulseNilUptoRow.holds Try.pinned (OpenSpec.upto pulseNilSpec)

/-- 'lockgatelaw07.PulseCounts', WHERE WHAT IT READS IS OF BULK AT MOST 1048576: true; the input reads as it did. -/
def pulseCountsUptoRow : OpenClaim := { program := "ytdjdplalifngmaa", sum := "c668fbcd3dcb85956b4aff556f640ad883233cec78b25424e449733e5630ae0d", func := "lockgate/lockgatelaw07.PulseCounts", spec := "pulseCounts", unfollowed := true, recurses := true, apart := false, narrowed := true }
def PulseCountsUptoSaid : Prop := pulseCountsUptoRow.holds Try.pinned (OpenSpec.upto pulseCountsSpec)

end Rows
end Go.Proofs.Ytdjdplalifngmaa
