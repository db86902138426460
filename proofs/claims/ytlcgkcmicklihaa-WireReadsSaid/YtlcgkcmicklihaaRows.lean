/-
  No cell of these rows narrows 'for every input' (looked for: loops, veiled, ifaces, maps, wideKeys, modest, calm, conditions, laid).
  DERIVED. THE GIVEN ROWS OF THIS SEAT. 7 by the template 'for every input the law returns true; each argument reads behind the call as it read before'; 0 by the template 'total and deterministic' (their statements: YtlcgkcmicklihaaTotals.lean).
  GIVEN WITH THE SEED: the statements are not yours to turn. If you find one false, say at which input.
  Laid BY PROGRAM, IN A SANDBOX (cutbox-rows.mjs): the forced cells as the released guide's own fill.sh prints them over the translation 7e2011347be12836… (all of the seat's roots in one cut). By AI agents, Wed Nov 11 2026. No macro, syntax, notation, axiom, sorry.
-/
import Derived.Test.YtlcgkcmicklihaaChecked
import GoSem.Claim
import GoSem.ClaimJoined
import GoSem.ClaimMapViews
import Derived.JoinedTies
import Derived.KernelRfl
namespace Go.Proofs.Ytlcgkcmicklihaa
/- THE CELL 'sum', in the pinned program and in every row, IS THE sha256 OF THE DUMP (.gsa) THAT YtlcgkcmicklihaaProg.lean LOADS. Nothing in Lean hashes anything: it is a label: what it is worth is what the hold of that sum in a sandbox is worth. -/
noncomputable def Try.pinned : Pinned := { name := "ytlcgkcmicklihaa", sum := "7e2011347be128360ad516e050098b395574e5a77c57316ec19b4cf0bc8e17a0", checked := Try.checked }
namespace Rows
def none {H : Type} : Left H := { results := [], args := [] }

/-- 'lintellaw10.WireMsgs': WHATEVER THE INPUT: true; the input reads as it did. -/
def wireMsgsSpec : ChangeSpec := { name := "wireMsgs", fn := fun _ => fun
  | [d] => { results := [.lit (.bool true)], args := [d] }
  | _ => none }
def wireMsgsRow : OpenClaim := { program := "ytlcgkcmicklihaa", sum := "7e2011347be128360ad516e050098b395574e5a77c57316ec19b4cf0bc8e17a0", func := "lintel/lintellaw10.WireMsgs", spec := "wireMsgs", unfollowed := true, recurses := true, apart := false }
def WireMsgsSaid : Prop := wireMsgsRow.holds Try.pinned (OpenSpec.ofChange wireMsgsSpec)

/-- ITS FALSE NEIGHBOUR: 'it returns false'. Refute it at one input. -/
def wireMsgsWrong : ChangeSpec := { name := "wireMsgs", fn := fun _ => fun
  | [d] => { results := [.lit (.bool false)], args := [d] }
  | _ => none }
def WireMsgsWrongFalsely : Prop := wireMsgsRow.holds Try.pinned (OpenSpec.ofChange wireMsgsWrong)

/-- 'lintellaw10.WireCuts': WHATEVER THE INPUT: true; the input reads as it did. -/
def wireCutsSpec : ChangeSpec := { name := "wireCuts", fn := fun _ => fun
  | [d1, d2, d3, d4] => { results := [.lit (.bool true)], args := [d1, d2, d3, d4] }
  | _ => none }
def wireCutsRow : OpenClaim := { program := "ytlcgkcmicklihaa", sum := "7e2011347be128360ad516e050098b395574e5a77c57316ec19b4cf0bc8e17a0", func := "lintel/lintellaw10.WireCuts", spec := "wireCuts", unfollowed := true, recurses := true, apart := false }
def WireCutsSaid : Prop := wireCutsRow.holds Try.pinned (OpenSpec.ofChange wireCutsSpec)

/-- ITS FALSE NEIGHBOUR: 'it returns false'. Refute it at one input. -/
def wireCutsWrong : ChangeSpec := { name := "wireCuts", fn := fun _ => fun
  | [d1, d2, d3, d4] => { results := [.lit (.bool false)], args := [d1, d2, d3, d4] }
  | _ => none }
def WireCutsWrongFalsely : Prop := wireCutsRow.holds Try.pinned (OpenSpec.ofChange wireCutsWrong)

/-- 'lintellaw10.WireDeltas': WHATEVER THE INPUT: true; the input reads as it did. -/
def wireDeltasSpec : ChangeSpec := { name := "wireDeltas", fn := fun _ => fun
  | [d] => { results := [.lit (.bool true)], args := [d] }
  | _ => none }
def wireDeltasRow : OpenClaim := { program := "ytlcgkcmicklihaa", sum := "7e2011347be128360ad516e050098b395574e5a77c57316ec19b4cf0bc8e17a0", func := "lintel/lintellaw10.WireDeltas", spec := "wireDeltas", unfollowed := true, recurses := true, apart := false }
def WireDeltasSaid : Prop := wireDeltasRow.holds Try.pinned (OpenSpec.ofChange wireDeltasSpec)

/-- ITS FALSE NEIGHBOUR: 'it returns false'. Refute it at one input. -/
def wireDeltasWrong : ChangeSpec := { name := "wireDeltas", fn := fun _ => fun
  | [d] => { results := [.lit (.bool false)], args := [d] }
  | _ => none }
def WireDeltasWrongFalsely : Prop := wireDeltasRow.holds Try.pinned (OpenSpec.ofChange wireDeltasWrong)

/-- 'lintellaw10.WireRanges': WHATEVER THE INPUT: true; the input reads as it did. -/
def wireRangesSpec : ChangeSpec := { name := "wireRanges", fn := fun _ => fun
  | [d] => { results := [.lit (.bool true)], args := [d] }
  | _ => none }
def wireRangesRow : OpenClaim := { program := "ytlcgkcmicklihaa", sum := "7e2011347be128360ad516e050098b395574e5a77c57316ec19b4cf0bc8e17a0", func := "lintel/lintellaw10.WireRanges", spec := "wireRanges", unfollowed := true, recurses := true, apart := false }
def WireRangesSaid : Prop := wireRangesRow.holds Try.pinned (OpenSpec.ofChange wireRangesSpec)

/-- ITS FALSE NEIGHBOUR: 'it returns false'. Refute it at one input. -/
def wireRangesWrong : ChangeSpec := { name := "wireRanges", fn := fun _ => fun
  | [d] => { results := [.lit (.bool false)], args := [d] }
  | _ => none }
def WireRangesWrongFalsely : Prop := wireRangesRow.holds Try.pinned (OpenSpec.ofChange wireRangesWrong)

/-- 'lintellaw10.WireCommands': WHATEVER THE INPUT: true; the input reads as it did. -/
def wireCommandsSpec : ChangeSpec := { name := "wireCommands", fn := fun _ => fun
  | [d] => { results := [.lit (.bool true)], args := [d] }
  | _ => none }
def wireCommandsRow : OpenClaim := { program := "ytlcgkcmicklihaa", sum := "7e2011347be128360ad516e050098b395574e5a77c57316ec19b4cf0bc8e17a0", func := "lintel/lintellaw10.WireCommands", spec := "wireCommands", unfollowed := true, recurses := true, apart := false }
def WireCommandsSaid : Prop := wireCommandsRow.holds Try.pinned (OpenSpec.ofChange wireCommandsSpec)

/-- ITS FALSE NEIGHBOUR: 'it returns false'. Refute it at one input. -/
def wireCommandsWrong : ChangeSpec := { name := "wireCommands", fn := fun _ => fun
  | [d] => { results := [.lit (.bool false)], args := [d] }
  | _ => none }
def WireCommandsWrongFalsely : Prop := wireCommandsRow.holds Try.pinned (OpenSpec.ofChange wireCommandsWrong)

/-- 'lintellaw10.WirePlans': WHATEVER THE INPUT: true; the input reads as it did. -/
def wirePlansSpec : ChangeSpec := { name := "wirePlans", fn := fun _ => fun
  | [d] => { results := [.lit (.bool true)], args := [d] }
  | _ => none }
def wirePlansRow : OpenClaim := { program := "ytlcgkcmicklihaa", sum := "7e2011347be128360ad516e050098b395574e5a77c57316ec19b4cf0bc8e17a0", func := "lintel/lintellaw10.WirePlans", spec := "wirePlans", unfollowed := true, recurses := true, apart := false }
def WirePlansSaid : Prop := wirePlansRow.holds Try.pinned (OpenSpec.ofChange wirePlansSpec)

/-- ITS FALSE NEIGHBOUR: 'it returns false'. Refute it at one input. -/
def wirePlansWrong : ChangeSpec := { name := "wirePlans", fn := fun _ => fun
  | [d] => { results := [.lit (.bool false)], args := [d] }
  | _ => none }
def WirePlansWrongFalsely : Prop := wirePlansRow.holds Try.pinned (OpenSpec.ofChange wirePlansWrong)

/-- 'lintellaw10.WireReads': WHATEVER THE INPUT: true; the input reads as it did. -/
def wireReadsSpec : ChangeSpec := { name := "wireReads", fn := fun _ => fun
  | [d] => { results := [.lit (.bool true)], args := [d] }
  | _ => none }
def wireReadsRow : OpenClaim := { program := "ytlcgkcmicklihaa", sum := "7e2011347be128360ad516e050098b395574e5a77c57316ec19b4cf0bc8e17a0", func := "lintel/lintellaw10.WireReads", spec := "wireReads", unfollowed := true, recurses := true, apart := false }
def WireReadsSaid : Prop := wireReadsRow.holds Try.pinned (OpenSpec.ofChange wireReadsSpec)

/-- ITS FALSE NEIGHBOUR: 'it returns false'. Refute it at one input. -/
def wireReadsWrong : ChangeSpec := { name := "wireReads", fn := fun _ => fun
  | [d] => { results := [.lit (.bool false)], args := [d] }
  | _ => none }
def WireReadsWrongFalsely : Prop := wireReadsRow.holds Try.pinned (OpenSpec.ofChange wireReadsWrong)

/- THE SECOND FORM. 'bulk': how many values and letters a reading holds, each counted each time it is reached (what is shared counts as often as it is met; a slice's spare places count too). A statement '..UptoSaid' is the law's where the arguments, and the package variables that the reading takes, are together of bulk at most 1048576: NARROWER than '..Said'. Prove '..Said' where nothing that the law and all that it calls make is longer than what came in: it says more and counts as full. Else prove '..UptoSaid'. A law counts once. -/
mutual
def uptoBulk {H : Type} : DataW H → Nat
  | .lit (.string bytes) => bytes.length + 1
  | .lit _ => 1
  | .nil => 1
  | .ptr d => uptoBulk d + 1
  | .slice elems spare => uptoBulkAll elems + uptoBulkAll spare + 1
  | .agg parts => uptoBulkAll parts + 1
  | .iface _ d => uptoBulk d + 1
  | .map entries => uptoBulkEntries entries + 1
  | .held _ => 1
def uptoBulkAll {H : Type} : List (DataW H) → Nat
  | [] => 0
  | d :: r => uptoBulk d + uptoBulkAll r
def uptoBulkEntries {H : Type} : List (Lit × DataW H) → Nat
  | [] => 0
  | x :: r => uptoBulkEntry x + uptoBulkEntries r
def uptoBulkEntry {H : Type} : Lit × DataW H → Nat
  | (.string bytes, d) => bytes.length + uptoBulk d + 1
  | (_, d) => uptoBulk d + 1
 end
def uptoSmall : (H : Type) → List (DataW H) → Bool := fun _ ds => decide (uptoBulkAll ds ≤ 1048576)
def OpenSpec.upto (s : _root_.Go.ChangeSpec) : _root_.Go.OpenSpec := { _root_.Go.OpenSpec.ofChange s with cond := some uptoSmall }

/-- 'lintellaw10.WireMsgs', WHERE WHAT IT READS IS OF BULK AT MOST 1048576: true; the input reads as it did. -/
def wireMsgsUptoRow : OpenClaim := { program := "ytlcgkcmicklihaa", sum := "7e2011347be128360ad516e050098b395574e5a77c57316ec19b4cf0bc8e17a0", func := "lintel/lintellaw10.WireMsgs", spec := "wireMsgs", unfollowed := true, recurses := true, apart := false, narrowed := true }
def WireMsgsUptoSaid : Prop := wireMsgsUptoRow.holds Try.pinned (OpenSpec.upto wireMsgsSpec)

/-- 'lintellaw10.WireCuts', WHERE WHAT IT READS IS OF BULK AT MOST 1048576: true; the input reads as it did. -/
def wireCutsUptoRow : OpenClaim := { program := "ytlcgkcmicklihaa", sum := "7e2011347be128360ad516e050098b395574e5a77c57316ec19b4cf0bc8e17a0", func := "lintel/lintellaw10.WireCuts", spec := "wireCuts", unfollowed := true, recurses := true, apart := false, narrowed := true }
def WireCutsUptoSaid : Prop := wireCutsUptoRow.holds Try.pinned (OpenSpec.upto wireCutsSpec)

/-- 'lintellaw10.WireDeltas', WHERE WHAT IT READS IS OF BULK AT MOST 1048576: true; the input reads as it did. -/
def wireDeltasUptoRow : OpenClaim := { program := "ytlcgkcmicklihaa", sum := "7e2011347be128360ad516e050098b395574e5a77c57316ec19b4cf0bc8e17a0", func := "lintel/lintellaw10.WireDeltas", spec := "wireDeltas", unfollowed := true, recurses := true, apart := false, narrowed := true }
def WireDeltasUptoSaid : Prop := wireDeltasUptoRow.holds Try.pinned (OpenSpec.upto wireDeltasSpec)

/-- 'lintellaw10.WireRanges', WHERE WHAT IT READS IS OF BULK AT MOST 1048576: true; the input reads as it did. -/
def wireRangesUptoRow : OpenClaim := { program := "ytlcgkcmicklihaa", sum := "7e2011347be128360ad516e050098b395574e5a77c57316ec19b4cf0bc8e17a0", func := "lintel/lintellaw10.WireRanges", spec := "wireRanges", unfollowed := true, recurses := true, apart := false, narrowed := true }
def WireRangesUptoSaid : Prop := wireRangesUptoRow.holds Try.pinned (OpenSpec.upto wireRangesSpec)

/-- 'lintellaw10.WireCommands', WHERE WHAT IT READS IS OF BULK AT MOST 1048576: true; the input reads as it did. -/
def wireCommandsUptoRow : OpenClaim := { program := "ytlcgkcmicklihaa", sum := "7e2011347be128360ad516e050098b395574e5a77c57316ec19b4cf0bc8e17a0", func := "lintel/lintellaw10.WireCommands", spec := "wireCommands", unfollowed := true, recurses := true, apart := false, narrowed := true }
def WireCommandsUptoSaid : Prop := wireCommandsUptoRow.holds Try.pinned (OpenSpec.upto wireCommandsSpec)

/-- 'lintellaw10.WirePlans', WHERE WHAT IT READS IS OF BULK AT MOST 1048576: true; the input reads as it did. -/
def wirePlansUptoRow : OpenClaim := { program := "ytlcgkcmicklihaa", sum := "7e2011347be128360ad516e050098b395574e5a77c57316ec19b4cf0bc8e17a0", func := "lintel/lintellaw10.WirePlans", spec := "wirePlans", unfollowed := true, recurses := true, apart := false, narrowed := true }
def WirePlansUptoSaid : Prop := wirePlansUptoRow.holds Try.pinned (OpenSpec.upto wirePlansSpec)

/-- 'lintellaw10.WireReads', WHERE WHAT IT READS IS OF BULK AT MOST 1048576: true; the input reads as it did. -/
def wireReadsUptoRow : OpenClaim := { program := "ytlcgkcmicklihaa", sum := "7e2011347be128360ad516e050098b395574e5a77c57316ec19b4cf0bc8e17a0", func := "lintel/lintellaw10.WireReads", spec := "wireReads", unfollowed := true, recurses := true, apart := false, narrowed := true }
def WireReadsUptoSaid : Prop := wireReadsUptoRow.holds Try.pinned (OpenSpec.upto wireReadsSpec)

end Rows
end Go.Proofs.Ytlcgkcmicklihaa
