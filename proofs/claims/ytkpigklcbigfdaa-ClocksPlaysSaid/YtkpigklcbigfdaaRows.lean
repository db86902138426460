/-
  No cell of these rows narrows 'for every input' (looked for: loops, veiled, ifaces, maps, wideKeys, modest, calm, conditions, laid).
  DERIVED. THE GIVEN ROWS OF THIS SEAT. 4 by the template 'for every input the law returns true; each argument reads behind the call as it read before'; 0 by the template 'total and deterministic' (their statements: YtkpigklcbigfdaaTotals.lean).
  GIVEN WITH THE SEED: the statements are not yours to turn. If you find one false, say at which input.
  Laid BY PROGRAM, IN A SANDBOX (cutbox-rows.mjs): the forced cells as the released guide's own fill.sh prints them over the translation 77e7687aaacb675a… (all of the seat's roots in one cut). By AI agents, Wed Nov 11 2026. No macro, syntax, notation, axiom, sorry.
-/
import Derived.Test.YtkpigklcbigfdaaChecked
import GoSem.Claim
import GoSem.ClaimJoined
import GoSem.ClaimMapViews
import Derived.JoinedTies
import Derived.KernelRfl
namespace Go.Proofs.Ytkpigklcbigfdaa
/- THE CELL 'sum', in the pinned program and in every row, IS THE sha256 OF THE DUMP (.gsa) THAT YtkpigklcbigfdaaProg.lean LOADS. Nothing in Lean hashes anything: it is a label: what it is worth is what the hold of that sum in a sandbox is worth. -/
noncomputable def Try.pinned : Pinned := { name := "ytkpigklcbigfdaa", sum := "77e7687aaacb675a398deb51cb0f36c7ea62978efae87d75cb5d9ac348988ace", checked := Try.checked }
namespace Rows
def none {H : Type} : Left H := { results := [], args := [] }

/-- 'lintellaw08.ClocksPlays': WHATEVER THE INPUT: true; the input reads as it did. -/
def clocksPlaysSpec : ChangeSpec := { name := "clocksPlays", fn := fun _ => fun
  | [d1, d2, d3] => { results := [.lit (.bool true)], args := [d1, d2, d3] }
  | _ => none }
def clocksPlaysRow : OpenClaim := { program := "ytkpigklcbigfdaa", sum := "77e7687aaacb675a398deb51cb0f36c7ea62978efae87d75cb5d9ac348988ace", func := "lintel/lintellaw08.ClocksPlays", spec := "clocksPlays", apart := false }
def ClocksPlaysSaid : Prop := clocksPlaysRow.holds Try.pinned (OpenSpec.ofChange clocksPlaysSpec)

/-- ITS FALSE NEIGHBOUR: 'it returns false'. Refute it at one input. -/
def clocksPlaysWrong : ChangeSpec := { name := "clocksPlays", fn := fun _ => fun
  | [d1, d2, d3] => { results := [.lit (.bool false)], args := [d1, d2, d3] }
  | _ => none }
def ClocksPlaysWrongFalsely : Prop := clocksPlaysRow.holds Try.pinned (OpenSpec.ofChange clocksPlaysWrong)

/-- 'lintellaw08.ClocksNear': WHATEVER THE INPUT: true; the input reads as it did. -/
def clocksNearSpec : ChangeSpec := { name := "clocksNear", fn := fun _ => fun
  | [d1, d2, d3] => { results := [.lit (.bool true)], args := [d1, d2, d3] }
  | _ => none }
def clocksNearRow : OpenClaim := { program := "ytkpigklcbigfdaa", sum := "77e7687aaacb675a398deb51cb0f36c7ea62978efae87d75cb5d9ac348988ace", func := "lintel/lintellaw08.ClocksNear", spec := "clocksNear", apart := false }
def ClocksNearSaid : Prop := clocksNearRow.holds Try.pinned (OpenSpec.ofChange clocksNearSpec)

/-- ITS FALSE NEIGHBOUR: 'it returns false'. Refute it at one input. -/
def clocksNearWrong : ChangeSpec := { name := "clocksNear", fn := fun _ => fun
  | [d1, d2, d3] => { results := [.lit (.bool false)], args := [d1, d2, d3] }
  | _ => none }
def ClocksNearWrongFalsely : Prop := clocksNearRow.holds Try.pinned (OpenSpec.ofChange clocksNearWrong)

/-- 'lintellaw08.ClocksFair': WHATEVER THE INPUT: true; the input reads as it did. -/
def clocksFairSpec : ChangeSpec := { name := "clocksFair", fn := fun _ => fun
  | [d1, d2, d3, d4] => { results := [.lit (.bool true)], args := [d1, d2, d3, d4] }
  | _ => none }
def clocksFairRow : OpenClaim := { program := "ytkpigklcbigfdaa", sum := "77e7687aaacb675a398deb51cb0f36c7ea62978efae87d75cb5d9ac348988ace", func := "lintel/lintellaw08.ClocksFair", spec := "clocksFair", apart := false }
def ClocksFairSaid : Prop := clocksFairRow.holds Try.pinned (OpenSpec.ofChange clocksFairSpec)

/-- ITS FALSE NEIGHBOUR: 'it returns false'. Refute it at one input. -/
def clocksFairWrong : ChangeSpec := { name := "clocksFair", fn := fun _ => fun
  | [d1, d2, d3, d4] => { results := [.lit (.bool false)], args := [d1, d2, d3, d4] }
  | _ => none }
def ClocksFairWrongFalsely : Prop := clocksFairRow.holds Try.pinned (OpenSpec.ofChange clocksFairWrong)

/-- 'lintellaw08.ClocksNil': WHATEVER THE INPUT: true; the input reads as it did. -/
def clocksNilSpec : ChangeSpec := { name := "clocksNil", fn := fun _ => fun
  | [d1, d2] => { results := [.lit (.bool true)], args := [d1, d2] }
  | _ => none }
def clocksNilRow : OpenClaim := { program := "ytkpigklcbigfdaa", sum := "77e7687aaacb675a398deb51cb0f36c7ea62978efae87d75cb5d9ac348988ace", func := "lintel/lintellaw08.ClocksNil", spec := "clocksNil", apart := false }
def ClocksNilSaid : Prop := clocksNilRow.holds Try.pinned (OpenSpec.ofChange clocksNilSpec)

/-- ITS FALSE NEIGHBOUR: 'it returns false'. Refute it at one input. -/
def clocksNilWrong : ChangeSpec := { name := "clocksNil", fn := fun _ => fun
  | [d1, d2] => { results := [.lit (.bool false)], args := [d1, d2] }
  | _ => none }
def ClocksNilWrongFalsely : Prop := clocksNilRow.holds Try.pinned (OpenSpec.ofChange clocksNilWrong)

/- THE SECOND FORM. 'bulk': how many values and letters a reading holds, each counted each time it is reached (what is shared counts as often as it is met; a slice's spare places count too). A statement '..UptoSaid' is the law's where the arguments, and the package variables that the reading takes, are together of bulk at most 1048576: NARROWER than '..Said'. Prove '..Said' where nothing that the law and all that it calls make is longer than what came in: it says more and counts as full. Else prove '..UptoSaid'. A law counts once. -/
mutual
def uptoBulk {H : Type} : DataW H → Nat
  | .lit (.string bytes) => bytes.length + 1
  | .lit _ => 1
  | .nil => 1
  | .ptr d => uptoBulk d + 1
  | .slice elems spare => uptoBulkAll elems + uptoBulkAll spare + 1
  | .agg parts => uptoBulkAll parts + 1
  | .iface _ d => uptoBulk d + 1
  | .map entries => uptoBulkEntries entries + 1
  | .held _ => 1
def uptoBulkAll {H : Type} : List (DataW H) → Nat
  | [] => 0
  | d :: r => uptoBulk d + uptoBulkAll r
def uptoBulkEntries {H : Type} : List (Lit × DataW H) → Nat
  | [] => 0
  | x :: r => uptoBulkEntry x + uptoBulkEntries r
def uptoBulkEntry {H : Type} : Lit × DataW H → Nat
  | (.string bytes, d) => bytes.length + uptoBulk d + 1
  | (_, d) => uptoBulk d + 1
 end
def uptoSmall : (H : Type) → List (DataW H) → Bool := fun _ ds => decide (uptoBulkAll ds ≤ 1048576)
def OpenSpec.upto (s : _root_.Go.ChangeSpec) : _root_.Go.OpenSpec := { _root_.Go.OpenSpec.ofChange s with cond := some uptoSmall }

/-- 'lintellaw08.ClocksPlays', WHERE WHAT IT READS IS OF BULK AT MOST 1048576: true; the input reads as it did. -/
def clocksPlaysUptoRow : OpenClaim := { program := "ytkpigklcbigfdaa", sum := "77e7687aaacb675a398deb51cb0f36c7ea62978efae87d75cb5d9ac348988ace", func := "lintel/lintellaw08.ClocksPlays", spec := "clocksPlays", apart := false, narrowed := true }
def ClocksPlaysUptoSaid : Prop := clocksPlaysUptoRow.holds Try.pinned (OpenSpec.upto clocksPlaysSpec)

/-- 'lintellaw08.ClocksNear', WHERE WHAT IT READS IS OF BULK AT MOST 1048576: true; the input reads as it did. -/
def clocksNearUptoRow : OpenClaim := { program := "ytkpigklcbigfdaa", sum := "77e7687aaacb675a398deb51cb0f36c7ea62978efae87d75cb5d9ac348988ace", func := "lintel/lintellaw08.ClocksNear", spec := "clocksNear", apart := false, narrowed := true }
def ClocksNearUptoSaid : Prop := clocksNearUptoRow.holds Try.pinned (OpenSpec.upto clocksNearSpec)

/-- 'lintellaw08.ClocksFair', WHERE WHAT IT READS IS OF BULK AT MOST 1048576: true; the input reads as it did. -/
def clocksFairUptoRow : OpenClaim := { program := "ytkpigklcbigfdaa", sum := "77e7687aaacb675a398deb51cb0f36c7ea62978efae87d75cb5d9ac348988ace", func := "lintel/lintellaw08.ClocksFair", spec := "clocksFair", apart := false, narrowed := true }
def ClocksFairUptoSaid : Prop := clocksFairUptoRow.holds Try.pinned (OpenSpec.upto clocksFairSpec)

/-- 'lintellaw08.ClocksNil', WHERE WHAT IT READS IS OF BULK AT MOST 1048576: true; the input reads as it did. -/
def clocksNilUptoRow : OpenClaim := { program := "ytkpigklcbigfdaa", sum := "77e7687aaacb675a398deb51cb0f36c7ea62978efae87d75cb5d9ac348988ace", func := "lintel/lintellaw08.ClocksNil", spec := "clocksNil", apart := false, narrowed := true }
def ClocksNilUptoSaid : Prop := clocksNilUptoRow.holds Try.pinned (OpenSpec.upto clocksNilSpec)

end Rows
end Go.Proofs.Ytkpigklcbigfdaa
