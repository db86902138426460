/-
  No cell of these rows narrows 'for every input' (looked for: loops, veiled, ifaces, maps, wideKeys, modest, calm, conditions, laid).
  DERIVED. THE GIVEN ROWS OF THIS SEAT. 6 by the template 'for every input the law returns true; each argument reads behind the call as it read before'; 0 by the template 'total and deterministic' (their statements: YtcpokaglofopbaaTotals.lean).
  GIVEN WITH THE SEED: the statements are not yours to turn. If you find one false, say at which input.
  Laid BY PROGRAM, IN A SANDBOX (cutbox-rows.mjs): the forced cells as the released guide's own fill.sh prints them over the translation 55e79954ec53edde… (all of the seat's roots in one cut). By AI agents, Wed Nov 11 2026. No macro, syntax, notation, axiom, sorry.
-/
import Derived.Test.YtcpokaglofopbaaChecked
import GoSem.Claim
import GoSem.ClaimJoined
import GoSem.ClaimMapViews
import Derived.JoinedTies
import Derived.KernelRfl
namespace Go.Proofs.Ytcpokaglofopbaa
/- THE CELL 'sum', in the pinned program and in every row, IS THE sha256 OF THE DUMP (.gsa) THAT YtcpokaglofopbaaProg.lean LOADS. Nothing in Lean hashes anything: it is a label: what it is worth is what the hold of that sum in a sandbox is worth. -/
noncomputable def Try.pinned : Pinned := { name := "ytcpokaglofopbaa", sum := "55e79954ec53eddec65b8a86c394feef1ba343ad466f8dcc01718745ffb9c4d6", checked := Try.checked }
namespace Rows
def none {H : Type} : Left H := { results := [], args := [] }

/-- 'lintellaw03.StripSums': WHATEVER THE INPUT: true; the input reads as it did. -/
def stripSumsSpec : ChangeSpec := { name := "stripSums", fn := fun _ => fun
  | [d] => { results := [.lit (.bool true)], args := [d] }
  | _ => none }
def stripSumsRow : OpenClaim := { program := "ytcpokaglofopbaa", sum := "55e79954ec53eddec65b8a86c394feef1ba343ad466f8dcc01718745ffb9c4d6", func := "lintel/lintellaw03.StripSums", spec := "stripSums", apart := false }
def StripSumsSaid : Prop := stripSumsRow.holds Try.pinned (OpenSpec.ofChange stripSumsSpec)

/-- ITS FALSE NEIGHBOUR: 'it returns false'. Refute it at one input. -/
def stripSumsWrong : ChangeSpec := { name := "stripSums", fn := fun _ => fun
  | [d] => { results := [.lit (.bool false)], args := [d] }
  | _ => none }
def StripSumsWrongFalsely : Prop := stripSumsRow.holds Try.pinned (OpenSpec.ofChange stripSumsWrong)

/-- 'lintellaw03.StripPuts': WHATEVER THE INPUT: true; the input reads as it did. -/
def stripPutsSpec : ChangeSpec := { name := "stripPuts", fn := fun _ => fun
  | [d] => { results := [.lit (.bool true)], args := [d] }
  | _ => none }
def stripPutsRow : OpenClaim := { program := "ytcpokaglofopbaa", sum := "55e79954ec53eddec65b8a86c394feef1ba343ad466f8dcc01718745ffb9c4d6", func := "lintel/lintellaw03.StripPuts", spec := "stripPuts", apart := false }
def StripPutsSaid : Prop := stripPutsRow.holds Try.pinned (OpenSpec.ofChange stripPutsSpec)

/-- ITS FALSE NEIGHBOUR: 'it returns false'. Refute it at one input. -/
def stripPutsWrong : ChangeSpec := { name := "stripPuts", fn := fun _ => fun
  | [d] => { results := [.lit (.bool false)], args := [d] }
  | _ => none }
def StripPutsWrongFalsely : Prop := stripPutsRow.holds Try.pinned (OpenSpec.ofChange stripPutsWrong)

/-- 'lintellaw03.StripScans': WHATEVER THE INPUT: true; the input reads as it did. -/
def stripScansSpec : ChangeSpec := { name := "stripScans", fn := fun _ => fun
  | [d] => { results := [.lit (.bool true)], args := [d] }
  | _ => none }
def stripScansRow : OpenClaim := { program := "ytcpokaglofopbaa", sum := "55e79954ec53eddec65b8a86c394feef1ba343ad466f8dcc01718745ffb9c4d6", func := "lintel/lintellaw03.StripScans", spec := "stripScans", apart := false }
def StripScansSaid : Prop := stripScansRow.holds Try.pinned (OpenSpec.ofChange stripScansSpec)

/-- ITS FALSE NEIGHBOUR: 'it returns false'. Refute it at one input. -/
def stripScansWrong : ChangeSpec := { name := "stripScans", fn := fun _ => fun
  | [d] => { results := [.lit (.bool false)], args := [d] }
  | _ => none }
def StripScansWrongFalsely : Prop := stripScansRow.holds Try.pinned (OpenSpec.ofChange stripScansWrong)

/-- 'lintellaw03.StripCuts': WHATEVER THE INPUT: true; the input reads as it did. -/
def stripCutsSpec : ChangeSpec := { name := "stripCuts", fn := fun _ => fun
  | [d1, d2] => { results := [.lit (.bool true)], args := [d1, d2] }
  | _ => none }
def stripCutsRow : OpenClaim := { program := "ytcpokaglofopbaa", sum := "55e79954ec53eddec65b8a86c394feef1ba343ad466f8dcc01718745ffb9c4d6", func := "lintel/lintellaw03.StripCuts", spec := "stripCuts", apart := false }
def StripCutsSaid : Prop := stripCutsRow.holds Try.pinned (OpenSpec.ofChange stripCutsSpec)

/-- ITS FALSE NEIGHBOUR: 'it returns false'. Refute it at one input. -/
def stripCutsWrong : ChangeSpec := { name := "stripCuts", fn := fun _ => fun
  | [d1, d2] => { results := [.lit (.bool false)], args := [d1, d2] }
  | _ => none }
def StripCutsWrongFalsely : Prop := stripCutsRow.holds Try.pinned (OpenSpec.ofChange stripCutsWrong)

/-- 'lintellaw03.StripBehind': WHATEVER THE INPUT: true; the input reads as it did. -/
def stripBehindSpec : ChangeSpec := { name := "stripBehind", fn := fun _ => fun
  | [d1, d2] => { results := [.lit (.bool true)], args := [d1, d2] }
  | _ => none }
def stripBehindRow : OpenClaim := { program := "ytcpokaglofopbaa", sum := "55e79954ec53eddec65b8a86c394feef1ba343ad466f8dcc01718745ffb9c4d6", func := "lintel/lintellaw03.StripBehind", spec := "stripBehind", apart := false }
def StripBehindSaid : Prop := stripBehindRow.holds Try.pinned (OpenSpec.ofChange stripBehindSpec)

/-- ITS FALSE NEIGHBOUR: 'it returns false'. Refute it at one input. -/
def stripBehindWrong : ChangeSpec := { name := "stripBehind", fn := fun _ => fun
  | [d1, d2] => { results := [.lit (.bool false)], args := [d1, d2] }
  | _ => none }
def StripBehindWrongFalsely : Prop := stripBehindRow.holds Try.pinned (OpenSpec.ofChange stripBehindWrong)

/-- 'lintellaw03.StripTurns': WHATEVER THE INPUT: true; the input reads as it did. -/
def stripTurnsSpec : ChangeSpec := { name := "stripTurns", fn := fun _ => fun
  | [d1, d2] => { results := [.lit (.bool true)], args := [d1, d2] }
  | _ => none }
def stripTurnsRow : OpenClaim := { program := "ytcpokaglofopbaa", sum := "55e79954ec53eddec65b8a86c394feef1ba343ad466f8dcc01718745ffb9c4d6", func := "lintel/lintellaw03.StripTurns", spec := "stripTurns", apart := false }
def StripTurnsSaid : Prop := stripTurnsRow.holds Try.pinned (OpenSpec.ofChange stripTurnsSpec)

/-- ITS FALSE NEIGHBOUR: 'it returns false'. Refute it at one input. -/
def stripTurnsWrong : ChangeSpec := { name := "stripTurns", fn := fun _ => fun
  | [d1, d2] => { results := [.lit (.bool false)], args := [d1, d2] }
  | _ => none }
def StripTurnsWrongFalsely : Prop := stripTurnsRow.holds Try.pinned (OpenSpec.ofChange stripTurnsWrong)

/- THE SECOND FORM. 'bulk': how many values and letters a reading holds, each counted each time it is reached (what is shared counts as often as it is met; a slice's spare places count too). A statement '..UptoSaid' is the law's where the arguments, and the package variables that the reading takes, are together of bulk at most 1048576: NARROWER than '..Said'. Prove '..Said' where nothing that the law and all that it calls make is longer than what came in: it says more and counts as full. Else prove '..UptoSaid'. A law counts once. -/
mutual
def uptoBulk {H : Type} : DataW H → Nat
  | .lit (.string bytes) => bytes.length + 1
  | .lit _ => 1
  | .nil => 1
  | .ptr d => uptoBulk d + 1
  | .slice elems spare => uptoBulkAll elems + uptoBulkAll spare + 1
  | .agg parts => uptoBulkAll parts + 1
  | .iface _ d => uptoBulk d + 1
  | .map entries => uptoBulkEntries entries + 1
  | .held _ => 1
def uptoBulkAll {H : Type} : List (DataW H) → Nat
  | [] => 0
  | d :: r => uptoBulk d + uptoBulkAll r
def uptoBulkEntries {H : Type} : List (Lit × DataW H) → Nat
  | [] => 0
  | x :: r => uptoBulkEntry x + uptoBulkEntries r
def uptoBulkEntry {H : Type} : Lit × DataW H → Nat
  | (.string bytes, d) => bytes.length + uptoBulk d + 1
  | (_, d) => uptoBulk d + 1
 end
def uptoSmall : (H : Type) → List (DataW H) → Bool := fun _ ds => decide (uptoBulkAll ds ≤ 1048576)
def OpenSpec.upto (s : _root_.Go.ChangeSpec) : _root_.Go.OpenSpec := { _root_.Go.OpenSpec.ofChange s with cond := some uptoSmall }

/-- 'lintellaw03.StripSums', WHERE WHAT IT READS IS OF BULK AT MOST 1048576: true; the input reads as it did. -/
def stripSumsUptoRow : OpenClaim := { program := "ytcpokaglofopbaa", sum := "55e79954ec53eddec65b8a86c394feef1ba343ad466f8dcc01718745ffb9c4d6", func := "lintel/lintellaw03.StripSums", spec := "stripSums", apart := false, narrowed := true }
def StripSumsUptoSaid : Prop := stripSumsUptoRow.holds Try.pinned (OpenSpec.upto stripSumsSpec)

/-- 'lintellaw03.StripPuts', WHERE WHAT IT READS IS OF BULK AT MOST 1048576: true; the input reads as it did. -/
def stripPutsUptoRow : OpenClaim := { program := "ytcpokaglofopbaa", sum := "55e79954ec53eddec65b8a86c394feef1ba343ad466f8dcc01718745ffb9c4d6", func := "lintel/lintellaw03.StripPuts", spec := "stripPuts", apart := false, narrowed := true }
def StripPutsUptoSaid : Prop := stripPutsUptoRow.holds Try.pinned (OpenSpec.upto stripPutsSpec)

/-- 'lintellaw03.StripScans', WHERE WHAT IT READS IS OF BULK AT MOST 1048576: true; the input reads as it did. -/
def stripScansUptoRow : OpenClaim := { program := "ytcpokaglofopbaa", sum := "55e79954ec53eddec65b8a86c394feef1ba343ad466f8dcc01718745ffb9c4d6", func := "lintel/lintellaw03.StripScans", spec := "stripScans", apart := false, narrowed := true }
def StripScansUptoSaid : Prop := stripScansUptoRow.holds Try.pinned (OpenSpec.upto stripScansSpec)

/-- 'lintellaw03.StripCuts', WHERE WHAT IT READS IS OF BULK AT MOST 1048576: true; the input reads as it did. -/
def stripCutsUptoRow : OpenClaim := { program := "ytcpokaglofopbaa", sum := "55e79954ec53eddec65b8a86c394feef1ba343ad466f8dcc01718745ffb9c4d6", func := "lintel/lintellaw03.StripCuts", spec := "stripCuts", apart := false, narrowed := true }
def StripCutsUptoSaid : Prop := stripCutsUptoRow.holds Try.pinned (OpenSpec.upto stripCutsSpec)

/-- 'lintellaw03.StripBehind', WHERE WHAT IT READS IS OF BULK AT MOST 1048576: true; the input reads as it did. -/
def stripBehindUptoRow : OpenClaim := { program := "ytcpokaglofopbaa", sum := "55e79954ec53eddec65b8a86c394feef1ba343ad466f8dcc01718745ffb9c4d6", func := "lintel/lintellaw03.StripBehind", spec := "stripBehind", apart := false, narrowed := true }
def StripBehindUptoSaid : Prop := stripBehindUptoRow.holds Try.pinned (OpenSpec.upto stripBehindSpec)

/-- 'lintellaw03.StripTurns', WHERE WHAT IT READS IS OF BULK AT MOST 1048576: true; the input reads as it did. -/
def stripTurnsUptoRow : OpenClaim := { program := "ytcpokaglofopbaa", sum := "55e79954ec53eddec65b8a86c394feef1ba343ad466f8dcc01718745ffb9c4d6", func := "lintel/lintellaw03.StripTurns", spec := "stripTurns", apart := false, narrowed := true }
def StripTurnsUptoSaid : Prop := stripTurnsUptoRow.holds Try.pinned (OpenSpec.upto stripTurnsSpec)

end Rows
end Go.Proofs.Ytcpokaglofopbaa
