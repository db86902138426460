/- The method of the board's state. -/
import Derived.Test.YtlcgkcmicklihaaIH
import Derived.Test.YtlcgkcmicklihaaIJ
import Derived.Test.YtlcgkcmicklihaaIF
namespace Go.Proofs.Ytlcgkcmicklihaa.Wire
set_option linter.unusedVariables false
set_option linter.unusedSimpArgs false
open Go.RowKit Go.Proofs.YtlcgkcmicklihaaW.PrintWords Go.Proofs.YtlcgkcmicklihaaW.PrintLast Go.Proofs.YtlcgkcmicklihaaW.PrintMore
def tPlan : Ty := (.pair (ints 1) (.pair (.list tTable) (.pair (.list tLease) (.list tJob))))
set_option maxRecDepth 100000 in
set_option maxHeartbeats 4000000 in
theorem codes_plan : Codes 50 tPlan := by
  intro g b T o pre post s c ok x w h ho
  have L0 := Lib.hid (Left.start h ho)
  clear h ho
  go_enter Try.func50, Try.ntmps50
  go_wp2_with fail
  go_region_with (go_at_call 53; refine (Left.nums (n := 1) (o := o) L0.out below2 (ptrs2 rfl) (by decide) rfl).mono ?_; rintro e w1 ⟨rfl, l1⟩)
  have L1 : Hid (Left _ g b T (o + 2) post (.pair (.list tTable) (.pair (.list tLease) (.list tJob))) w1) := Lib.hid l1
  clear l1
  go_wp2_with fail
  refine (Left.codesF (o := o + 2) items_table L1.out (Below.refl _ _)).mono ?_
  rintro e w2 ⟨rfl, l2⟩
  have L2 : Hid (Left _ g b T (o + 3) post (.pair (.list tLease) (.list tJob)) w2) := Lib.hid l2
  clear l2
  go_wp2_with fail
  refine (Left.codesF (o := o + 3) items_lease L2.out (Below.refl _ _)).mono ?_
  rintro e w3 ⟨rfl, l3⟩
  have L3 : Hid (Left _ g b T (o + 4) post (.list tJob) w3) := Lib.hid l3
  clear l3
  go_wp2_with fail
  refine (Left.codesF_last (o := o + 4) items_job L3.out (Below.refl _ _)).mono ?_
  rintro e w4 ⟨rfl, l4⟩
  have L4 := Lib.hid l4
  clear l4
  go_wp2_with fail
  go_end0
  exact ⟨rfl, L4.out⟩
end Go.Proofs.Ytlcgkcmicklihaa.Wire
