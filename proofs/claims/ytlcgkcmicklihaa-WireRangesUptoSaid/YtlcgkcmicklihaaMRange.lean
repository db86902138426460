/- The method of a shard's state. -/
import Derived.Test.YtlcgkcmicklihaaIC
import Derived.Test.YtlcgkcmicklihaaID
import Derived.Test.YtlcgkcmicklihaaIG
namespace Go.Proofs.Ytlcgkcmicklihaa.Wire
set_option linter.unusedVariables false
set_option linter.unusedSimpArgs false
open Go.RowKit Go.Proofs.YtlcgkcmicklihaaW.PrintWords Go.Proofs.YtlcgkcmicklihaaW.PrintLast Go.Proofs.YtlcgkcmicklihaaW.PrintMore
def tState : Ty := (.pair (.list tRow) (.pair (.list tLock) (.pair (.list tRecord) (.pair (.list tTid) (ints 0)))))
set_option maxRecDepth 100000 in
set_option maxHeartbeats 4000000 in
theorem codes_state : Codes 37 tState := by
  intro g b T o pre post s c ok x w h ho
  have L0 := Lib.hid (Left.start h ho)
  clear h ho
  go_enter Try.func37, Try.ntmps37
  go_wp2_with fail
  refine (Left.codesF (o := o) items_row L0.out (Below.refl _ _)).mono ?_
  rintro e w1 ⟨rfl, l1⟩
  have L1 : Hid (Left _ g b T (o + 1) post (.pair (.list tLock) (.pair (.list tRecord) (.pair (.list tTid) (ints 0)))) w1) := Lib.hid l1
  clear l1
  go_wp2_with fail
  refine (Left.codesF (o := o + 1) items_lock L1.out (Below.refl _ _)).mono ?_
  rintro e w2 ⟨rfl, l2⟩
  have L2 : Hid (Left _ g b T (o + 2) post (.pair (.list tRecord) (.pair (.list tTid) (ints 0))) w2) := Lib.hid l2
  clear l2
  go_wp2_with fail
  refine (Left.codesF (o := o + 2) items_record L2.out (Below.refl _ _)).mono ?_
  rintro e w3 ⟨rfl, l3⟩
  have L3 : Hid (Left _ g b T (o + 3) post (.pair (.list tTid) (ints 0)) w3) := Lib.hid l3
  clear l3
  go_wp2_with fail
  refine (Left.codesF (o := o + 3) items_tid L3.out (Below.refl _ _)).mono ?_
  rintro e w4 ⟨rfl, l4⟩
  have L4 : Hid (Left _ g b T (o + 4) post (ints 0) w4) := Lib.hid l4
  clear l4
  go_wp2_with fail
  refine (Left.nums_last (n := 0) (o := o + 4) L4.out below1 (ptrs1 rfl) (by decide) rfl).mono ?_
  rintro e w5 ⟨rfl, l5⟩
  have L5 := Lib.hid l5
  clear l5
  go_wp2_with fail
  go_end0
  exact ⟨rfl, L5.out⟩
end Go.Proofs.Ytlcgkcmicklihaa.Wire
