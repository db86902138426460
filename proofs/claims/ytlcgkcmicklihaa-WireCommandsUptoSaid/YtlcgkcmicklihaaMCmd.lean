/- The method of a command. -/
import Derived.Test.YtlcgkcmicklihaaIA
import Derived.Test.YtlcgkcmicklihaaIB
import Derived.Test.YtlcgkcmicklihaaIE
namespace Go.Proofs.Ytlcgkcmicklihaa.Wire
set_option linter.unusedVariables false
set_option linter.unusedSimpArgs false
open Go.RowKit Go.Proofs.YtlcgkcmicklihaaW.PrintWords Go.Proofs.YtlcgkcmicklihaaW.PrintLast Go.Proofs.YtlcgkcmicklihaaW.PrintMore
def tCommand : Ty := (.pair (ints 0) (.pair tTid (.pair tTid (.pair (ints 0) (.pair (.list tReading) (.pair (.list tWrite) (.pair (ints 4) (.pair tDdl (.pair (ints 1) (.pair (reps .str 0) .int))))))))))
set_option maxRecDepth 100000 in
set_option maxHeartbeats 4000000 in
theorem codes_command : Codes 44 tCommand := by
  intro g b T o pre post s c ok x w h ho
  have L0 := Lib.hid (Left.start h ho)
  clear h ho
  go_enter Try.func44, Try.ntmps44
  go_wp2_with fail
  refine (Left.nums (n := 0) (o := o) L0.out below1 (ptrs1 rfl) (by decide) rfl).mono ?_
  rintro e w1 ⟨rfl, l1⟩
  have L1 : Hid (Left _ g b T (o + 1) post (.pair tTid (.pair tTid (.pair (ints 0) (.pair (.list tReading) (.pair (.list tWrite) (.pair (ints 4) (.pair tDdl (.pair (ints 1) (.pair (reps .str 0) .int))))))))) w1) := Lib.hid l1
  clear l1
  go_wp2_with fail
  refine (Left.codes (o := o + 1) codes_tid L1.out (Below.refl _ _)).mono ?_
  rintro e w2 ⟨rfl, l2⟩
  have L2 : Hid (Left _ g b T (o + 4) post (.pair tTid (.pair (ints 0) (.pair (.list tReading) (.pair (.list tWrite) (.pair (ints 4) (.pair tDdl (.pair (ints 1) (.pair (reps .str 0) .int)))))))) w2) := Lib.hid l2
  clear l2
  go_wp2_with fail
  refine (Left.codes (o := o + 4) codes_tid L2.out (Below.refl _ _)).mono ?_
  rintro e w3 ⟨rfl, l3⟩
  have L3 : Hid (Left _ g b T (o + 7) post (.pair (ints 0) (.pair (.list tReading) (.pair (.list tWrite) (.pair (ints 4) (.pair tDdl (.pair (ints 1) (.pair (reps .str 0) .int))))))) w3) := Lib.hid l3
  clear l3
  go_wp2_with fail
  refine (Left.nums (n := 0) (o := o + 7) L3.out below1 (ptrs1 rfl) (by decide) rfl).mono ?_
  rintro e w4 ⟨rfl, l4⟩
  have L4 : Hid (Left _ g b T (o + 8) post (.pair (.list tReading) (.pair (.list tWrite) (.pair (ints 4) (.pair tDdl (.pair (ints 1) (.pair (reps .str 0) .int)))))) w4) := Lib.hid l4
  clear l4
  go_wp2_with fail
  refine (Left.codesF (o := o + 8) items_reading L4.out (Below.refl _ _)).mono ?_
  rintro e w5 ⟨rfl, l5⟩
  have L5 : Hid (Left _ g b T (o + 9) post (.pair (.list tWrite) (.pair (ints 4) (.pair tDdl (.pair (ints 1) (.pair (reps .str 0) .int))))) w5) := Lib.hid l5
  clear l5
  go_wp2_with fail
  refine (Left.codesF (o := o + 9) items_write L5.out (Below.refl _ _)).mono ?_
  rintro e w6 ⟨rfl, l6⟩
  have L6 : Hid (Left _ g b T (o + 10) post (.pair (ints 4) (.pair tDdl (.pair (ints 1) (.pair (reps .str 0) .int)))) w6) := Lib.hid l6
  clear l6
  go_wp2_with fail
  go_region_with (go_at_call 53; refine (Left.nums (n := 4) (o := o + 10) L6.out below2 (ptrs2 rfl) (by decide) rfl).mono ?_; rintro e w7 ⟨rfl, l7⟩)
  have L7 : Hid (Left _ g b T (o + 15) post (.pair tDdl (.pair (ints 1) (.pair (reps .str 0) .int))) w7) := Lib.hid l7
  clear l7
  go_wp2_with fail
  refine (Left.codes (o := o + 15) codes_ddl L7.out (Below.refl _ _)).mono ?_
  rintro e w8 ⟨rfl, l8⟩
  have L8 : Hid (Left _ g b T (o + 26) post (.pair (ints 1) (.pair (reps .str 0) .int)) w8) := Lib.hid l8
  clear l8
  go_wp2_with fail
  go_region_with (go_at_call 53; refine (Left.nums (n := 1) (o := o + 26) L8.out below2 (ptrs2 rfl) (by decide) rfl).mono ?_; rintro e w9 ⟨rfl, l9⟩)
  have L9 : Hid (Left _ g b T (o + 28) post (.pair (reps .str 0) .int) w9) := Lib.hid l9
  clear l9
  go_wp2_with fail
  refine (Left.texts (n := 0) (o := o + 28) L9.out below1 (ptrs1 rfl) (by decide) rfl).mono ?_
  rintro e w10 ⟨rfl, l10⟩
  have L10 : Hid (Left _ g b T (o + 29) post .int w10) := Lib.hid l10
  clear l10
  go_wp2_with fail
  refine (Left.codes_last (o := o + 29) codes_why L10.out (Below.refl _ _)).mono ?_
  rintro e w11 ⟨rfl, l11⟩
  have L11 := Lib.hid l11
  clear l11
  go_wp2_with fail
  go_end0
  exact ⟨rfl, L11.out⟩
end Go.Proofs.Ytlcgkcmicklihaa.Wire
