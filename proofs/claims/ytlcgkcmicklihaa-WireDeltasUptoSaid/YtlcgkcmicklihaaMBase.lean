/- The methods of the structs without a list. -/
import Derived.Test.YtlcgkcmicklihaaList
namespace Go.Proofs.Ytlcgkcmicklihaa.Wire
set_option linter.unusedVariables false
set_option linter.unusedSimpArgs false
open Go.RowKit Go.Proofs.YtlcgkcmicklihaaW.PrintWords Go.Proofs.YtlcgkcmicklihaaW.PrintLast Go.Proofs.YtlcgkcmicklihaaW.PrintMore
def tTid : Ty := (ints 2)
set_option maxRecDepth 100000 in
set_option maxHeartbeats 4000000 in
theorem codes_tid : Codes 65 tTid := by
  intro g b T o pre post s c ok x w h ho
  have L0 := Lib.hid (Left.start h ho)
  clear h ho
  go_enter Try.func65, Try.ntmps65
  go_wp2_with fail
  go_region_with (go_at_call 53; refine (Left.nums_last (n := 2) (o := o) L0.out below2 (ptrs2 rfl) (by decide) rfl).mono ?_; rintro e w1 ⟨rfl, l1⟩)
  have L1 := Lib.hid l1
  clear l1
  go_wp2_with fail
  go_end0
  exact ⟨rfl, L1.out⟩
def tSpan : Ty := (reps .str 1)
set_option maxRecDepth 100000 in
set_option maxHeartbeats 4000000 in
theorem codes_span : Codes 84 tSpan := by
  intro g b T o pre post s c ok x w h ho
  have L0 := Lib.hid (Left.start h ho)
  clear h ho
  go_enter Try.func84, Try.ntmps84
  go_wp2_with fail
  go_region_with (go_at_call 57; refine (Left.texts_last (n := 1) (o := o) L0.out below2 (ptrs2 rfl) (by decide) rfl).mono ?_; rintro e w1 ⟨rfl, l1⟩)
  have L1 := Lib.hid l1
  clear l1
  go_wp2_with fail
  go_end0
  exact ⟨rfl, L1.out⟩
def tStamp : Ty := (.pair (reps .str 0) (ints 0))
set_option maxRecDepth 100000 in
set_option maxHeartbeats 4000000 in
theorem codes_stamp : Codes 86 tStamp := by
  intro g b T o pre post s c ok x w h ho
  have L0 := Lib.hid (Left.start h ho)
  clear h ho
  go_enter Try.func86, Try.ntmps86
  go_wp2_with fail
  refine (Left.texts (n := 0) (o := o) L0.out below1 (ptrs1 rfl) (by decide) rfl).mono ?_
  rintro e w1 ⟨rfl, l1⟩
  have L1 : Hid (Left _ g b T (o + 1) post (ints 0) w1) := Lib.hid l1
  clear l1
  go_wp2_with fail
  refine (Left.nums_last (n := 0) (o := o + 1) L1.out below1 (ptrs1 rfl) (by decide) rfl).mono ?_
  rintro e w2 ⟨rfl, l2⟩
  have L2 := Lib.hid l2
  clear l2
  go_wp2_with fail
  go_end0
  exact ⟨rfl, L2.out⟩
def tWrite : Ty := (.pair (reps .str 1) .bool)
set_option maxRecDepth 100000 in
set_option maxHeartbeats 4000000 in
theorem codes_write : Codes 69 tWrite := by
  intro g b T o pre post s c ok x w h ho
  have L0 := Lib.hid (Left.start h ho)
  clear h ho
  go_enter Try.func69, Try.ntmps69
  go_wp2_with fail
  go_region_with (go_at_call 57; refine (Left.texts (n := 1) (o := o) L0.out below2 (ptrs2 rfl) (by decide) rfl).mono ?_; rintro e w1 ⟨rfl, l1⟩)
  have L1 : Hid (Left _ g b T (o + 2) post .bool w1) := Lib.hid l1
  clear l1
  go_wp2_with fail
  refine (Left.codes_last (o := o + 2) codes_flag L1.out (Below.refl _ _)).mono ?_
  rintro e w2 ⟨rfl, l2⟩
  have L2 := Lib.hid l2
  clear l2
  go_wp2_with fail
  go_end0
  exact ⟨rfl, L2.out⟩
def tVersion : Ty := (.pair (ints 0) (.pair (reps .str 0) .bool))
set_option maxRecDepth 100000 in
set_option maxHeartbeats 4000000 in
theorem codes_version : Codes 82 tVersion := by
  intro g b T o pre post s c ok x w h ho
  have L0 := Lib.hid (Left.start h ho)
  clear h ho
  go_enter Try.func82, Try.ntmps82
  go_wp2_with fail
  refine (Left.nums (n := 0) (o := o) L0.out below1 (ptrs1 rfl) (by decide) rfl).mono ?_
  rintro e w1 ⟨rfl, l1⟩
  have L1 : Hid (Left _ g b T (o + 1) post (.pair (reps .str 0) .bool) w1) := Lib.hid l1
  clear l1
  go_wp2_with fail
  refine (Left.texts (n := 0) (o := o + 1) L1.out below1 (ptrs1 rfl) (by decide) rfl).mono ?_
  rintro e w2 ⟨rfl, l2⟩
  have L2 : Hid (Left _ g b T (o + 2) post .bool w2) := Lib.hid l2
  clear l2
  go_wp2_with fail
  refine (Left.codes_last (o := o + 2) codes_flag L2.out (Below.refl _ _)).mono ?_
  rintro e w3 ⟨rfl, l3⟩
  have L3 := Lib.hid l3
  clear l3
  go_wp2_with fail
  go_end0
  exact ⟨rfl, L3.out⟩
def tLease : Ty := (ints 2)
set_option maxRecDepth 100000 in
set_option maxHeartbeats 4000000 in
theorem codes_lease : Codes 77 tLease := by
  intro g b T o pre post s c ok x w h ho
  have L0 := Lib.hid (Left.start h ho)
  clear h ho
  go_enter Try.func77, Try.ntmps77
  go_wp2_with fail
  go_region_with (go_at_call 53; refine (Left.nums_last (n := 2) (o := o) L0.out below2 (ptrs2 rfl) (by decide) rfl).mono ?_; rintro e w1 ⟨rfl, l1⟩)
  have L1 := Lib.hid l1
  clear l1
  go_wp2_with fail
  go_end0
  exact ⟨rfl, L1.out⟩
def tRecord : Ty := (.pair tTid (ints 0))
set_option maxRecDepth 100000 in
set_option maxHeartbeats 4000000 in
theorem codes_record : Codes 63 tRecord := by
  intro g b T o pre post s c ok x w h ho
  have L0 := Lib.hid (Left.start h ho)
  clear h ho
  go_enter Try.func63, Try.ntmps63
  go_wp2_with fail
  refine (Left.codes (o := o) codes_tid L0.out (Below.refl _ _)).mono ?_
  rintro e w1 ⟨rfl, l1⟩
  have L1 : Hid (Left _ g b T (o + 3) post (ints 0) w1) := Lib.hid l1
  clear l1
  go_wp2_with fail
  refine (Left.nums_last (n := 0) (o := o + 3) L1.out below1 (ptrs1 rfl) (by decide) rfl).mono ?_
  rintro e w2 ⟨rfl, l2⟩
  have L2 := Lib.hid l2
  clear l2
  go_wp2_with fail
  go_end0
  exact ⟨rfl, L2.out⟩
def tValue : Ty := (.pair (ints 0) (.pair .int (reps .str 0)))
set_option maxRecDepth 100000 in
set_option maxHeartbeats 4000000 in
theorem codes_value : Codes 87 tValue := by
  intro g b T o pre post s c ok x w h ho
  have L0 := Lib.hid (Left.start h ho)
  clear h ho
  go_enter Try.func87, Try.ntmps87
  go_wp2_with fail
  refine (Left.nums (n := 0) (o := o) L0.out below1 (ptrs1 rfl) (by decide) rfl).mono ?_
  rintro e w1 ⟨rfl, l1⟩
  have L1 : Hid (Left _ g b T (o + 1) post (.pair .int (reps .str 0)) w1) := Lib.hid l1
  clear l1
  go_wp2_with fail
  refine (Left.codes (o := o + 1) codes_long L1.out (Below.refl _ _)).mono ?_
  rintro e w2 ⟨rfl, l2⟩
  have L2 : Hid (Left _ g b T (o + 2) post (reps .str 0) w2) := Lib.hid l2
  clear l2
  go_wp2_with fail
  refine (Left.texts_last (n := 0) (o := o + 2) L2.out below1 (ptrs1 rfl) (by decide) rfl).mono ?_
  rintro e w3 ⟨rfl, l3⟩
  have L3 := Lib.hid l3
  clear l3
  go_wp2_with fail
  go_end0
  exact ⟨rfl, L3.out⟩
def tColumn : Ty := (.pair (ints 0) (.pair (reps .str 0) (.pair (ints 1) tValue)))
set_option maxRecDepth 100000 in
set_option maxHeartbeats 4000000 in
theorem codes_column : Codes 89 tColumn := by
  intro g b T o pre post s c ok x w h ho
  have L0 := Lib.hid (Left.start h ho)
  clear h ho
  go_enter Try.func89, Try.ntmps89
  go_wp2_with fail
  refine (Left.nums (n := 0) (o := o) L0.out below1 (ptrs1 rfl) (by decide) rfl).mono ?_
  rintro e w1 ⟨rfl, l1⟩
  have L1 : Hid (Left _ g b T (o + 1) post (.pair (reps .str 0) (.pair (ints 1) tValue)) w1) := Lib.hid l1
  clear l1
  go_wp2_with fail
  refine (Left.texts (n := 0) (o := o + 1) L1.out below1 (ptrs1 rfl) (by decide) rfl).mono ?_
  rintro e w2 ⟨rfl, l2⟩
  have L2 : Hid (Left _ g b T (o + 2) post (.pair (ints 1) tValue) w2) := Lib.hid l2
  clear l2
  go_wp2_with fail
  go_region_with (go_at_call 53; refine (Left.nums (n := 1) (o := o + 2) L2.out below2 (ptrs2 rfl) (by decide) rfl).mono ?_; rintro e w3 ⟨rfl, l3⟩)
  have L3 : Hid (Left _ g b T (o + 4) post tValue w3) := Lib.hid l3
  clear l3
  go_wp2_with fail
  refine (Left.codes_last (o := o + 4) codes_value L3.out (Below.refl _ _)).mono ?_
  rintro e w4 ⟨rfl, l4⟩
  have L4 := Lib.hid l4
  clear l4
  go_wp2_with fail
  go_end0
  exact ⟨rfl, L4.out⟩
def tIndex : Ty := (.pair (ints 0) (.pair (reps .str 0) (.pair (ints 0) (.pair .bool (ints 0)))))
set_option maxRecDepth 100000 in
set_option maxHeartbeats 4000000 in
theorem codes_index : Codes 91 tIndex := by
  intro g b T o pre post s c ok x w h ho
  have L0 := Lib.hid (Left.start h ho)
  clear h ho
  go_enter Try.func91, Try.ntmps91
  go_wp2_with fail
  refine (Left.nums (n := 0) (o := o) L0.out below1 (ptrs1 rfl) (by decide) rfl).mono ?_
  rintro e w1 ⟨rfl, l1⟩
  have L1 : Hid (Left _ g b T (o + 1) post (.pair (reps .str 0) (.pair (ints 0) (.pair .bool (ints 0)))) w1) := Lib.hid l1
  clear l1
  go_wp2_with fail
  refine (Left.texts (n := 0) (o := o + 1) L1.out below1 (ptrs1 rfl) (by decide) rfl).mono ?_
  rintro e w2 ⟨rfl, l2⟩
  have L2 : Hid (Left _ g b T (o + 2) post (.pair (ints 0) (.pair .bool (ints 0))) w2) := Lib.hid l2
  clear l2
  go_wp2_with fail
  refine (Left.nums (n := 0) (o := o + 2) L2.out below1 (ptrs1 rfl) (by decide) rfl).mono ?_
  rintro e w3 ⟨rfl, l3⟩
  have L3 : Hid (Left _ g b T (o + 3) post (.pair .bool (ints 0)) w3) := Lib.hid l3
  clear l3
  go_wp2_with fail
  refine (Left.codes (o := o + 3) codes_flag L3.out (Below.refl _ _)).mono ?_
  rintro e w4 ⟨rfl, l4⟩
  have L4 : Hid (Left _ g b T (o + 4) post (ints 0) w4) := Lib.hid l4
  clear l4
  go_wp2_with fail
  refine (Left.nums_last (n := 0) (o := o + 4) L4.out below1 (ptrs1 rfl) (by decide) rfl).mono ?_
  rintro e w5 ⟨rfl, l5⟩
  have L5 := Lib.hid l5
  clear l5
  go_wp2_with fail
  go_end0
  exact ⟨rfl, L5.out⟩
def tForeign : Ty := (.pair (ints 0) (.pair (reps .str 0) (ints 2)))
set_option maxRecDepth 100000 in
set_option maxHeartbeats 4000000 in
theorem codes_foreign : Codes 93 tForeign := by
  intro g b T o pre post s c ok x w h ho
  have L0 := Lib.hid (Left.start h ho)
  clear h ho
  go_enter Try.func93, Try.ntmps93
  go_wp2_with fail
  refine (Left.nums (n := 0) (o := o) L0.out below1 (ptrs1 rfl) (by decide) rfl).mono ?_
  rintro e w1 ⟨rfl, l1⟩
  have L1 : Hid (Left _ g b T (o + 1) post (.pair (reps .str 0) (ints 2)) w1) := Lib.hid l1
  clear l1
  go_wp2_with fail
  refine (Left.texts (n := 0) (o := o + 1) L1.out below1 (ptrs1 rfl) (by decide) rfl).mono ?_
  rintro e w2 ⟨rfl, l2⟩
  have L2 : Hid (Left _ g b T (o + 2) post (ints 2) w2) := Lib.hid l2
  clear l2
  go_wp2_with fail
  go_region_with (go_at_call 53; refine (Left.nums_last (n := 2) (o := o + 2) L2.out below2 (ptrs2 rfl) (by decide) rfl).mono ?_; rintro e w3 ⟨rfl, l3⟩)
  have L3 := Lib.hid l3
  clear l3
  go_wp2_with fail
  go_end0
  exact ⟨rfl, L3.out⟩
end Go.Proofs.Ytlcgkcmicklihaa.Wire
