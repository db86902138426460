/- The reference over a change of a ballot. -/
import Derived.Test.YtlcgkcmicklihaaRLib
namespace Go.Proofs.Ytlcgkcmicklihaa.Wire
set_option linter.unusedVariables false
set_option linter.unusedSimpArgs false
open Go.RowKit Go.Proofs.YtlcgkcmicklihaaW.PrintWords Go.Proofs.YtlcgkcmicklihaaW.PrintLast Go.Proofs.YtlcgkcmicklihaaW.PrintMore
set_option maxRecDepth 100000 in
set_option maxHeartbeats 8000000 in
theorem delta_refL (y0 : Int) (y1 : Int) (y2 : Bool) (y3 : Int) (y4 : Int) (y5 : ByteArray) (y6 : Int) (y7 : List tEntry.T) (cs : List Value) (ok : Nat → Prop) (w : World) (hH : Holds w ok tDelta ((y0, y1), (y2, ((y3, y4), (y5, (y6, y7))))) cs) (hok : tDelta.cod.ok ((y0, y1), (y2, ((y3, y4), (y5, (y6, y7)))))) (hlen : (tDelta.cod.enc ((y0, y1), (y2, ((y3, y4), (y5, (y6, y7)))))).length ≤ 68719476736) :
    Calls Try.prog 16 #[.agg cs.toArray] w fun e w' => e = .returned (.string (mkb (tDelta.cod.enc ((y0, y1), (y2, ((y3, y4), (y5, (y6, y7)))))))) ∧ Below w.heap.size w w' := by
  obtain ⟨ca1, cb1, rfl, ha1, hb1⟩ := Holds.pair_cell hH
  obtain ⟨ca2, cb2, rfl, ha2, hb2⟩ := Holds.pair_cell ha1
  obtain rfl := Holds.int_cell ha2
  obtain rfl := Holds.int_cell hb2
  obtain ⟨ca3, cb3, rfl, ha3, hb3⟩ := Holds.pair_cell hb1
  obtain rfl := Holds.bool_cell ha3
  obtain ⟨ca4, cb4, rfl, ha4, hb4⟩ := Holds.pair_cell hb3
  obtain ⟨ca5, cb5, rfl, ha5, hb5⟩ := Holds.pair_cell ha4
  obtain rfl := Holds.int_cell ha5
  obtain rfl := Holds.int_cell hb5
  obtain ⟨ca6, cb6, rfl, ha6, hb6⟩ := Holds.pair_cell hb4
  obtain rfl := Holds.str_cell ha6
  obtain ⟨ca7, cb7, rfl, ha7, hb7⟩ := Holds.pair_cell hb6
  obtain rfl := Holds.int_cell ha7
  obtain ⟨A7, cap7, rfl, hh7⟩ := Holds.list_cell hb7
  clear ha1 ha2 hb2 hb1 ha3 hb3 ha4 ha5 hb5 hb4 ha6 hb6 ha7 hb7
  obtain ⟨R0, hR0⟩ : ∃ R, [y0, y1].flatMap num = R := ⟨_, rfl⟩
  obtain ⟨R1, hR1⟩ : ∃ R, cFlag.enc y2 = R := ⟨_, rfl⟩
  obtain ⟨R2, hR2⟩ : ∃ R, [y3, y4].flatMap num = R := ⟨_, rfl⟩
  obtain ⟨R3, hR3⟩ : ∃ R, cStr.enc y5 = R := ⟨_, rfl⟩
  obtain ⟨R4, hR4⟩ : ∃ R, [y6].flatMap num = R := ⟨_, rfl⟩
  obtain ⟨R5, hR5⟩ : ∃ R, (Ty.list tEntry).cod.enc y7 = R := ⟨_, rfl⟩
  obtain ⟨P1, hP1⟩ : ∃ P, R0 ++ R1 = P := ⟨_, rfl⟩
  obtain ⟨P2, hP2⟩ : ∃ P, P1 ++ R2 = P := ⟨_, rfl⟩
  obtain ⟨P3, hP3⟩ : ∃ P, P2 ++ R3 = P := ⟨_, rfl⟩
  obtain ⟨P4, hP4⟩ : ∃ P, P3 ++ R4 = P := ⟨_, rfl⟩
  obtain ⟨P5, hP5⟩ : ∃ P, P4 ++ R5 = P := ⟨_, rfl⟩
  have hE : tDelta.cod.enc ((y0, y1), (y2, ((y3, y4), (y5, (y6, y7))))) = P5 := by
    have h1 : tDelta.cod.enc ((y0, y1), (y2, ((y3, y4), (y5, (y6, y7))))) = ((num y0 ++ num y1) ++ (cFlag.enc y2 ++ ((num y3 ++ num y4) ++ (cStr.enc y5 ++ (num y6 ++ (Ty.list tEntry).cod.enc y7))))) := rfl
    rw [h1, ← hP5, ← hP4, ← hP3, ← hP2, ← hP1, ← hR0, ← hR1, ← hR2, ← hR3, ← hR4, ← hR5]
    simp only [List.append_assoc, List.flatMap_cons, List.flatMap_nil, List.append_nil]
  rw [hE] at hlen
  rw [hE]
  have hl5 : P4.length + R5.length ≤ 68719476736 := by rw [← List.length_append, hP5]; exact hlen
  have hl4 : P3.length + R4.length ≤ 68719476736 := by rw [← List.length_append, hP4]; omega
  have hl3 : P2.length + R3.length ≤ 68719476736 := by rw [← List.length_append, hP3]; omega
  have hl2 : P1.length + R2.length ≤ 68719476736 := by rw [← List.length_append, hP2]; omega
  have hl1 : R0.length + R1.length ≤ 68719476736 := by rw [← List.length_append, hP1]; omega
  have HF0 := Lib.hid (show ∀ n ∈ [y0, y1], Fits n from fits_cons hok.1.1 (fits_cons hok.1.2 (fits_nil)))
  have HF2 := Lib.hid (show ∀ n ∈ [y3, y4], Fits n from fits_cons hok.2.2.1.1 (fits_cons hok.2.2.1.2 (fits_nil)))
  have hs3 : y5.size ≤ 281474976710656 := str_size hR3 (by omega)
  have HF4 := Lib.hid (show ∀ n ∈ [y6], Fits n from fits_cons hok.2.2.2.2.1 (fits_nil))
  have HO5 := Lib.hid hok.2.2.2.2.2
  have HLn5 := Lib.hid (show ((Ty.list tEntry).cod.enc y7).length ≤ 68719476736 by rw [hR5]; omega)
  have hll5 : y7.length ≤ 9223372036854775807 := hok.2.2.2.2.2.1
  have sa1 : ¬ 9223372036854775807 < (mkb R0).size + (mkb R1).size := by simp only [mkb_size]; omega
  have sc1 : mkb R0 ++ mkb R1 = mkb P1 := by rw [mkb_append, hP1]
  have sa2 : ¬ 9223372036854775807 < (mkb P1).size + (mkb R2).size := by simp only [mkb_size]; omega
  have sc2 : mkb P1 ++ mkb R2 = mkb P2 := by rw [mkb_append, hP2]
  have sa3 : ¬ 9223372036854775807 < (mkb P2).size + (mkb R3).size := by simp only [mkb_size]; omega
  have sc3 : mkb P2 ++ mkb R3 = mkb P3 := by rw [mkb_append, hP3]
  have sa4 : ¬ 9223372036854775807 < (mkb P3).size + (mkb R4).size := by simp only [mkb_size]; omega
  have sc4 : mkb P3 ++ mkb R4 = mkb P4 := by rw [mkb_append, hP4]
  have sa5 : ¬ 9223372036854775807 < (mkb P4).size + (mkb R5).size := by simp only [mkb_size]; omega
  have sc5 : mkb P4 ++ mkb R5 = mkb P5 := by rw [mkb_append, hP5]
  obtain ⟨wb, hwb⟩ : ∃ wb, w.alloc (.cells #[.int .i64 y0, .int .i64 y1, .bool y2, .int .i64 y3, .int .i64 y4, .string y5, .int .i64 y6, .slice A7 y7.length cap7] 33) = wb := ⟨_, rfl⟩
  have hbb : Below w.heap.size w wb := by rw [← hwb]; exact (Below.refl _ _).alloc (Nat.le_refl _) _
  have q0 : wb.cell? ⟨w.heap.size, 0, none⟩ = some (.int .i64 y0) := by rw [← hwb]; exact (blk_cell (blk_new w _) 0).trans rfl
  have q1 : wb.cell? ⟨w.heap.size, 1, none⟩ = some (.int .i64 y1) := by rw [← hwb]; exact (blk_cell (blk_new w _) 1).trans rfl
  have q2 : wb.cell? ⟨w.heap.size, 2, none⟩ = some (.bool y2) := by rw [← hwb]; exact (blk_cell (blk_new w _) 2).trans rfl
  have q3 : wb.cell? ⟨w.heap.size, 3, none⟩ = some (.int .i64 y3) := by rw [← hwb]; exact (blk_cell (blk_new w _) 3).trans rfl
  have q4 : wb.cell? ⟨w.heap.size, 4, none⟩ = some (.int .i64 y4) := by rw [← hwb]; exact (blk_cell (blk_new w _) 4).trans rfl
  have q5 : wb.cell? ⟨w.heap.size, 5, none⟩ = some (.string y5) := by rw [← hwb]; exact (blk_cell (blk_new w _) 5).trans rfl
  have q6 : wb.cell? ⟨w.heap.size, 6, none⟩ = some (.int .i64 y6) := by rw [← hwb]; exact (blk_cell (blk_new w _) 6).trans rfl
  have q7 : wb.cell? ⟨w.heap.size, 7, none⟩ = some (.slice A7 y7.length cap7) := by rw [← hwb]; exact (blk_cell (blk_new w _) 7).trans rfl
  have hNb : w.heap.size < wb.heap.size := by rw [← hwb]; simp
  have HH5 := Lib.hid (hh7.below hbb)
  have HBB := Lib.hid hbb
  have HR0 := Lib.hid hR0
  have HR1 := Lib.hid hR1
  have HR2 := Lib.hid hR2
  have HR3 := Lib.hid hR3
  have HR4 := Lib.hid hR4
  have HR5 := Lib.hid hR5
  clear hE hlen hok hbb hR0 hR1 hR2 hR3 hR4 hR5 hP1 hP2 hP3 hP4 hP5 hh7
  show Calls Try.prog 16 #[.agg #[.int .i64 y0, .int .i64 y1, .bool y2, .int .i64 y3, .int .i64 y4, .string y5, .int .i64 y6, .slice A7 y7.length cap7]] w _
  go_enter Try.func16, Try.ntmps16
  go_wp2_with fail
  clear hwb
  have hB0 : Below wb.heap.size wb wb := Below.refl _ _
  have KK : Hid (∀ w', Below wb.heap.size wb w' → (Below wb.heap.size wb w' ∧ w'.cell? ⟨w.heap.size, 0, none⟩ = some (.int .i64 y0) ∧ w'.cell? ⟨w.heap.size, 1, none⟩ = some (.int .i64 y1) ∧ w'.cell? ⟨w.heap.size, 2, none⟩ = some (.bool y2) ∧ w'.cell? ⟨w.heap.size, 3, none⟩ = some (.int .i64 y3) ∧ w'.cell? ⟨w.heap.size, 4, none⟩ = some (.int .i64 y4) ∧ w'.cell? ⟨w.heap.size, 5, none⟩ = some (.string y5) ∧ w'.cell? ⟨w.heap.size, 6, none⟩ = some (.int .i64 y6) ∧ w'.cell? ⟨w.heap.size, 7, none⟩ = some (.slice A7 y7.length cap7))) := Lib.hid (fun w' hX => ⟨hX, keep1 q0 hX, keep1 q1 hX, keep1 q2 hX, keep1 q3 hX, keep1 q4 hX, keep1 q5 hX, keep1 q6 hX, keep1 q7 hX⟩)
  go_region_held3 (fun w' => Below wb.heap.size wb w' ∧ w'.cell? ⟨w.heap.size, 0, none⟩ = some (.int .i64 y0) ∧ w'.cell? ⟨w.heap.size, 1, none⟩ = some (.int .i64 y1) ∧ w'.cell? ⟨w.heap.size, 2, none⟩ = some (.bool y2) ∧ w'.cell? ⟨w.heap.size, 3, none⟩ = some (.int .i64 y3) ∧ w'.cell? ⟨w.heap.size, 4, none⟩ = some (.int .i64 y4) ∧ w'.cell? ⟨w.heap.size, 5, none⟩ = some (.string y5) ∧ w'.cell? ⟨w.heap.size, 6, none⟩ = some (.int .i64 y6) ∧ w'.cell? ⟨w.heap.size, 7, none⟩ = some (.slice A7 y7.length cap7))
    (first | ((with_reducible refine KK.out _ ?_); (repeat (first | with_reducible refine bel_drew ?_ | with_reducible refine bel_alloc ?_)); first | with_reducible exact hB6 | with_reducible exact hB5 | with_reducible exact hB4 | with_reducible exact hB3 | with_reducible exact hB2 | with_reducible exact hB1 | with_reducible exact hB0))
    (first | (go_at_call 31; have hp := hB5; refine (list_ref' entries_all y7 _ _ _ R5 HR5.out _ (HH5.out.below (by (repeat (first | with_reducible refine bel_drew ?_ | with_reducible refine bel_alloc ?_)); with_reducible exact hp)) HO5.out HLn5.out).mono ?_; rintro e w6 ⟨rfl, hr6⟩; have hB6 : Below wb.heap.size wb w6 := below_step (by (repeat (first | with_reducible refine bel_drew ?_ | with_reducible refine bel_alloc ?_)); with_reducible exact hp) hr6) | (go_at_call 29; have hp := hB4; refine (nums_at [y6] R4 HR4.out 1 rfl _ 1 _ (by decide) HF4.out (by repeat (first | ((with_reducible refine rowB ?_ ?_); rfl; (first | (with_reducible rfl) | (simp; done)); done) | with_reducible refine row_drew ?_ | with_reducible refine row_alloc ?_ | with_reducible refine row_below hr6 ?_ | with_reducible refine row_below hr5 ?_ | with_reducible refine row_below hr4 ?_ | with_reducible refine row_below hr3 ?_ | with_reducible refine row_below hr2 ?_ | with_reducible refine row_below hr1 ?_))).mono ?_; rintro e w5 ⟨rfl, hr5⟩; have hB5 : Below wb.heap.size wb w5 := below_step (by (repeat (first | with_reducible refine bel_drew ?_ | with_reducible refine bel_alloc ?_)); with_reducible exact hp) hr5) | (go_at_call 32; have hp := hB3; refine (text_ref' y5 R3 HR3.out _ hs3).mono ?_; rintro e w4 ⟨rfl, hr4⟩; have hB4 : Below wb.heap.size wb w4 := below_step (by (repeat (first | with_reducible refine bel_drew ?_ | with_reducible refine bel_alloc ?_)); with_reducible exact hp) hr4) | (go_at_call 29; have hp := hB2; refine (nums_at [y3, y4] R2 HR2.out 2 rfl _ 2 _ (by decide) HF2.out (by repeat (first | ((with_reducible refine rowB ?_ ?_); rfl; (first | (with_reducible rfl) | (simp; done)); done) | with_reducible refine row_drew ?_ | with_reducible refine row_alloc ?_ | with_reducible refine row_below hr6 ?_ | with_reducible refine row_below hr5 ?_ | with_reducible refine row_below hr4 ?_ | with_reducible refine row_below hr3 ?_ | with_reducible refine row_below hr2 ?_ | with_reducible refine row_below hr1 ?_))).mono ?_; rintro e w3 ⟨rfl, hr3⟩; have hB3 : Below wb.heap.size wb w3 := below_step (by (repeat (first | with_reducible refine bel_drew ?_ | with_reducible refine bel_alloc ?_)); with_reducible exact hp) hr3) | (go_at_call 30; have hp := hB1; refine (flag_ref' y2 R1 HR1.out _).mono ?_; rintro e w2 ⟨rfl, hr2⟩; have hB2 : Below wb.heap.size wb w2 := below_step (by (repeat (first | with_reducible refine bel_drew ?_ | with_reducible refine bel_alloc ?_)); with_reducible exact hp) hr2) | (go_at_call 29; have hp := hB0; refine (nums_at [y0, y1] R0 HR0.out 2 rfl _ 2 _ (by decide) HF0.out (by repeat (first | ((with_reducible refine rowB ?_ ?_); rfl; (first | (with_reducible rfl) | (simp; done)); done) | with_reducible refine row_drew ?_ | with_reducible refine row_alloc ?_ | with_reducible refine row_below hr6 ?_ | with_reducible refine row_below hr5 ?_ | with_reducible refine row_below hr4 ?_ | with_reducible refine row_below hr3 ?_ | with_reducible refine row_below hr2 ?_ | with_reducible refine row_below hr1 ?_))).mono ?_; rintro e w1 ⟨rfl, hr1⟩; have hB1 : Below wb.heap.size wb w1 := below_step (by (repeat (first | with_reducible refine bel_drew ?_ | with_reducible refine bel_alloc ?_)); with_reducible exact hp) hr1))
  all_goals
    go_wp2_with fail
    go_ret
    exact ⟨rfl, below_then' HBB.out hB6⟩
theorem delta_ref (x : tDelta.T) (cs : List Value) (ok : Nat → Prop) (w : World) (hH : Holds w ok tDelta x cs) (hok : tDelta.cod.ok x) (hlen : (tDelta.cod.enc x).length ≤ 68719476736) :
    Calls Try.prog 16 #[.agg cs.toArray] w fun e w' => e = .returned (.string (mkb (tDelta.cod.enc x))) ∧ Below w.heap.size w w' := by
  obtain ⟨⟨y0, y1⟩, ⟨y2, ⟨⟨y3, y4⟩, ⟨y5, ⟨y6, y7⟩⟩⟩⟩⟩ := x
  exact delta_refL y0 y1 y2 y3 y4 y5 y6 y7 cs ok w hH hok hlen
end Go.Proofs.Ytlcgkcmicklihaa.Wire
