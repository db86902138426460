/- The reference over a change of the schema. -/
import Derived.Test.YtlcgkcmicklihaaRVal
import Derived.Test.YtlcgkcmicklihaaIE
namespace Go.Proofs.Ytlcgkcmicklihaa.Wire
set_option linter.unusedVariables false
set_option linter.unusedSimpArgs false
open Go.RowKit Go.Proofs.YtlcgkcmicklihaaW.PrintWords Go.Proofs.YtlcgkcmicklihaaW.PrintLast Go.Proofs.YtlcgkcmicklihaaW.PrintMore
set_option maxRecDepth 100000 in
set_option maxHeartbeats 8000000 in
theorem columns_all : ListRef 73 tColumn := by
  intro l A cap ok w hH hok hlen
  obtain ⟨L, hL⟩ : ∃ L, l.length = L := ⟨_, rfl⟩
  have hl : l.length ≤ top := hok.1
  have hL2 : L ≤ 9223372036854775807 := by rw [← hL]; exact hl
  have he : (Ty.list tColumn).cod.enc l = num (L : Int) ++ encs tColumn.cod l := by rw [← hL]; rfl
  have HH := Lib.hid hH
  have HOK := Lib.hid hok
  have HLEN := Lib.hid hlen
  have HE := Lib.hid he
  rw [hL]
  have HL := Lib.hid hL
  clear hL hH hok hlen he hl
  go_enter Try.func73, Try.ntmps73
  go_wp2_with fail
  refine (num_ref (L : Int) _ ⟨by omega, by omega⟩).mono ?_
  rintro e w1 ⟨rfl, hb0⟩
  have HB0 := Lib.hid hb0
  clear hb0
  go_wp2_with fail
  go_loopw [3, 4] (fun v3 v4 wr => ∃ k : Nat, v4 = .int .i64 (k : Int) ∧ k ≤ L ∧ v3 = .string (mkb (num (L : Int) ++ encs tColumn.cod (l.take k))) ∧ Below w.heap.size w wr) (fun _ v4 _ => L - (intOf v4).toNat)
  case atStart => exact ⟨0, rfl, by omega, by simp [encs], HB0.out⟩
  case round =>
    obtain ⟨k, rfl, hk, rfl, hb⟩ := hrel
    have HB := Lib.hid hb
    clear hb
    by_cases hlt : k < L
    · obtain ⟨y, hy⟩ : ∃ y, l[k]? = some y := ⟨_, List.getElem?_eq_getElem (by rw [HL.out]; exact hlt)⟩
      obtain ⟨ab, ao, cs, rfl, hoka, hHy, hcs⟩ := HH.out.list_at hy
      obtain ⟨hyok, hsz1⟩ := entry_fits HOK.out HLEN.out hy
      obtain ⟨y0, y1, y2, y3, y4, y5, y6, rfl⟩ : ∃ (y0 : Int) (y1 : ByteArray) (y2 : Int) (y3 : Int) (y4 : Int) (y5 : Int) (y6 : ByteArray), y = (y0, (y1, ((y2, y3), (y4, (y5, y6))))) := by
        obtain ⟨y0, ⟨y1, ⟨⟨y2, y3⟩, ⟨y4, ⟨y5, y6⟩⟩⟩⟩⟩ := y
        exact ⟨_, _, _, _, _, _, _, rfl⟩
      obtain ⟨ca1, cb1, rfl, ha1, hb1⟩ := Holds.pair_cell hHy
      obtain rfl := Holds.int_cell ha1
      obtain ⟨ca2, cb2, rfl, ha2, hb2⟩ := Holds.pair_cell hb1
      obtain rfl := Holds.str_cell ha2
      obtain ⟨ca3, cb3, rfl, ha3, hb3⟩ := Holds.pair_cell hb2
      obtain ⟨ca4, cb4, rfl, ha4, hb4⟩ := Holds.pair_cell ha3
      obtain rfl := Holds.int_cell ha4
      obtain rfl := Holds.int_cell hb4
      have hsub3 := hb3
      obtain ⟨ca5, cb5, rfl, ha5, hb5⟩ := Holds.pair_cell hb3
      obtain rfl := Holds.int_cell ha5
      obtain ⟨ca6, cb6, rfl, ha6, hb6⟩ := Holds.pair_cell hb5
      obtain rfl := Holds.int_cell ha6
      obtain rfl := Holds.str_cell hb6
      have m0 : w.cell? ⟨ab, ao + k * 7, none⟩ = some (.int .i64 y0) := hcs 0 _ rfl
      have m1 : w.cell? ⟨ab, ao + k * 7 + 1, none⟩ = some (.string y1) := hcs 1 _ rfl
      have m2 : w.cell? ⟨ab, ao + k * 7 + 2, none⟩ = some (.int .i64 y2) := hcs 2 _ rfl
      have m3 : w.cell? ⟨ab, ao + k * 7 + 3, none⟩ = some (.int .i64 y3) := hcs 3 _ rfl
      have m4 : w.cell? ⟨ab, ao + k * 7 + 4, none⟩ = some (.int .i64 y4) := hcs 4 _ rfl
      have m5 : w.cell? ⟨ab, ao + k * 7 + 5, none⟩ = some (.int .i64 y5) := hcs 5 _ rfl
      have m6 : w.cell? ⟨ab, ao + k * 7 + 6, none⟩ = some (.string y6) := hcs 6 _ rfl
      have q0 := keep1 m0 HB.out
      have q1 := keep1 m1 HB.out
      have q2 := keep1 m2 HB.out
      have q3 := keep1 m3 HB.out
      have q4 := keep1 m4 HB.out
      have q5 := keep1 m5 HB.out
      have q6 := keep1 m6 HB.out
      obtain ⟨R0, hR0⟩ : ∃ R, num y0 = R := ⟨_, rfl⟩
      obtain ⟨R1, hR1⟩ : ∃ R, cStr.enc y1 = R := ⟨_, rfl⟩
      obtain ⟨R2, hR2⟩ : ∃ R, [y2, y3].flatMap num = R := ⟨_, rfl⟩
      obtain ⟨R3, hR3⟩ : ∃ R, tValue.cod.enc (y4, (y5, y6)) = R := ⟨_, rfl⟩
      obtain ⟨Pp, hPp⟩ : ∃ P, num (L : Int) ++ encs tColumn.cod (l.take k) = P := ⟨_, rfl⟩
      obtain ⟨P0, hP0⟩ : ∃ P, Pp ++ R0 = P := ⟨_, rfl⟩
      obtain ⟨P1, hP1⟩ : ∃ P, P0 ++ R1 = P := ⟨_, rfl⟩
      obtain ⟨P2, hP2⟩ : ∃ P, P1 ++ R2 = P := ⟨_, rfl⟩
      obtain ⟨P3, hP3⟩ : ∃ P, P2 ++ R3 = P := ⟨_, rfl⟩
      have hE : Pp ++ tColumn.cod.enc (y0, (y1, ((y2, y3), (y4, (y5, y6))))) = P3 := by
        have h1 : tColumn.cod.enc (y0, (y1, ((y2, y3), (y4, (y5, y6))))) = (num y0 ++ (cStr.enc y1 ++ ((num y2 ++ num y3) ++ (num y4 ++ (num y5 ++ cStr.enc y6))))) := rfl
        rw [h1, ← hP3, ← hP2, ← hP1, ← hP0, ← hR0, ← hR1, ← hR2, ← hR3]
        have h13 : tValue.cod.enc (y4, (y5, y6)) = (num y4 ++ (num y5 ++ cStr.enc y6)) := rfl
        rw [h13]
        simp only [List.append_assoc, List.flatMap_cons, List.flatMap_nil, List.append_nil]
      rw [HL.out, hPp] at hsz1
      rw [hPp]
      have hl4 : P3.length ≤ 68719476736 := by rw [← hE, List.length_append]; exact hsz1
      have hl3 : P2.length + R3.length ≤ 68719476736 := by rw [← List.length_append, hP3]; exact hl4
      have hl2 : P1.length + R2.length ≤ 68719476736 := by rw [← List.length_append, hP2]; omega
      have hl1 : P0.length + R1.length ≤ 68719476736 := by rw [← List.length_append, hP1]; omega
      have hl0 : Pp.length + R0.length ≤ 68719476736 := by rw [← List.length_append, hP0]; omega
      have HF0 := Lib.hid (show Fits y0 from hyok.1)
      have hs1 : y1.size ≤ 281474976710656 := str_size hR1 (by omega)
      have HF2 := Lib.hid (show ∀ n ∈ [y2, y3], Fits n from fits_cons hyok.2.2.1.1 (fits_cons hyok.2.2.1.2 (fits_nil)))
      have HO3 := Lib.hid (show tValue.cod.ok (y4, (y5, y6)) from hyok.2.2.2)
      have HLn3 := Lib.hid (show (tValue.cod.enc (y4, (y5, y6))).length ≤ 68719476736 by rw [hR3]; omega)
      have HHs3 := Lib.hid (hsub3.below HB.out)
      have sa0 : ¬ 9223372036854775807 < (mkb Pp).size + (mkb R0).size := by simp only [mkb_size]; omega
      have sc0 : mkb Pp ++ mkb R0 = mkb P0 := by rw [mkb_append, hP0]
      have sa1 : ¬ 9223372036854775807 < (mkb P0).size + (mkb R1).size := by simp only [mkb_size]; omega
      have sc1 : mkb P0 ++ mkb R1 = mkb P1 := by rw [mkb_append, hP1]
      have sa2 : ¬ 9223372036854775807 < (mkb P1).size + (mkb R2).size := by simp only [mkb_size]; omega
      have sc2 : mkb P1 ++ mkb R2 = mkb P2 := by rw [mkb_append, hP2]
      have sa3 : ¬ 9223372036854775807 < (mkb P2).size + (mkb R3).size := by simp only [mkb_size]; omega
      have sc3 : mkb P2 ++ mkb R3 = mkb P3 := by rw [mkb_append, hP3]
      have hab : ab < wr.heap.size := World.block_lt_of_cell? wr _ q0
      have HY := Lib.hid hy
      have HPE := Lib.hid hE
      have HPp := Lib.hid hPp
      have HR0 := Lib.hid hR0
      have HR1 := Lib.hid hR1
      have HR2 := Lib.hid hR2
      have HR3 := Lib.hid hR3
      clear hcs hy hsz1 hyok hE hPp hoka m0 m1 m2 m3 m4 m5 m6 hR0 hP0 hR1 hP1 hR2 hP2 hR3 hP3 hHy ha1 hb1 ha2 hb2 ha3 ha4 hb4 hb3 ha5 hb5 ha6 hb6 hsub3
      have b0 : (0 : Int) ≤ (k : Int) := by omega
      have b1 : (k : Int) < (L : Int) := by omega
      go_wp2_with fail
      have hB0 : Below wr.heap.size wr wr := Below.refl _ _
      have KK : Hid (∀ w', Below wr.heap.size wr w' → (Below wr.heap.size wr w' ∧ w'.cell? ⟨ab, ao + k * 7, none⟩ = some (.int .i64 y0) ∧ w'.cell? ⟨ab, ao + k * 7 + 1, none⟩ = some (.string y1) ∧ w'.cell? ⟨ab, ao + k * 7 + 2, none⟩ = some (.int .i64 y2) ∧ w'.cell? ⟨ab, ao + k * 7 + 3, none⟩ = some (.int .i64 y3) ∧ w'.cell? ⟨ab, ao + k * 7 + 4, none⟩ = some (.int .i64 y4) ∧ w'.cell? ⟨ab, ao + k * 7 + 5, none⟩ = some (.int .i64 y5) ∧ w'.cell? ⟨ab, ao + k * 7 + 6, none⟩ = some (.string y6))) := Lib.hid (fun w' hX => ⟨hX, keep1 q0 hX, keep1 q1 hX, keep1 q2 hX, keep1 q3 hX, keep1 q4 hX, keep1 q5 hX, keep1 q6 hX⟩)
      go_region_held3 (fun w' => Below wr.heap.size wr w' ∧ w'.cell? ⟨ab, ao + k * 7, none⟩ = some (.int .i64 y0) ∧ w'.cell? ⟨ab, ao + k * 7 + 1, none⟩ = some (.string y1) ∧ w'.cell? ⟨ab, ao + k * 7 + 2, none⟩ = some (.int .i64 y2) ∧ w'.cell? ⟨ab, ao + k * 7 + 3, none⟩ = some (.int .i64 y3) ∧ w'.cell? ⟨ab, ao + k * 7 + 4, none⟩ = some (.int .i64 y4) ∧ w'.cell? ⟨ab, ao + k * 7 + 5, none⟩ = some (.int .i64 y5) ∧ w'.cell? ⟨ab, ao + k * 7 + 6, none⟩ = some (.string y6))
        (first | ((with_reducible refine KK.out _ ?_); (repeat (first | with_reducible refine bel_drew ?_ | with_reducible refine bel_alloc ?_)); first | with_reducible exact hB4 | with_reducible exact hB3 | with_reducible exact hB2 | with_reducible exact hB1 | with_reducible exact hB0))
        (first | (go_at_call 72; have hp := hB3; refine (sub_ref' value_ref _ [.int .i64 y4, .int .i64 y5, .string y6] _ R3 HR3.out _ (HHs3.out.below (by (repeat (first | with_reducible refine bel_drew ?_ | with_reducible refine bel_alloc ?_)); with_reducible exact hp)) HO3.out HLn3.out).mono ?_; rintro e v4 ⟨rfl, hr4⟩; have hB4 : Below wr.heap.size wr v4 := below_step (by (repeat (first | with_reducible refine bel_drew ?_ | with_reducible refine bel_alloc ?_)); with_reducible exact hp) hr4) | (go_at_call 29; have hp := hB2; refine (nums_at [y2, y3] R2 HR2.out 2 rfl _ 2 _ (by decide) HF2.out (by repeat (first | ((with_reducible refine rowB ?_ ?_); rfl; (first | (with_reducible rfl) | (simp; done)); done) | with_reducible refine row_drew ?_ | with_reducible refine row_alloc ?_ | with_reducible refine row_below hr4 ?_ | with_reducible refine row_below hr3 ?_ | with_reducible refine row_below hr2 ?_ | with_reducible refine row_below hr1 ?_))).mono ?_; rintro e v3 ⟨rfl, hr3⟩; have hB3 : Below wr.heap.size wr v3 := below_step (by (repeat (first | with_reducible refine bel_drew ?_ | with_reducible refine bel_alloc ?_)); with_reducible exact hp) hr3) | (go_at_call 32; have hp := hB1; refine (text_ref' y1 R1 HR1.out _ hs1).mono ?_; rintro e v2 ⟨rfl, hr2⟩; have hB2 : Below wr.heap.size wr v2 := below_step (by (repeat (first | with_reducible refine bel_drew ?_ | with_reducible refine bel_alloc ?_)); with_reducible exact hp) hr2) | (go_at_call 41; have hp := hB0; refine (num_ref' y0 R0 HR0.out _ HF0.out).mono ?_; rintro e v1 ⟨rfl, hr1⟩; have hB1 : Below wr.heap.size wr v1 := below_step (by (repeat (first | with_reducible refine bel_drew ?_ | with_reducible refine bel_alloc ?_)); with_reducible exact hp) hr1))
      all_goals
        go_wp2_with fail
        go_roundw
        case rel =>
          refine ⟨k + 1, by go_num, by omega, ?_, below_step HB.out hB4⟩
          rw [encs_snoc _ l k _ HY.out, ← List.append_assoc, HPp.out]
          exact congrArg (fun l => Value.string (mkb l)) HPE.out.symm
        case measure => simp [intOf]; omega
    · obtain rfl : k = L := by omega
      go_wp2_with fail
      go_ret
      refine ⟨?_, HB.out⟩
      rw [HE.out, ← HL.out, List.take_length]
      rfl
end Go.Proofs.Ytlcgkcmicklihaa.Wire
namespace Go.Proofs.Ytlcgkcmicklihaa.Wire
set_option linter.unusedVariables false
set_option linter.unusedSimpArgs false
open Go.RowKit Go.Proofs.YtlcgkcmicklihaaW.PrintWords Go.Proofs.YtlcgkcmicklihaaW.PrintLast Go.Proofs.YtlcgkcmicklihaaW.PrintMore
set_option maxRecDepth 100000 in
set_option maxHeartbeats 8000000 in
theorem ddl_refL (y0 : Int) (y1 : ByteArray) (y2 : ByteArray) (y3 : ByteArray) (y4 : ByteArray) (y5 : Bool) (y6 : Int) (y7 : Int) (y8 : Int) (y9 : ByteArray) (y10 : List tColumn.T) (cs : List Value) (ok : Nat → Prop) (w : World) (hH : Holds w ok tDdl (y0, ((y1, (y2, (y3, y4))), (y5, (y6, ((y7, (y8, y9)), y10))))) cs) (hok : tDdl.cod.ok (y0, ((y1, (y2, (y3, y4))), (y5, (y6, ((y7, (y8, y9)), y10)))))) (hlen : (tDdl.cod.enc (y0, ((y1, (y2, (y3, y4))), (y5, (y6, ((y7, (y8, y9)), y10)))))).length ≤ 68719476736) :
    Calls Try.prog 48 #[.agg cs.toArray] w fun e w' => e = .returned (.string (mkb (tDdl.cod.enc (y0, ((y1, (y2, (y3, y4))), (y5, (y6, ((y7, (y8, y9)), y10)))))))) ∧ Below w.heap.size w w' := by
  obtain ⟨ca1, cb1, rfl, ha1, hb1⟩ := Holds.pair_cell hH
  obtain rfl := Holds.int_cell ha1
  obtain ⟨ca2, cb2, rfl, ha2, hb2⟩ := Holds.pair_cell hb1
  obtain ⟨ca3, cb3, rfl, ha3, hb3⟩ := Holds.pair_cell ha2
  obtain rfl := Holds.str_cell ha3
  obtain ⟨ca4, cb4, rfl, ha4, hb4⟩ := Holds.pair_cell hb3
  obtain rfl := Holds.str_cell ha4
  obtain ⟨ca5, cb5, rfl, ha5, hb5⟩ := Holds.pair_cell hb4
  obtain rfl := Holds.str_cell ha5
  obtain rfl := Holds.str_cell hb5
  obtain ⟨ca6, cb6, rfl, ha6, hb6⟩ := Holds.pair_cell hb2
  obtain rfl := Holds.bool_cell ha6
  obtain ⟨ca7, cb7, rfl, ha7, hb7⟩ := Holds.pair_cell hb6
  obtain rfl := Holds.int_cell ha7
  obtain ⟨ca8, cb8, rfl, ha8, hb8⟩ := Holds.pair_cell hb7
  have hsub7 := ha8
  obtain ⟨ca9, cb9, rfl, ha9, hb9⟩ := Holds.pair_cell ha8
  obtain rfl := Holds.int_cell ha9
  obtain ⟨ca10, cb10, rfl, ha10, hb10⟩ := Holds.pair_cell hb9
  obtain rfl := Holds.int_cell ha10
  obtain rfl := Holds.str_cell hb10
  obtain ⟨A10, cap10, rfl, hh10⟩ := Holds.list_cell hb8
  clear ha1 hb1 ha2 ha3 hb3 ha4 hb4 ha5 hb5 hb2 ha6 hb6 ha7 hb7 ha8 ha9 hb9 ha10 hb10 hb8
  obtain ⟨R0, hR0⟩ : ∃ R, num y0 = R := ⟨_, rfl⟩
  obtain ⟨R1, hR1⟩ : ∃ R, cStr.enc y1 = R := ⟨_, rfl⟩
  obtain ⟨R2, hR2⟩ : ∃ R, cStr.enc y2 = R := ⟨_, rfl⟩
  obtain ⟨R3, hR3⟩ : ∃ R, cStr.enc y3 = R := ⟨_, rfl⟩
  obtain ⟨R4, hR4⟩ : ∃ R, cStr.enc y4 = R := ⟨_, rfl⟩
  obtain ⟨R5, hR5⟩ : ∃ R, cFlag.enc y5 = R := ⟨_, rfl⟩
  obtain ⟨R6, hR6⟩ : ∃ R, num y6 = R := ⟨_, rfl⟩
  obtain ⟨R7, hR7⟩ : ∃ R, tValue.cod.enc (y7, (y8, y9)) = R := ⟨_, rfl⟩
  obtain ⟨R8, hR8⟩ : ∃ R, (Ty.list tColumn).cod.enc y10 = R := ⟨_, rfl⟩
  obtain ⟨P1, hP1⟩ : ∃ P, R0 ++ R1 = P := ⟨_, rfl⟩
  obtain ⟨P2, hP2⟩ : ∃ P, P1 ++ R2 = P := ⟨_, rfl⟩
  obtain ⟨P3, hP3⟩ : ∃ P, P2 ++ R3 = P := ⟨_, rfl⟩
  obtain ⟨P4, hP4⟩ : ∃ P, P3 ++ R4 = P := ⟨_, rfl⟩
  obtain ⟨P5, hP5⟩ : ∃ P, P4 ++ R5 = P := ⟨_, rfl⟩
  obtain ⟨P6, hP6⟩ : ∃ P, P5 ++ R6 = P := ⟨_, rfl⟩
  obtain ⟨P7, hP7⟩ : ∃ P, P6 ++ R7 = P := ⟨_, rfl⟩
  obtain ⟨P8, hP8⟩ : ∃ P, P7 ++ R8 = P := ⟨_, rfl⟩
  have hE : tDdl.cod.enc (y0, ((y1, (y2, (y3, y4))), (y5, (y6, ((y7, (y8, y9)), y10))))) = P8 := by
    have h1 : tDdl.cod.enc (y0, ((y1, (y2, (y3, y4))), (y5, (y6, ((y7, (y8, y9)), y10))))) = (num y0 ++ ((cStr.enc y1 ++ (cStr.enc y2 ++ (cStr.enc y3 ++ cStr.enc y4))) ++ (cFlag.enc y5 ++ (num y6 ++ ((num y7 ++ (num y8 ++ cStr.enc y9)) ++ (Ty.list tColumn).cod.enc y10))))) := rfl
    rw [h1, ← hP8, ← hP7, ← hP6, ← hP5, ← hP4, ← hP3, ← hP2, ← hP1, ← hR0, ← hR1, ← hR2, ← hR3, ← hR4, ← hR5, ← hR6, ← hR7, ← hR8]
    have h17 : tValue.cod.enc (y7, (y8, y9)) = (num y7 ++ (num y8 ++ cStr.enc y9)) := rfl
    rw [h17]
    simp only [List.append_assoc, List.flatMap_cons, List.flatMap_nil, List.append_nil]
  rw [hE] at hlen
  rw [hE]
  have hl8 : P7.length + R8.length ≤ 68719476736 := by rw [← List.length_append, hP8]; exact hlen
  have hl7 : P6.length + R7.length ≤ 68719476736 := by rw [← List.length_append, hP7]; omega
  have hl6 : P5.length + R6.length ≤ 68719476736 := by rw [← List.length_append, hP6]; omega
  have hl5 : P4.length + R5.length ≤ 68719476736 := by rw [← List.length_append, hP5]; omega
  have hl4 : P3.length + R4.length ≤ 68719476736 := by rw [← List.length_append, hP4]; omega
  have hl3 : P2.length + R3.length ≤ 68719476736 := by rw [← List.length_append, hP3]; omega
  have hl2 : P1.length + R2.length ≤ 68719476736 := by rw [← List.length_append, hP2]; omega
  have hl1 : R0.length + R1.length ≤ 68719476736 := by rw [← List.length_append, hP1]; omega
  have HF0 := Lib.hid (show Fits y0 from hok.1)
  have hs1 : y1.size ≤ 281474976710656 := str_size hR1 (by omega)
  have hs2 : y2.size ≤ 281474976710656 := str_size hR2 (by omega)
  have hs3 : y3.size ≤ 281474976710656 := str_size hR3 (by omega)
  have hs4 : y4.size ≤ 281474976710656 := str_size hR4 (by omega)
  have HF6 := Lib.hid (show Fits y6 from hok.2.2.2.1)
  have HO7 := Lib.hid (show tValue.cod.ok (y7, (y8, y9)) from hok.2.2.2.2.1)
  have HLn7 := Lib.hid (show (tValue.cod.enc (y7, (y8, y9))).length ≤ 68719476736 by rw [hR7]; omega)
  have HO8 := Lib.hid hok.2.2.2.2.2
  have HLn8 := Lib.hid (show ((Ty.list tColumn).cod.enc y10).length ≤ 68719476736 by rw [hR8]; omega)
  have hll8 : y10.length ≤ 9223372036854775807 := hok.2.2.2.2.2.1
  have sa1 : ¬ 9223372036854775807 < (mkb R0).size + (mkb R1).size := by simp only [mkb_size]; omega
  have sc1 : mkb R0 ++ mkb R1 = mkb P1 := by rw [mkb_append, hP1]
  have sa2 : ¬ 9223372036854775807 < (mkb P1).size + (mkb R2).size := by simp only [mkb_size]; omega
  have sc2 : mkb P1 ++ mkb R2 = mkb P2 := by rw [mkb_append, hP2]
  have sa3 : ¬ 9223372036854775807 < (mkb P2).size + (mkb R3).size := by simp only [mkb_size]; omega
  have sc3 : mkb P2 ++ mkb R3 = mkb P3 := by rw [mkb_append, hP3]
  have sa4 : ¬ 9223372036854775807 < (mkb P3).size + (mkb R4).size := by simp only [mkb_size]; omega
  have sc4 : mkb P3 ++ mkb R4 = mkb P4 := by rw [mkb_append, hP4]
  have sa5 : ¬ 9223372036854775807 < (mkb P4).size + (mkb R5).size := by simp only [mkb_size]; omega
  have sc5 : mkb P4 ++ mkb R5 = mkb P5 := by rw [mkb_append, hP5]
  have sa6 : ¬ 9223372036854775807 < (mkb P5).size + (mkb R6).size := by simp only [mkb_size]; omega
  have sc6 : mkb P5 ++ mkb R6 = mkb P6 := by rw [mkb_append, hP6]
  have sa7 : ¬ 9223372036854775807 < (mkb P6).size + (mkb R7).size := by simp only [mkb_size]; omega
  have sc7 : mkb P6 ++ mkb R7 = mkb P7 := by rw [mkb_append, hP7]
  have sa8 : ¬ 9223372036854775807 < (mkb P7).size + (mkb R8).size := by simp only [mkb_size]; omega
  have sc8 : mkb P7 ++ mkb R8 = mkb P8 := by rw [mkb_append, hP8]
  obtain ⟨wb, hwb⟩ : ∃ wb, w.alloc (.cells #[.int .i64 y0, .string y1, .string y2, .string y3, .string y4, .bool y5, .int .i64 y6, .int .i64 y7, .int .i64 y8, .string y9, .slice A10 y10.length cap10] 62) = wb := ⟨_, rfl⟩
  have hbb : Below w.heap.size w wb := by rw [← hwb]; exact (Below.refl _ _).alloc (Nat.le_refl _) _
  have q0 : wb.cell? ⟨w.heap.size, 0, none⟩ = some (.int .i64 y0) := by rw [← hwb]; exact (blk_cell (blk_new w _) 0).trans rfl
  have q1 : wb.cell? ⟨w.heap.size, 1, none⟩ = some (.string y1) := by rw [← hwb]; exact (blk_cell (blk_new w _) 1).trans rfl
  have q2 : wb.cell? ⟨w.heap.size, 2, none⟩ = some (.string y2) := by rw [← hwb]; exact (blk_cell (blk_new w _) 2).trans rfl
  have q3 : wb.cell? ⟨w.heap.size, 3, none⟩ = some (.string y3) := by rw [← hwb]; exact (blk_cell (blk_new w _) 3).trans rfl
  have q4 : wb.cell? ⟨w.heap.size, 4, none⟩ = some (.string y4) := by rw [← hwb]; exact (blk_cell (blk_new w _) 4).trans rfl
  have q5 : wb.cell? ⟨w.heap.size, 5, none⟩ = some (.bool y5) := by rw [← hwb]; exact (blk_cell (blk_new w _) 5).trans rfl
  have q6 : wb.cell? ⟨w.heap.size, 6, none⟩ = some (.int .i64 y6) := by rw [← hwb]; exact (blk_cell (blk_new w _) 6).trans rfl
  have q7 : wb.cell? ⟨w.heap.size, 7, none⟩ = some (.int .i64 y7) := by rw [← hwb]; exact (blk_cell (blk_new w _) 7).trans rfl
  have q8 : wb.cell? ⟨w.heap.size, 8, none⟩ = some (.int .i64 y8) := by rw [← hwb]; exact (blk_cell (blk_new w _) 8).trans rfl
  have q9 : wb.cell? ⟨w.heap.size, 9, none⟩ = some (.string y9) := by rw [← hwb]; exact (blk_cell (blk_new w _) 9).trans rfl
  have q10 : wb.cell? ⟨w.heap.size, 10, none⟩ = some (.slice A10 y10.length cap10) := by rw [← hwb]; exact (blk_cell (blk_new w _) 10).trans rfl
  have hNb : w.heap.size < wb.heap.size := by rw [← hwb]; simp
  have HHs7 := Lib.hid (hsub7.below hbb)
  clear hsub7
  have HH8 := Lib.hid (hh10.below hbb)
  have HBB := Lib.hid hbb
  have HR0 := Lib.hid hR0
  have HR1 := Lib.hid hR1
  have HR2 := Lib.hid hR2
  have HR3 := Lib.hid hR3
  have HR4 := Lib.hid hR4
  have HR5 := Lib.hid hR5
  have HR6 := Lib.hid hR6
  have HR7 := Lib.hid hR7
  have HR8 := Lib.hid hR8
  clear hE hlen hok hbb hR0 hR1 hR2 hR3 hR4 hR5 hR6 hR7 hR8 hP1 hP2 hP3 hP4 hP5 hP6 hP7 hP8 hh10
  show Calls Try.prog 48 #[.agg #[.int .i64 y0, .string y1, .string y2, .string y3, .string y4, .bool y5, .int .i64 y6, .int .i64 y7, .int .i64 y8, .string y9, .slice A10 y10.length cap10]] w _
  go_enter Try.func48, Try.ntmps48
  go_wp2_with fail
  clear hwb
  have hB0 : Below wb.heap.size wb wb := Below.refl _ _
  have KK : Hid (∀ w', Below wb.heap.size wb w' → (Below wb.heap.size wb w' ∧ w'.cell? ⟨w.heap.size, 0, none⟩ = some (.int .i64 y0) ∧ w'.cell? ⟨w.heap.size, 1, none⟩ = some (.string y1) ∧ w'.cell? ⟨w.heap.size, 2, none⟩ = some (.string y2) ∧ w'.cell? ⟨w.heap.size, 3, none⟩ = some (.string y3) ∧ w'.cell? ⟨w.heap.size, 4, none⟩ = some (.string y4) ∧ w'.cell? ⟨w.heap.size, 5, none⟩ = some (.bool y5) ∧ w'.cell? ⟨w.heap.size, 6, none⟩ = some (.int .i64 y6) ∧ w'.cell? ⟨w.heap.size, 7, none⟩ = some (.int .i64 y7) ∧ w'.cell? ⟨w.heap.size, 8, none⟩ = some (.int .i64 y8) ∧ w'.cell? ⟨w.heap.size, 9, none⟩ = some (.string y9) ∧ w'.cell? ⟨w.heap.size, 10, none⟩ = some (.slice A10 y10.length cap10))) := Lib.hid (fun w' hX => ⟨hX, keep1 q0 hX, keep1 q1 hX, keep1 q2 hX, keep1 q3 hX, keep1 q4 hX, keep1 q5 hX, keep1 q6 hX, keep1 q7 hX, keep1 q8 hX, keep1 q9 hX, keep1 q10 hX⟩)
  go_region_held3 (fun w' => Below wb.heap.size wb w' ∧ w'.cell? ⟨w.heap.size, 0, none⟩ = some (.int .i64 y0) ∧ w'.cell? ⟨w.heap.size, 1, none⟩ = some (.string y1) ∧ w'.cell? ⟨w.heap.size, 2, none⟩ = some (.string y2) ∧ w'.cell? ⟨w.heap.size, 3, none⟩ = some (.string y3) ∧ w'.cell? ⟨w.heap.size, 4, none⟩ = some (.string y4) ∧ w'.cell? ⟨w.heap.size, 5, none⟩ = some (.bool y5) ∧ w'.cell? ⟨w.heap.size, 6, none⟩ = some (.int .i64 y6) ∧ w'.cell? ⟨w.heap.size, 7, none⟩ = some (.int .i64 y7) ∧ w'.cell? ⟨w.heap.size, 8, none⟩ = some (.int .i64 y8) ∧ w'.cell? ⟨w.heap.size, 9, none⟩ = some (.string y9) ∧ w'.cell? ⟨w.heap.size, 10, none⟩ = some (.slice A10 y10.length cap10))
    (first | ((with_reducible refine KK.out _ ?_); (repeat (first | with_reducible refine bel_drew ?_ | with_reducible refine bel_alloc ?_)); first | with_reducible exact hB9 | with_reducible exact hB8 | with_reducible exact hB7 | with_reducible exact hB6 | with_reducible exact hB5 | with_reducible exact hB4 | with_reducible exact hB3 | with_reducible exact hB2 | with_reducible exact hB1 | with_reducible exact hB0))
    (first | (go_at_call 73; have hp := hB8; refine (list_ref' columns_all y10 _ _ _ R8 HR8.out _ (HH8.out.below (by (repeat (first | with_reducible refine bel_drew ?_ | with_reducible refine bel_alloc ?_)); with_reducible exact hp)) HO8.out HLn8.out).mono ?_; rintro e w9 ⟨rfl, hr9⟩; have hB9 : Below wb.heap.size wb w9 := below_step (by (repeat (first | with_reducible refine bel_drew ?_ | with_reducible refine bel_alloc ?_)); with_reducible exact hp) hr9) | (go_at_call 72; have hp := hB7; refine (sub_ref' value_ref _ [.int .i64 y7, .int .i64 y8, .string y9] _ R7 HR7.out _ (HHs7.out.below (by (repeat (first | with_reducible refine bel_drew ?_ | with_reducible refine bel_alloc ?_)); with_reducible exact hp)) HO7.out HLn7.out).mono ?_; rintro e w8 ⟨rfl, hr8⟩; have hB8 : Below wb.heap.size wb w8 := below_step (by (repeat (first | with_reducible refine bel_drew ?_ | with_reducible refine bel_alloc ?_)); with_reducible exact hp) hr8) | (go_at_call 41; have hp := hB6; refine (num_ref' y6 R6 HR6.out _ HF6.out).mono ?_; rintro e w7 ⟨rfl, hr7⟩; have hB7 : Below wb.heap.size wb w7 := below_step (by (repeat (first | with_reducible refine bel_drew ?_ | with_reducible refine bel_alloc ?_)); with_reducible exact hp) hr7) | (go_at_call 30; have hp := hB5; refine (flag_ref' y5 R5 HR5.out _).mono ?_; rintro e w6 ⟨rfl, hr6⟩; have hB6 : Below wb.heap.size wb w6 := below_step (by (repeat (first | with_reducible refine bel_drew ?_ | with_reducible refine bel_alloc ?_)); with_reducible exact hp) hr6) | (go_at_call 32; have hp := hB4; refine (text_ref' y4 R4 HR4.out _ hs4).mono ?_; rintro e w5 ⟨rfl, hr5⟩; have hB5 : Below wb.heap.size wb w5 := below_step (by (repeat (first | with_reducible refine bel_drew ?_ | with_reducible refine bel_alloc ?_)); with_reducible exact hp) hr5) | (go_at_call 32; have hp := hB3; refine (text_ref' y3 R3 HR3.out _ hs3).mono ?_; rintro e w4 ⟨rfl, hr4⟩; have hB4 : Below wb.heap.size wb w4 := below_step (by (repeat (first | with_reducible refine bel_drew ?_ | with_reducible refine bel_alloc ?_)); with_reducible exact hp) hr4) | (go_at_call 32; have hp := hB2; refine (text_ref' y2 R2 HR2.out _ hs2).mono ?_; rintro e w3 ⟨rfl, hr3⟩; have hB3 : Below wb.heap.size wb w3 := below_step (by (repeat (first | with_reducible refine bel_drew ?_ | with_reducible refine bel_alloc ?_)); with_reducible exact hp) hr3) | (go_at_call 32; have hp := hB1; refine (text_ref' y1 R1 HR1.out _ hs1).mono ?_; rintro e w2 ⟨rfl, hr2⟩; have hB2 : Below wb.heap.size wb w2 := below_step (by (repeat (first | with_reducible refine bel_drew ?_ | with_reducible refine bel_alloc ?_)); with_reducible exact hp) hr2) | (go_at_call 41; have hp := hB0; refine (num_ref' y0 R0 HR0.out _ HF0.out).mono ?_; rintro e w1 ⟨rfl, hr1⟩; have hB1 : Below wb.heap.size wb w1 := below_step (by (repeat (first | with_reducible refine bel_drew ?_ | with_reducible refine bel_alloc ?_)); with_reducible exact hp) hr1))
  all_goals
    go_wp2_with fail
    go_ret
    exact ⟨rfl, below_then' HBB.out hB9⟩
theorem ddl_ref (x : tDdl.T) (cs : List Value) (ok : Nat → Prop) (w : World) (hH : Holds w ok tDdl x cs) (hok : tDdl.cod.ok x) (hlen : (tDdl.cod.enc x).length ≤ 68719476736) :
    Calls Try.prog 48 #[.agg cs.toArray] w fun e w' => e = .returned (.string (mkb (tDdl.cod.enc x))) ∧ Below w.heap.size w w' := by
  obtain ⟨y0, ⟨⟨y1, ⟨y2, ⟨y3, y4⟩⟩⟩, ⟨y5, ⟨y6, ⟨⟨y7, ⟨y8, y9⟩⟩, y10⟩⟩⟩⟩⟩ := x
  exact ddl_refL y0 y1 y2 y3 y4 y5 y6 y7 y8 y9 y10 cs ok w hH hok hlen
end Go.Proofs.Ytlcgkcmicklihaa.Wire
