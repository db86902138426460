/- The reference over a list of columns. -/
import Derived.Test.YtlcgkcmicklihaaRVal
namespace Go.Proofs.Ytlcgkcmicklihaa.Wire
set_option linter.unusedVariables false
set_option linter.unusedSimpArgs false
open Go.RowKit Go.Proofs.YtlcgkcmicklihaaW.PrintWords Go.Proofs.YtlcgkcmicklihaaW.PrintLast Go.Proofs.YtlcgkcmicklihaaW.PrintMore
set_option maxRecDepth 100000 in
set_option maxHeartbeats 8000000 in
theorem columns_all : ListRef 73 tColumn := by
  intro l A cap ok w hH hok hlen
  obtain ⟨L, hL⟩ : ∃ L, l.length = L := ⟨_, rfl⟩
  have hl : l.length ≤ top := hok.1
  have hL2 : L ≤ 9223372036854775807 := by rw [← hL]; exact hl
  have he : (Ty.list tColumn).cod.enc l = num (L : Int) ++ encs tColumn.cod l := by rw [← hL]; rfl
  have HH := Lib.hid hH
  have HOK := Lib.hid hok
  have HLEN := Lib.hid hlen
  have HE := Lib.hid he
  rw [hL]
  have HL := Lib.hid hL
  clear hL hH hok hlen he hl
  go_enter Try.func73, Try.ntmps73
  go_wp2_with fail
  refine (num_ref (L : Int) _ ⟨by omega, by omega⟩).mono ?_
  rintro e w1 ⟨rfl, hb0⟩
  have HB0 := Lib.hid hb0
  clear hb0
  go_wp2_with fail
  go_loopw [3, 4] (fun v3 v4 wr => ∃ k : Nat, v4 = .int .i64 (k : Int) ∧ k ≤ L ∧ v3 = .string (mkb (num (L : Int) ++ encs tColumn.cod (l.take k))) ∧ Below w.heap.size w wr) (fun _ v4 _ => L - (intOf v4).toNat)
  case atStart => exact ⟨0, rfl, by omega, by simp [encs], HB0.out⟩
  case round =>
    obtain ⟨k, rfl, hk, rfl, hb⟩ := hrel
    have HB := Lib.hid hb
    clear hb
    by_cases hlt : k < L
    · obtain ⟨y, hy⟩ : ∃ y, l[k]? = some y := ⟨_, List.getElem?_eq_getElem (by rw [HL.out]; exact hlt)⟩
      obtain ⟨ab, ao, cs, rfl, hoka, hHy, hcs⟩ := HH.out.list_at hy
      obtain ⟨hyok, hsz1⟩ := entry_fits HOK.out HLEN.out hy
      obtain ⟨y0, y1, y2, y3, y4, y5, y6, rfl⟩ : ∃ (y0 : Int) (y1 : ByteArray) (y2 : Int) (y3 : Int) (y4 : Int) (y5 : Int) (y6 : ByteArray), y = (y0, (y1, ((y2, y3), (y4, (y5, y6))))) := by
        obtain ⟨y0, ⟨y1, ⟨⟨y2, y3⟩, ⟨y4, ⟨y5, y6⟩⟩⟩⟩⟩ := y
        exact ⟨_, _, _, _, _, _, _, rfl⟩
      obtain ⟨ca1, cb1, rfl, ha1, hb1⟩ := Holds.pair_cell hHy
      obtain rfl := Holds.int_cell ha1
      obtain ⟨ca2, cb2, rfl, ha2, hb2⟩ := Holds.pair_cell hb1
      obtain rfl := Holds.str_cell ha2
      obtain ⟨ca3, cb3, rfl, ha3, hb3⟩ := Holds.pair_cell hb2
      obtain ⟨ca4, cb4, rfl, ha4, hb4⟩ := Holds.pair_cell ha3
      obtain rfl := Holds.int_cell ha4
      obtain rfl := Holds.int_cell hb4
      have hsub3 := hb3
      obtain ⟨ca5, cb5, rfl, ha5, hb5⟩ := Holds.pair_cell hb3
      obtain rfl := Holds.int_cell ha5
      obtain ⟨ca6, cb6, rfl, ha6, hb6⟩ := Holds.pair_cell hb5
      obtain rfl := Holds.int_cell ha6
      obtain rfl := Holds.str_cell hb6
      have m0 : w.cell? ⟨ab, ao + k * 7, none⟩ = some (.int .i64 y0) := hcs 0 _ rfl
      have m1 : w.cell? ⟨ab, ao + k * 7 + 1, none⟩ = some (.string y1) := hcs 1 _ rfl
      have m2 : w.cell? ⟨ab, ao + k * 7 + 2, none⟩ = some (.int .i64 y2) := hcs 2 _ rfl
      have m3 : w.cell? ⟨ab, ao + k * 7 + 3, none⟩ = some (.int .i64 y3) := hcs 3 _ rfl
      have m4 : w.cell? ⟨ab, ao + k * 7 + 4, none⟩ = some (.int .i64 y4) := hcs 4 _ rfl
      have m5 : w.cell? ⟨ab, ao + k * 7 + 5, none⟩ = some (.int .i64 y5) := hcs 5 _ rfl
      have m6 : w.cell? ⟨ab, ao + k * 7 + 6, none⟩ = some (.string y6) := hcs 6 _ rfl
      have q0 := keep1 m0 HB.out
      have q1 := keep1 m1 HB.out
      have q2 := keep1 m2 HB.out
      have q3 := keep1 m3 HB.out
      have q4 := keep1 m4 HB.out
      have q5 := keep1 m5 HB.out
      have q6 := keep1 m6 HB.out
      obtain ⟨R0, hR0⟩ : ∃ R, num y0 = R := ⟨_, rfl⟩
      obtain ⟨R1, hR1⟩ : ∃ R, cStr.enc y1 = R := ⟨_, rfl⟩
      obtain ⟨R2, hR2⟩ : ∃ R, [y2, y3].flatMap num = R := ⟨_, rfl⟩
      obtain ⟨R3, hR3⟩ : ∃ R, tValue.cod.enc (y4, (y5, y6)) = R := ⟨_, rfl⟩
      obtain ⟨Pp, hPp⟩ : ∃ P, num (L : Int) ++ encs tColumn.cod (l.take k) = P := ⟨_, rfl⟩
      obtain ⟨P0, hP0⟩ : ∃ P, Pp ++ R0 = P := ⟨_, rfl⟩
      obtain ⟨P1, hP1⟩ : ∃ P, P0 ++ R1 = P := ⟨_, rfl⟩
      obtain ⟨P2, hP2⟩ : ∃ P, P1 ++ R2 = P := ⟨_, rfl⟩
      obtain ⟨P3, hP3⟩ : ∃ P, P2 ++ R3 = P := ⟨_, rfl⟩
      have hE : Pp ++ tColumn.cod.enc (y0, (y1, ((y2, y3), (y4, (y5, y6))))) = P3 := by
        have h1 : tColumn.cod.enc (y0, (y1, ((y2, y3), (y4, (y5, y6))))) = (num y0 ++ (cStr.enc y1 ++ ((num y2 ++ num y3) ++ (num y4 ++ (num y5 ++ cStr.enc y6))))) := rfl
        rw [h1, ← hP3, ← hP2, ← hP1, ← hP0, ← hR0, ← hR1, ← hR2, ← hR3]
        have h13 : tValue.cod.enc (y4, (y5, y6)) = (num y4 ++ (num y5 ++ cStr.enc y6)) := rfl
        rw [h13]
        simp only [List.append_assoc, List.flatMap_cons, List.flatMap_nil, List.append_nil]
      rw [HL.out, hPp] at hsz1
      rw [hPp]
      have hl4 : P3.length ≤ 68719476736 := by rw [← hE, List.length_append]; exact hsz1
      have hl3 : P2.length + R3.length ≤ 68719476736 := by rw [← List.length_append, hP3]; exact hl4
      have hl2 : P1.length + R2.length ≤ 68719476736 := by rw [← List.length_append, hP2]; omega
      have hl1 : P0.length + R1.length ≤ 68719476736 := by rw [← List.length_append, hP1]; omega
      have hl0 : Pp.length + R0.length ≤ 68719476736 := by rw [← List.length_append, hP0]; omega
      have HF0 := Lib.hid (show Fits y0 from hyok.1)
      have hs1 : y1.size ≤ 281474976710656 := str_size hR1 (by omega)
      have HF2 := Lib.hid (show ∀ n ∈ [y2, y3], Fits n from fits_cons hyok.2.2.1.1 (fits_cons hyok.2.2.1.2 (fits_nil)))
      have HO3 := Lib.hid (show tValue.cod.ok (y4, (y5, y6)) from hyok.2.2.2)
      have HLn3 := Lib.hid (show (tValue.cod.enc (y4, (y5, y6))).length ≤ 68719476736 by rw [hR3]; omega)
      have HHs3 := Lib.hid (hsub3.below HB.out)
      have sa0 : ¬ 9223372036854775807 < (mkb Pp).size + (mkb R0).size := by simp only [mkb_size]; omega
      have sc0 : mkb Pp ++ mkb R0 = mkb P0 := by rw [mkb_append, hP0]
      have sa1 : ¬ 9223372036854775807 < (mkb P0).size + (mkb R1).size := by simp only [mkb_size]; omega
      have sc1 : mkb P0 ++ mkb R1 = mkb P1 := by rw [mkb_append, hP1]
      have sa2 : ¬ 9223372036854775807 < (mkb P1).size + (mkb R2).size := by simp only [mkb_size]; omega
      have sc2 : mkb P1 ++ mkb R2 = mkb P2 := by rw [mkb_append, hP2]
      have sa3 : ¬ 9223372036854775807 < (mkb P2).size + (mkb R3).size := by simp only [mkb_size]; omega
      have sc3 : mkb P2 ++ mkb R3 = mkb P3 := by rw [mkb_append, hP3]
      have hab : ab < wr.heap.size := World.block_lt_of_cell? wr _ q0
      have HY := Lib.hid hy
      have HPE := Lib.hid hE
      have HPp := Lib.hid hPp
      have HR0 := Lib.hid hR0
      have HR1 := Lib.hid hR1
      have HR2 := Lib.hid hR2
      have HR3 := Lib.hid hR3
      clear hcs hy hsz1 hyok hE hPp hoka m0 m1 m2 m3 m4 m5 m6 hR0 hP0 hR1 hP1 hR2 hP2 hR3 hP3 hHy ha1 hb1 ha2 hb2 ha3 ha4 hb4 hb3 ha5 hb5 ha6 hb6 hsub3
      have b0 : (0 : Int) ≤ (k : Int) := by omega
      have b1 : (k : Int) < (L : Int) := by omega
      go_wp2_with fail
      have hB0 : Below wr.heap.size wr wr := Below.refl _ _
      have KK : Hid (∀ w', Below wr.heap.size wr w' → (Below wr.heap.size wr w' ∧ w'.cell? ⟨ab, ao + k * 7, none⟩ = some (.int .i64 y0) ∧ w'.cell? ⟨ab, ao + k * 7 + 1, none⟩ = some (.string y1) ∧ w'.cell? ⟨ab, ao + k * 7 + 2, none⟩ = some (.int .i64 y2) ∧ w'.cell? ⟨ab, ao + k * 7 + 3, none⟩ = some (.int .i64 y3) ∧ w'.cell? ⟨ab, ao + k * 7 + 4, none⟩ = some (.int .i64 y4) ∧ w'.cell? ⟨ab, ao + k * 7 + 5, none⟩ = some (.int .i64 y5) ∧ w'.cell? ⟨ab, ao + k * 7 + 6, none⟩ = some (.string y6))) := Lib.hid (fun w' hX => ⟨hX, keep1 q0 hX, keep1 q1 hX, keep1 q2 hX, keep1 q3 hX, keep1 q4 hX, keep1 q5 hX, keep1 q6 hX⟩)
      go_region_held3 (fun w' => Below wr.heap.size wr w' ∧ w'.cell? ⟨ab, ao + k * 7, none⟩ = some (.int .i64 y0) ∧ w'.cell? ⟨ab, ao + k * 7 + 1, none⟩ = some (.string y1) ∧ w'.cell? ⟨ab, ao + k * 7 + 2, none⟩ = some (.int .i64 y2) ∧ w'.cell? ⟨ab, ao + k * 7 + 3, none⟩ = some (.int .i64 y3) ∧ w'.cell? ⟨ab, ao + k * 7 + 4, none⟩ = some (.int .i64 y4) ∧ w'.cell? ⟨ab, ao + k * 7 + 5, none⟩ = some (.int .i64 y5) ∧ w'.cell? ⟨ab, ao + k * 7 + 6, none⟩ = some (.string y6))
        (first | ((with_reducible refine KK.out _ ?_); (repeat (first | with_reducible refine bel_drew ?_ | with_reducible refine bel_alloc ?_)); first | with_reducible exact hB4 | with_reducible exact hB3 | with_reducible exact hB2 | with_reducible exact hB1 | with_reducible exact hB0))
        (first | (go_at_call 72; have hp := hB3; refine (sub_ref' value_ref _ [.int .i64 y4, .int .i64 y5, .string y6] _ R3 HR3.out _ (HHs3.out.below (by (repeat (first | with_reducible refine bel_drew ?_ | with_reducible refine bel_alloc ?_)); with_reducible exact hp)) HO3.out HLn3.out).mono ?_; rintro e v4 ⟨rfl, hr4⟩; have hB4 : Below wr.heap.size wr v4 := below_step (by (repeat (first | with_reducible refine bel_drew ?_ | with_reducible refine bel_alloc ?_)); with_reducible exact hp) hr4) | (go_at_call 29; have hp := hB2; refine (nums_at [y2, y3] R2 HR2.out 2 rfl _ 2 _ (by decide) HF2.out (by repeat (first | ((with_reducible refine rowB ?_ ?_); rfl; (first | (with_reducible rfl) | (simp; done)); done) | with_reducible refine row_drew ?_ | with_reducible refine row_alloc ?_ | with_reducible refine row_below hr4 ?_ | with_reducible refine row_below hr3 ?_ | with_reducible refine row_below hr2 ?_ | with_reducible refine row_below hr1 ?_))).mono ?_; rintro e v3 ⟨rfl, hr3⟩; have hB3 : Below wr.heap.size wr v3 := below_step (by (repeat (first | with_reducible refine bel_drew ?_ | with_reducible refine bel_alloc ?_)); with_reducible exact hp) hr3) | (go_at_call 32; have hp := hB1; refine (text_ref' y1 R1 HR1.out _ hs1).mono ?_; rintro e v2 ⟨rfl, hr2⟩; have hB2 : Below wr.heap.size wr v2 := below_step (by (repeat (first | with_reducible refine bel_drew ?_ | with_reducible refine bel_alloc ?_)); with_reducible exact hp) hr2) | (go_at_call 41; have hp := hB0; refine (num_ref' y0 R0 HR0.out _ HF0.out).mono ?_; rintro e v1 ⟨rfl, hr1⟩; have hB1 : Below wr.heap.size wr v1 := below_step (by (repeat (first | with_reducible refine bel_drew ?_ | with_reducible refine bel_alloc ?_)); with_reducible exact hp) hr1))
      all_goals
        go_wp2_with fail
        go_roundw
        case rel =>
          refine ⟨k + 1, by go_num, by omega, ?_, below_step HB.out hB4⟩
          rw [encs_snoc _ l k _ HY.out, ← List.append_assoc, HPp.out]
          exact congrArg (fun l => Value.string (mkb l)) HPE.out.symm
        case measure => simp [intOf]; omega
    · obtain rfl : k = L := by omega
      go_wp2_with fail
      go_ret
      refine ⟨?_, HB.out⟩
      rw [HE.out, ← HL.out, List.take_length]
      rfl
end Go.Proofs.Ytlcgkcmicklihaa.Wire
