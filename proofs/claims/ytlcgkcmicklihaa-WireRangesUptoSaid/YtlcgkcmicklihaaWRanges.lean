/- The walk of the law WireRanges. -/
import Derived.Test.YtlcgkcmicklihaaRVal
import Derived.Test.YtlcgkcmicklihaaIC
import Derived.Test.YtlcgkcmicklihaaRLocks
import Derived.Test.YtlcgkcmicklihaaMRange
import Derived.Test.YtlcgkcmicklihaaAwake
import Derived.Test.YtlcgkcmicklihaaHState
namespace Go.Proofs.Ytlcgkcmicklihaa.Wire
set_option linter.unusedVariables false
set_option linter.unusedSimpArgs false
open Go.RowKit Go.Proofs.YtlcgkcmicklihaaW.PrintWords Go.Proofs.YtlcgkcmicklihaaW.PrintLast Go.Proofs.YtlcgkcmicklihaaW.PrintMore
set_option maxRecDepth 100000 in
set_option maxHeartbeats 16000000 in
theorem rows_all : ListRef 39 tRow := by
  intro l A cap ok w hH hok hlen
  obtain ⟨L, hL⟩ : ∃ L, l.length = L := ⟨_, rfl⟩
  have hl : l.length ≤ top := hok.1
  have hL2 : L ≤ 9223372036854775807 := by rw [← hL]; exact hl
  have he : (Ty.list tRow).cod.enc l = num (L : Int) ++ encs tRow.cod l := by rw [← hL]; rfl
  have HH := Lib.hid hH
  have HOK := Lib.hid hok
  have HLEN := Lib.hid hlen
  have HE := Lib.hid he
  rw [hL]
  have HL := Lib.hid hL
  clear hL hH hok hlen he hl
  go_enter Try.func39, Try.ntmps39
  go_wp2_with fail
  refine (num_ref (L : Int) _ ⟨by omega, by omega⟩).mono ?_
  rintro e w1 ⟨rfl, hb0⟩
  have HB0 := Lib.hid hb0
  clear hb0
  go_wp2_with fail
  go_loopw [3, 4] (fun v3 v4 wr => ∃ k : Nat, v4 = .int .i64 (k : Int) ∧ k ≤ L ∧ v3 = .string (mkb (num (L : Int) ++ encs tRow.cod (l.take k))) ∧ Below w.heap.size w wr) (fun _ v4 _ => L - (intOf v4).toNat)
  case atStart => exact ⟨0, rfl, by omega, by simp [encs], HB0.out⟩
  case round =>
    obtain ⟨k, rfl, hk, rfl, hb⟩ := hrel
    have HB := Lib.hid hb
    clear hb
    by_cases hlt : k < L
    · obtain ⟨y, hy⟩ : ∃ y, l[k]? = some y := ⟨_, List.getElem?_eq_getElem (by rw [HL.out]; exact hlt)⟩
      obtain ⟨ab, ao, cs, rfl, hoka, hHy, hcs⟩ := HH.out.list_at hy
      obtain ⟨hyok, hsz1⟩ := entry_fits HOK.out HLEN.out hy
      obtain ⟨y0, y1, rfl⟩ : ∃ (y0 : ByteArray) (y1 : List tVersion.T), y = (y0, y1) := by
        obtain ⟨y0, y1⟩ := y
        exact ⟨_, _, rfl⟩
      obtain ⟨ca1, cb1, rfl, ha1, hb1⟩ := Holds.pair_cell hHy
      obtain rfl := Holds.str_cell ha1
      obtain ⟨A1, cap1, rfl, hh1⟩ := Holds.list_cell hb1
      obtain ⟨LI, hLI⟩ : ∃ LI, y1.length = LI := ⟨_, rfl⟩
      have m0 : w.cell? ⟨ab, ao + k * 2, none⟩ = some (.string y0) := hcs 0 _ rfl
      have m1 : w.cell? ⟨ab, ao + k * 2 + 1, none⟩ = some (.slice A1 y1.length cap1) := hcs 1 _ rfl
      rw [hLI] at m1 hh1
      have q0 := keep1 m0 HB.out
      have q1 := keep1 m1 HB.out
      have hli1 : y1.length ≤ 9223372036854775807 := hyok.2.1
      rw [hLI] at hli1
      obtain ⟨Pp, hPp⟩ : ∃ P, num (L : Int) ++ encs tRow.cod (l.take k) = P := ⟨_, rfl⟩
      rw [HL.out, hPp] at hsz1
      rw [hPp]
      have hEE : Pp ++ tRow.cod.enc (y0, y1) = Pp ++ (cStr.enc y0) ++ (num (LI : Int)) ++ encs tVersion.cod y1 := by
        have h1 : tRow.cod.enc (y0, y1) = (cStr.enc y0 ++ (Ty.list tVersion).cod.enc y1) := rfl
        have h2 : (Ty.list tVersion).cod.enc y1 = num (y1.length : Int) ++ encs tVersion.cod y1 := rfl
        rw [h1, h2, hLI]
        simp only [List.append_assoc, List.flatMap_cons, List.flatMap_nil, List.append_nil]
      have htot : (Pp ++ (cStr.enc y0) ++ (num (LI : Int)) ++ encs tVersion.cod y1).length ≤ 68719476736 := by rw [← hEE, List.length_append]; exact hsz1
      obtain ⟨Ra0, hRa0⟩ : ∃ R, cStr.enc y0 = R := ⟨_, rfl⟩
      obtain ⟨Ra1, hRa1⟩ : ∃ R, num (LI : Int) = R := ⟨_, rfl⟩
      obtain ⟨Pa0, hPa0⟩ : ∃ P, Pp ++ Ra0 = P := ⟨_, rfl⟩
      obtain ⟨Pa1, hPa1⟩ : ∃ P, Pa0 ++ Ra1 = P := ⟨_, rfl⟩
      have hEa : Pa1 = Pp ++ (cStr.enc y0) ++ (num (LI : Int)) := by rw [← hPa1, ← hPa0, ← hRa0, ← hRa1]
      have hla2 : Pa1.length ≤ 68719476736 := by rw [hEa]; rw [List.length_append] at htot; omega
      have hla1 : Pa0.length + Ra1.length ≤ 68719476736 := by rw [← List.length_append, hPa1]; exact hla2
      have hla0 : Pp.length + Ra0.length ≤ 68719476736 := by rw [← List.length_append, hPa0]; omega
      have hsa0 : y0.size ≤ 281474976710656 := str_size hRa0 (by omega)
      have HFa1 := Lib.hid (show Fits (LI : Int) from ⟨by omega, by omega⟩)
      have saa0 : ¬ 9223372036854775807 < (mkb Pp).size + (mkb Ra0).size := by simp only [mkb_size]; omega
      have sca0 : mkb Pp ++ mkb Ra0 = mkb Pa0 := by rw [mkb_append, hPa0]
      have saa1 : ¬ 9223372036854775807 < (mkb Pa0).size + (mkb Ra1).size := by simp only [mkb_size]; omega
      have sca1 : mkb Pa0 ++ mkb Ra1 = mkb Pa1 := by rw [mkb_append, hPa1]
      have HRa0 := Lib.hid hRa0
      have HRa1 := Lib.hid hRa1
      have HEa := Lib.hid hEa
      clear hEa hRa0 hPa0 hRa1 hPa1
      have hTT : (Pa1 ++ encs tVersion.cod y1).length ≤ 68719476736 := by rw [HEa.out]; exact htot
      have hPE : Pp ++ tRow.cod.enc (y0, y1) = Pa1 ++ encs tVersion.cod y1 := by rw [HEa.out]; exact hEE
      have hab : ab < wr.heap.size := World.block_lt_of_cell? wr _ q0
      have HY := Lib.hid hy
      have HPE := Lib.hid hPE
      have HPp := Lib.hid hPp
      have HTT := Lib.hid hTT
      have HLI := Lib.hid hLI
      have HI := Lib.hid hh1
      have HIOK := Lib.hid hyok.2
      have M0 := Lib.hid m0
      have M1 := Lib.hid m1
      clear hcs hy hsz1 hyok hEE htot hTT hPE hPp hoka hLI hh1 m0 m1 ha1 hb1
      have b0 : (0 : Int) ≤ (k : Int) := by omega
      have b1 : (k : Int) < (L : Int) := by omega
      go_wp2_with fail
      have hBa0 : Below wr.heap.size wr wr := Below.refl _ _
      have KKa : Hid (∀ w', Below wr.heap.size wr w' → (Below wr.heap.size wr w' ∧ w'.cell? ⟨ab, ao + k * 2, none⟩ = some (.string y0) ∧ w'.cell? ⟨ab, ao + k * 2 + 1, none⟩ = some (.slice A1 LI cap1))) := Lib.hid (fun w' hX => ⟨hX, keep1 q0 hX, keep1 q1 hX⟩)
      go_region_held3 (fun w' => Below wr.heap.size wr w' ∧ w'.cell? ⟨ab, ao + k * 2, none⟩ = some (.string y0) ∧ w'.cell? ⟨ab, ao + k * 2 + 1, none⟩ = some (.slice A1 LI cap1))
        (first | ((with_reducible refine KKa.out _ ?_); (repeat (first | with_reducible refine bel_drew ?_ | with_reducible refine bel_alloc ?_)); first | with_reducible exact hBa2 | with_reducible exact hBa1 | with_reducible exact hBa0))
        (first | (go_at_call 41; have hp := hBa1; refine (num_ref' (LI : Int) Ra1 HRa1.out _ HFa1.out).mono ?_; rintro e va2 ⟨rfl, hra2⟩; have hBa2 : Below wr.heap.size wr va2 := below_step (by (repeat (first | with_reducible refine bel_drew ?_ | with_reducible refine bel_alloc ?_)); with_reducible exact hp) hra2) | (go_at_call 32; have hp := hBa0; refine (text_ref' y0 Ra0 HRa0.out _ hsa0).mono ?_; rintro e va1 ⟨rfl, hra1⟩; have hBa1 : Below wr.heap.size wr va1 := below_step (by (repeat (first | with_reducible refine bel_drew ?_ | with_reducible refine bel_alloc ?_)); with_reducible exact hp) hra1))
      all_goals
        have HBa := Lib.hid (below_step HB.out hBa2)
        go_wp2_with fail
        go_loopw [3, 5] (fun v3 v5 wi => ∃ j : Nat, v5 = .int .i64 (j : Int) ∧ j ≤ LI ∧ v3 = .string (mkb (Pa1 ++ encs tVersion.cod (y1.take j))) ∧ Below w.heap.size w wi) (fun _ v5 _ => LI - (intOf v5).toNat)
        case atStart => exact ⟨0, rfl, by omega, by simp [encs], HBa.out⟩
        case round =>
          obtain ⟨j, rfl, hj, rfl, hbi⟩ := hrel
          have HBi := Lib.hid hbi
          have p0 := keep1 M0.out hbi
          have p1 := keep1 M1.out hbi
          clear hbi
          by_cases hlj : j < LI
          · obtain ⟨z, hz⟩ : ∃ z, y1[j]? = some z := ⟨_, List.getElem?_eq_getElem (by rw [HLI.out]; exact hlj)⟩
            obtain ⟨bb, bo, ds, rfl, hokb, hHz, hds⟩ := HI.out.list_at hz
            have hzok := HIOK.out.2 _ (List.mem_of_getElem? hz)
            have hsz2 := encs_take_le tVersion.cod y1 (j + 1)
            rw [encs_snoc _ y1 j z hz] at hsz2
            obtain ⟨z0, z1, z2, rfl⟩ : ∃ (z0 : Int) (z1 : ByteArray) (z2 : Bool), z = (z0, (z1, z2)) := by
              obtain ⟨z0, ⟨z1, z2⟩⟩ := z
              exact ⟨_, _, _, rfl⟩
            obtain ⟨caz1, cbz1, rfl, haz1, hbz1⟩ := Holds.pair_cell hHz
            obtain rfl := Holds.int_cell haz1
            obtain ⟨caz2, cbz2, rfl, haz2, hbz2⟩ := Holds.pair_cell hbz1
            obtain rfl := Holds.str_cell haz2
            obtain rfl := Holds.bool_cell hbz2
            have n0 := keep1 (show w.cell? ⟨bb, bo + j * 3, none⟩ = some (.int .i64 z0) from hds 0 _ rfl) HBi.out
            have n1 := keep1 (show w.cell? ⟨bb, bo + j * 3 + 1, none⟩ = some (.string z1) from hds 1 _ rfl) HBi.out
            have n2 := keep1 (show w.cell? ⟨bb, bo + j * 3 + 2, none⟩ = some (.bool z2) from hds 2 _ rfl) HBi.out
            obtain ⟨Pq, hPq⟩ : ∃ P, Pa1 ++ encs tVersion.cod (y1.take j) = P := ⟨_, rfl⟩
            rw [hPq]
            have hEE : Pq ++ tVersion.cod.enc (z0, (z1, z2)) = Pq ++ (num z0) ++ (cStr.enc z1) ++ (cFlag.enc z2) := by
              have h1 : tVersion.cod.enc (z0, (z1, z2)) = (num z0 ++ (cStr.enc z1 ++ cFlag.enc z2)) := rfl
              rw [h1]
              simp only [List.append_assoc, List.flatMap_cons, List.flatMap_nil, List.append_nil]
            have htot : (Pq ++ (num z0) ++ (cStr.enc z1) ++ (cFlag.enc z2)).length ≤ 68719476736 := by
              rw [← hEE, ← hPq]
              have h3 := HTT.out
              have h4 : (encs tVersion.cod (y1.take j) ++ tVersion.cod.enc (z0, (z1, z2))).length ≤ (encs tVersion.cod y1).length := hsz2
              simp only [List.length_append] at h3 h4 ⊢
              omega
            obtain ⟨Rb0, hRb0⟩ : ∃ R, num z0 = R := ⟨_, rfl⟩
            obtain ⟨Rb1, hRb1⟩ : ∃ R, cStr.enc z1 = R := ⟨_, rfl⟩
            obtain ⟨Rb2, hRb2⟩ : ∃ R, cFlag.enc z2 = R := ⟨_, rfl⟩
            obtain ⟨Pb0, hPb0⟩ : ∃ P, Pq ++ Rb0 = P := ⟨_, rfl⟩
            obtain ⟨Pb1, hPb1⟩ : ∃ P, Pb0 ++ Rb1 = P := ⟨_, rfl⟩
            obtain ⟨Pb2, hPb2⟩ : ∃ P, Pb1 ++ Rb2 = P := ⟨_, rfl⟩
            have hEb : Pb2 = Pq ++ (num z0) ++ (cStr.enc z1) ++ (cFlag.enc z2) := by rw [← hPb2, ← hPb1, ← hPb0, ← hRb0, ← hRb1, ← hRb2]
            have hlb3 : Pb2.length ≤ 68719476736 := by rw [hEb]; exact htot
            have hlb2 : Pb1.length + Rb2.length ≤ 68719476736 := by rw [← List.length_append, hPb2]; exact hlb3
            have hlb1 : Pb0.length + Rb1.length ≤ 68719476736 := by rw [← List.length_append, hPb1]; omega
            have hlb0 : Pq.length + Rb0.length ≤ 68719476736 := by rw [← List.length_append, hPb0]; omega
            have HFb0 := Lib.hid (show Fits z0 from hzok.1)
            have hsb1 : z1.size ≤ 281474976710656 := str_size hRb1 (by omega)
            have sab0 : ¬ 9223372036854775807 < (mkb Pq).size + (mkb Rb0).size := by simp only [mkb_size]; omega
            have scb0 : mkb Pq ++ mkb Rb0 = mkb Pb0 := by rw [mkb_append, hPb0]
            have sab1 : ¬ 9223372036854775807 < (mkb Pb0).size + (mkb Rb1).size := by simp only [mkb_size]; omega
            have scb1 : mkb Pb0 ++ mkb Rb1 = mkb Pb1 := by rw [mkb_append, hPb1]
            have sab2 : ¬ 9223372036854775807 < (mkb Pb1).size + (mkb Rb2).size := by simp only [mkb_size]; omega
            have scb2 : mkb Pb1 ++ mkb Rb2 = mkb Pb2 := by rw [mkb_append, hPb2]
            have HRb0 := Lib.hid hRb0
            have HRb1 := Lib.hid hRb1
            have HRb2 := Lib.hid hRb2
            have HEb := Lib.hid hEb
            clear hEb hRb0 hPb0 hRb1 hPb1 hRb2 hPb2
            have hPE : Pq ++ tVersion.cod.enc (z0, (z1, z2)) = Pb2 := by rw [HEb.out]; exact hEE
            have hbb : bb < wr.heap.size := World.block_lt_of_cell? wr _ n0
            have HZ := Lib.hid hz
            have HPEz := Lib.hid hPE
            have HPq := Lib.hid hPq
            clear hds hz hsz2 hzok hEE htot hPE hPq hokb haz1 hbz1 haz2 hbz2
            have c0 : (0 : Int) ≤ (j : Int) := by omega
            have c1 : (j : Int) < (LI : Int) := by omega
            have hbw : Below wr.heap.size wr (wr.alloc (.cells #[.int .i64 z0, .string z1, .bool z2] 166)) := (Below.refl _ _).alloc (Nat.le_refl _) _
            have hkk := blk_new wr (.cells #[.int .i64 z0, .string z1, .bool z2] 166)
            obtain ⟨wb, hwb⟩ : ∃ wb, wr.alloc (.cells #[.int .i64 z0, .string z1, .bool z2] 166) = wb := ⟨_, rfl⟩
            rw [hwb] at hbw hkk
            have x0 : wb.cell? ⟨wr.heap.size, 0, none⟩ = some (.int .i64 z0) := (blk_cell hkk 0).trans rfl
            have x1 : wb.cell? ⟨wr.heap.size, 1, none⟩ = some (.string z1) := (blk_cell hkk 1).trans rfl
            have x2 : wb.cell? ⟨wr.heap.size, 2, none⟩ = some (.bool z2) := (blk_cell hkk 2).trans rfl
            have hnb : wr.heap.size < wb.heap.size := blk_lt hkk
            have HBw := Lib.hid (below_step HBi.out hbw)
            have HWB := Lib.hid hwb
            clear hbw hkk hwb
            go_upto_region 10 with fail
            rw [HWB.out]
            have hBb0 : Below wb.heap.size wb wb := Below.refl _ _
            have KKb : Hid (∀ w', Below wb.heap.size wb w' → (Below wb.heap.size wb w' ∧ w'.cell? ⟨wr.heap.size, 0, none⟩ = some (.int .i64 z0) ∧ w'.cell? ⟨wr.heap.size, 1, none⟩ = some (.string z1) ∧ w'.cell? ⟨wr.heap.size, 2, none⟩ = some (.bool z2))) := Lib.hid (fun w' hX => ⟨hX, keep1 x0 hX, keep1 x1 hX, keep1 x2 hX⟩)
            go_region_held3 (fun w' => Below wb.heap.size wb w' ∧ w'.cell? ⟨wr.heap.size, 0, none⟩ = some (.int .i64 z0) ∧ w'.cell? ⟨wr.heap.size, 1, none⟩ = some (.string z1) ∧ w'.cell? ⟨wr.heap.size, 2, none⟩ = some (.bool z2))
              (first | ((with_reducible refine KKb.out _ ?_); (repeat (first | with_reducible refine bel_drew ?_ | with_reducible refine bel_alloc ?_)); first | with_reducible exact hBb3 | with_reducible exact hBb2 | with_reducible exact hBb1 | with_reducible exact hBb0))
              (first | (go_at_call 30; have hp := hBb2; refine (flag_ref' z2 Rb2 HRb2.out _).mono ?_; rintro e vb3 ⟨rfl, hrb3⟩; have hBb3 : Below wb.heap.size wb vb3 := below_step (by (repeat (first | with_reducible refine bel_drew ?_ | with_reducible refine bel_alloc ?_)); with_reducible exact hp) hrb3) | (go_at_call 32; have hp := hBb1; refine (text_ref' z1 Rb1 HRb1.out _ hsb1).mono ?_; rintro e vb2 ⟨rfl, hrb2⟩; have hBb2 : Below wb.heap.size wb vb2 := below_step (by (repeat (first | with_reducible refine bel_drew ?_ | with_reducible refine bel_alloc ?_)); with_reducible exact hp) hrb2) | (go_at_call 41; have hp := hBb0; refine (num_ref' z0 Rb0 HRb0.out _ HFb0.out).mono ?_; rintro e vb1 ⟨rfl, hrb1⟩; have hBb1 : Below wb.heap.size wb vb1 := below_step (by (repeat (first | with_reducible refine bel_drew ?_ | with_reducible refine bel_alloc ?_)); with_reducible exact hp) hrb1))
            all_goals
              go_wp2_with fail
              go_roundw
              case rel =>
                refine ⟨j + 1, by go_num, by omega, ?_, below_step HBw.out hBb3⟩
                rw [encs_snoc _ y1 j _ HZ.out, ← List.append_assoc, HPq.out]
                exact congrArg (fun l => Value.string (mkb l)) HPEz.out.symm
              case measure => simp [intOf]; omega
          · obtain rfl : j = LI := by omega
            go_wp2_with fail
            go_roundw
            case rel =>
              refine ⟨k + 1, by go_num, by omega, ?_, HBi.out⟩
              rw [encs_snoc _ l k _ HY.out, ← List.append_assoc, HPp.out, ← HLI.out, List.take_length]
              exact congrArg (fun l => Value.string (mkb l)) HPE.out.symm
            case measure => simp [intOf]; omega
    · obtain rfl : k = L := by omega
      go_wp2_with fail
      go_ret
      refine ⟨?_, HB.out⟩
      rw [HE.out, ← HL.out, List.take_length]
      rfl
end Go.Proofs.Ytlcgkcmicklihaa.Wire
namespace Go.Proofs.Ytlcgkcmicklihaa.Wire
set_option linter.unusedVariables false
set_option linter.unusedSimpArgs false
open Go.RowKit Go.Proofs.YtlcgkcmicklihaaW.PrintWords Go.Proofs.YtlcgkcmicklihaaW.PrintLast Go.Proofs.YtlcgkcmicklihaaW.PrintMore
set_option maxRecDepth 100000 in
set_option maxHeartbeats 16000000 in
theorem state_refL (y0 : List tRow.T) (y1 : List tLock.T) (y2 : List tRecord.T) (y3 : List tTid.T) (y4 : Int) (cs : List Value) (ok : Nat → Prop) (w : World) (hH : Holds w ok tState (y0, (y1, (y2, (y3, y4)))) cs) (hok : tState.cod.ok (y0, (y1, (y2, (y3, y4))))) (hlen : (tState.cod.enc (y0, (y1, (y2, (y3, y4))))).length ≤ 68719476736) :
    Calls Try.prog 19 #[.agg cs.toArray] w fun e w' => e = .returned (.string (mkb (tState.cod.enc (y0, (y1, (y2, (y3, y4))))))) ∧ Below w.heap.size w w' := by
  obtain ⟨ca1, cb1, rfl, ha1, hb1⟩ := Holds.pair_cell hH
  obtain ⟨A0, cap0, rfl, hh0⟩ := Holds.list_cell ha1
  obtain ⟨ca2, cb2, rfl, ha2, hb2⟩ := Holds.pair_cell hb1
  obtain ⟨A1, cap1, rfl, hh1⟩ := Holds.list_cell ha2
  obtain ⟨ca3, cb3, rfl, ha3, hb3⟩ := Holds.pair_cell hb2
  obtain ⟨A2, cap2, rfl, hh2⟩ := Holds.list_cell ha3
  obtain ⟨ca4, cb4, rfl, ha4, hb4⟩ := Holds.pair_cell hb3
  obtain ⟨A3, cap3, rfl, hh3⟩ := Holds.list_cell ha4
  obtain rfl := Holds.int_cell hb4
  clear ha1 hb1 ha2 hb2 ha3 hb3 ha4 hb4
  obtain ⟨L2, hL2⟩ : ∃ n, y2.length = n := ⟨_, rfl⟩
  obtain ⟨L3, hL3⟩ : ∃ n, y3.length = n := ⟨_, rfl⟩
  have hm2 : y2.length ≤ 9223372036854775807 := hok.2.2.1.1
  have hm3 : y3.length ≤ 9223372036854775807 := hok.2.2.2.1.1
  have hk2 := hok.2.2.1.2
  have hk3 := hok.2.2.2.1.2
  have hf4 : Fits y4 := hok.2.2.2.2
  rw [hL2] at hh2 hm2
  rw [hL3] at hh3 hm3
  have hE0 : tState.cod.enc (y0, (y1, (y2, (y3, y4)))) = (Ty.list tRow).cod.enc y0 ++ (Ty.list tLock).cod.enc y1 ++ num (L2 : Int) ++ encs tRecord.cod y2 ++ num (L3 : Int) ++ encs tTid.cod y3 ++ num y4 := by
    have h1 : tState.cod.enc (y0, (y1, (y2, (y3, y4)))) = ((Ty.list tRow).cod.enc y0 ++ ((Ty.list tLock).cod.enc y1 ++ ((Ty.list tRecord).cod.enc y2 ++ ((Ty.list tTid).cod.enc y3 ++ num y4)))) := rfl
    have h2 : (Ty.list tRecord).cod.enc y2 = num (y2.length : Int) ++ encs tRecord.cod y2 := rfl
    have h3 : (Ty.list tTid).cod.enc y3 = num (y3.length : Int) ++ encs tTid.cod y3 := rfl
    rw [h1, h2, h3, hL2, hL3]
    simp only [List.append_assoc]
  rw [hE0] at hlen
  rw [hE0]
  obtain ⟨F, hF⟩ : ∃ F, (Ty.list tRow).cod.enc y0 ++ (Ty.list tLock).cod.enc y1 ++ num (L2 : Int) ++ encs tRecord.cod y2 ++ num (L3 : Int) ++ encs tTid.cod y3 ++ num y4 = F := ⟨_, rfl⟩
  have hlf : F.length ≤ 68719476736 := by rw [← hF]; exact hlen
  rw [hF]
  rw [hL2, hL3]
  obtain ⟨wb, hwb⟩ : ∃ wb, w.alloc (.cells #[.slice A0 y0.length cap0, .slice A1 y1.length cap1, .slice A2 L2 cap2, .slice A3 L3 cap3, .int .i64 y4] 43) = wb := ⟨_, rfl⟩
  have hbb : Below w.heap.size w wb := by rw [← hwb]; exact (Below.refl _ _).alloc (Nat.le_refl _) _
  have q0 : wb.cell? ⟨w.heap.size, 0, none⟩ = some (.slice A0 y0.length cap0) := by rw [← hwb]; exact (blk_cell (blk_new w _) 0).trans rfl
  have q1 : wb.cell? ⟨w.heap.size, 1, none⟩ = some (.slice A1 y1.length cap1) := by rw [← hwb]; exact (blk_cell (blk_new w _) 1).trans rfl
  have q2 : wb.cell? ⟨w.heap.size, 2, none⟩ = some (.slice A2 L2 cap2) := by rw [← hwb]; exact (blk_cell (blk_new w _) 2).trans rfl
  have q3 : wb.cell? ⟨w.heap.size, 3, none⟩ = some (.slice A3 L3 cap3) := by rw [← hwb]; exact (blk_cell (blk_new w _) 3).trans rfl
  have q4 : wb.cell? ⟨w.heap.size, 4, none⟩ = some (.int .i64 y4) := by rw [← hwb]; exact (blk_cell (blk_new w _) 4).trans rfl
  have hNb : w.heap.size < wb.heap.size := by rw [← hwb]; simp
  have HHla0 := Lib.hid (hh0.below hbb)
  have HHla1 := Lib.hid (hh1.below hbb)
  obtain ⟨Ra0, hRa0⟩ : ∃ R, (Ty.list tRow).cod.enc y0 = R := ⟨_, rfl⟩
  obtain ⟨Ra1, hRa1⟩ : ∃ R, (Ty.list tLock).cod.enc y1 = R := ⟨_, rfl⟩
  obtain ⟨Ra2, hRa2⟩ : ∃ R, num (L2 : Int) = R := ⟨_, rfl⟩
  obtain ⟨Pa1, hPa1⟩ : ∃ P, Ra0 ++ Ra1 = P := ⟨_, rfl⟩
  obtain ⟨Pa2, hPa2⟩ : ∃ P, Pa1 ++ Ra2 = P := ⟨_, rfl⟩
  have hEa : Pa2 = ((Ty.list tRow).cod.enc y0) ++ ((Ty.list tLock).cod.enc y1) ++ (num (L2 : Int)) := by rw [← hPa2, ← hPa1, ← hRa0, ← hRa1, ← hRa2]
  have hla3 : Pa2.length ≤ 68719476736 := by rw [hEa]; have h3 := hlf; rw [← hF] at h3; simp only [List.length_append] at h3 ⊢; omega
  have hla2 : Pa1.length + Ra2.length ≤ 68719476736 := by rw [← List.length_append, hPa2]; exact hla3
  have hla1 : Ra0.length + Ra1.length ≤ 68719476736 := by rw [← List.length_append, hPa1]; omega
  have HOa0 := Lib.hid hok.1
  have HLna0 := Lib.hid (show ((Ty.list tRow).cod.enc y0).length ≤ 68719476736 by rw [hRa0]; omega)
  have hlla0 : y0.length ≤ 9223372036854775807 := hok.1.1
  have HOa1 := Lib.hid hok.2.1
  have HLna1 := Lib.hid (show ((Ty.list tLock).cod.enc y1).length ≤ 68719476736 by rw [hRa1]; omega)
  have hlla1 : y1.length ≤ 9223372036854775807 := hok.2.1.1
  have HFa2 := Lib.hid (show Fits (L2 : Int) from ⟨by omega, by omega⟩)
  have saa1 : ¬ 9223372036854775807 < (mkb Ra0).size + (mkb Ra1).size := by simp only [mkb_size]; omega
  have sca1 : mkb Ra0 ++ mkb Ra1 = mkb Pa1 := by rw [mkb_append, hPa1]
  have saa2 : ¬ 9223372036854775807 < (mkb Pa1).size + (mkb Ra2).size := by simp only [mkb_size]; omega
  have sca2 : mkb Pa1 ++ mkb Ra2 = mkb Pa2 := by rw [mkb_append, hPa2]
  have HRa0 := Lib.hid hRa0
  have HRa1 := Lib.hid hRa1
  have HRa2 := Lib.hid hRa2
  have HEa := Lib.hid hEa
  clear hEa hRa0 hRa1 hPa1 hRa2 hPa2
  have hF1 : Pa2 ++ encs tRecord.cod y2 ++ num (L3 : Int) ++ encs tTid.cod y3 ++ num y4 = F := by rw [HEa.out]; exact hF
  have HBB := Lib.hid hbb
  have HF1 := Lib.hid hF1
  have HK2 := Lib.hid hk2
  have HK3 := Lib.hid hk3
  have HL2 := Lib.hid hL2
  have HL3 := Lib.hid hL3
  have HR2 := Lib.hid hh2
  have HR3 := Lib.hid hh3
  have HLF := Lib.hid hlf
  have HF4 := Lib.hid hf4
  clear hbb hF1 hF hE0 hk2 hk3 hL2 hL3 hh0 hh1 hh2 hh3 hlf hf4 hlen hok
  show Calls Try.prog 19 #[.agg #[.slice A0 y0.length cap0, .slice A1 y1.length cap1, .slice A2 L2 cap2, .slice A3 L3 cap3, .int .i64 y4]] w _
  go_enter Try.func19, Try.ntmps19
  go_wp2_with fail
  clear hwb
  have Q0 := Lib.hid q0
  have Q1 := Lib.hid q1
  have Q2 := Lib.hid q2
  have Q3 := Lib.hid q3
  have Q4 := Lib.hid q4
  have hBa0 : Below wb.heap.size wb wb := Below.refl _ _
  have KKa : Hid (∀ w', Below wb.heap.size wb w' → (Below wb.heap.size wb w' ∧ w'.cell? ⟨w.heap.size, 0, none⟩ = some (.slice A0 y0.length cap0) ∧ w'.cell? ⟨w.heap.size, 1, none⟩ = some (.slice A1 y1.length cap1) ∧ w'.cell? ⟨w.heap.size, 2, none⟩ = some (.slice A2 L2 cap2) ∧ w'.cell? ⟨w.heap.size, 3, none⟩ = some (.slice A3 L3 cap3) ∧ w'.cell? ⟨w.heap.size, 4, none⟩ = some (.int .i64 y4))) := Lib.hid (fun w' hX => ⟨hX, keep1 q0 hX, keep1 q1 hX, keep1 q2 hX, keep1 q3 hX, keep1 q4 hX⟩)
  go_region_held3 (fun w' => Below wb.heap.size wb w' ∧ w'.cell? ⟨w.heap.size, 0, none⟩ = some (.slice A0 y0.length cap0) ∧ w'.cell? ⟨w.heap.size, 1, none⟩ = some (.slice A1 y1.length cap1) ∧ w'.cell? ⟨w.heap.size, 2, none⟩ = some (.slice A2 L2 cap2) ∧ w'.cell? ⟨w.heap.size, 3, none⟩ = some (.slice A3 L3 cap3) ∧ w'.cell? ⟨w.heap.size, 4, none⟩ = some (.int .i64 y4))
    (first | ((with_reducible refine KKa.out _ ?_); (repeat (first | with_reducible refine bel_drew ?_ | with_reducible refine bel_alloc ?_)); first | with_reducible exact hBa3 | with_reducible exact hBa2 | with_reducible exact hBa1 | with_reducible exact hBa0))
    (first | (go_at_call 41; have hp := hBa2; refine (num_ref' (L2 : Int) Ra2 HRa2.out _ HFa2.out).mono ?_; rintro e va3 ⟨rfl, hra3⟩; have hBa3 : Below wb.heap.size wb va3 := below_step (by (repeat (first | with_reducible refine bel_drew ?_ | with_reducible refine bel_alloc ?_)); with_reducible exact hp) hra3) | (go_at_call 40; have hp := hBa1; refine (list_ref' locks_all y1 _ _ _ Ra1 HRa1.out _ (HHla1.out.below (by (repeat (first | with_reducible refine bel_drew ?_ | with_reducible refine bel_alloc ?_)); with_reducible exact hp)) HOa1.out HLna1.out).mono ?_; rintro e va2 ⟨rfl, hra2⟩; have hBa2 : Below wb.heap.size wb va2 := below_step (by (repeat (first | with_reducible refine bel_drew ?_ | with_reducible refine bel_alloc ?_)); with_reducible exact hp) hra2) | (go_at_call 39; have hp := hBa0; refine (list_ref' rows_all y0 _ _ _ Ra0 HRa0.out _ (HHla0.out.below (by (repeat (first | with_reducible refine bel_drew ?_ | with_reducible refine bel_alloc ?_)); with_reducible exact hp)) HOa0.out HLna0.out).mono ?_; rintro e va1 ⟨rfl, hra1⟩; have hBa1 : Below wb.heap.size wb va1 := below_step (by (repeat (first | with_reducible refine bel_drew ?_ | with_reducible refine bel_alloc ?_)); with_reducible exact hp) hra1))
  all_goals
    have HBa := Lib.hid hBa3
    clear q0 q1 q2 q3 q4
    go_wp2_with fail
    go_loopw [3, 4] (fun v3 v4 wr => ∃ k : Nat, v4 = .int .i64 (k : Int) ∧ k ≤ L2 ∧ v3 = .string (mkb (Pa2 ++ encs tRecord.cod (y2.take k))) ∧ Below wb.heap.size wb wr) (fun _ v4 _ => L2 - (intOf v4).toNat)
    case atStart => exact ⟨0, rfl, by omega, by simp [encs], HBa.out⟩
    case round =>
      obtain ⟨k, rfl, hkb, rfl, hbb⟩ := hrel
      have p0 := keep1 Q0.out hbb
      have p1 := keep1 Q1.out hbb
      have p2 := keep1 Q2.out hbb
      have p3 := keep1 Q3.out hbb
      have p4 := keep1 Q4.out hbb
      have HBb := Lib.hid hbb
      have HXb := Lib.hid (below_step HBB.out hbb)
      clear hbb
      by_cases hltb : k < L2
      · obtain ⟨z, hz⟩ : ∃ z, y2[k]? = some z := ⟨_, List.getElem?_eq_getElem (by rw [HL2.out]; exact hltb)⟩
        obtain ⟨bb, bo, ds, rfl, hokb, hHz, hds⟩ := HR2.out.list_at hz
        have hzok := HK2.out _ (List.mem_of_getElem? hz)
        have hsz2 := encs_take_le tRecord.cod y2 (k + 1)
        rw [encs_snoc _ y2 k z hz] at hsz2
        obtain ⟨z0, z1, z2, z3, rfl⟩ : ∃ (z0 : Int) (z1 : Int) (z2 : Int) (z3 : Int), z = ((z0, (z1, z2)), z3) := by
          obtain ⟨⟨z0, ⟨z1, z2⟩⟩, z3⟩ := z
          exact ⟨_, _, _, _, rfl⟩
        obtain ⟨cab1, cbb1, rfl, hab1, hbb1⟩ := Holds.pair_cell hHz
        have HHsb0 := Lib.hid (hab1.below HXb.out)
        obtain ⟨cab2, cbb2, rfl, hab2, hbb2⟩ := Holds.pair_cell hab1
        obtain rfl := Holds.int_cell hab2
        obtain ⟨cab3, cbb3, rfl, hab3, hbb3⟩ := Holds.pair_cell hbb2
        obtain rfl := Holds.int_cell hab3
        obtain rfl := Holds.int_cell hbb3
        obtain rfl := Holds.int_cell hbb1
        have n0 := keep1 (show w.cell? ⟨bb, bo + k * 4, none⟩ = some (.int .i64 z0) from hds 0 _ rfl) HXb.out
        have n1 := keep1 (show w.cell? ⟨bb, bo + k * 4 + 1, none⟩ = some (.int .i64 z1) from hds 1 _ rfl) HXb.out
        have n2 := keep1 (show w.cell? ⟨bb, bo + k * 4 + 2, none⟩ = some (.int .i64 z2) from hds 2 _ rfl) HXb.out
        have n3 := keep1 (show w.cell? ⟨bb, bo + k * 4 + 3, none⟩ = some (.int .i64 z3) from hds 3 _ rfl) HXb.out
        obtain ⟨Pq, hPq⟩ : ∃ P, Pa2 ++ encs tRecord.cod (y2.take k) = P := ⟨_, rfl⟩
        rw [hPq]
        have hEE : Pq ++ tRecord.cod.enc ((z0, (z1, z2)), z3) = Pq ++ (tTid.cod.enc (z0, (z1, z2))) ++ (num z3) := by
          have h1 : tRecord.cod.enc ((z0, (z1, z2)), z3) = ((num z0 ++ (num z1 ++ num z2)) ++ num z3) := rfl
          rw [h1]
          have h10 : tTid.cod.enc (z0, (z1, z2)) = (num z0 ++ (num z1 ++ num z2)) := rfl
          rw [h10]
          all_goals simp only [List.append_assoc, List.flatMap_cons, List.flatMap_nil, List.append_nil]
        have htot : (Pq ++ (tTid.cod.enc (z0, (z1, z2))) ++ (num z3)).length ≤ 68719476736 := by
          rw [← hEE, ← hPq]
          have h3 := HLF.out
          rw [← HF1.out] at h3
          have h4 : (encs tRecord.cod (y2.take k) ++ tRecord.cod.enc ((z0, (z1, z2)), z3)).length ≤ (encs tRecord.cod y2).length := hsz2
          simp only [List.length_append] at h3 h4 ⊢
          omega
        obtain ⟨Rb0, hRb0⟩ : ∃ R, tTid.cod.enc (z0, (z1, z2)) = R := ⟨_, rfl⟩
        obtain ⟨Rb1, hRb1⟩ : ∃ R, num z3 = R := ⟨_, rfl⟩
        obtain ⟨Pb0, hPb0⟩ : ∃ P, Pq ++ Rb0 = P := ⟨_, rfl⟩
        obtain ⟨Pb1, hPb1⟩ : ∃ P, Pb0 ++ Rb1 = P := ⟨_, rfl⟩
        have hEb : Pb1 = Pq ++ (tTid.cod.enc (z0, (z1, z2))) ++ (num z3) := by rw [← hPb1, ← hPb0, ← hRb0, ← hRb1]
        have hlb2 : Pb1.length ≤ 68719476736 := by rw [hEb]; exact htot
        have hlb1 : Pb0.length + Rb1.length ≤ 68719476736 := by rw [← List.length_append, hPb1]; exact hlb2
        have hlb0 : Pq.length + Rb0.length ≤ 68719476736 := by rw [← List.length_append, hPb0]; omega
        have HOb0 := Lib.hid (show tTid.cod.ok (z0, (z1, z2)) from hzok.1)
        have HLnb0 := Lib.hid (show (tTid.cod.enc (z0, (z1, z2))).length ≤ 68719476736 by rw [hRb0]; omega)
        have HFb1 := Lib.hid (show Fits z3 from hzok.2)
        have sab0 : ¬ 9223372036854775807 < (mkb Pq).size + (mkb Rb0).size := by simp only [mkb_size]; omega
        have scb0 : mkb Pq ++ mkb Rb0 = mkb Pb0 := by rw [mkb_append, hPb0]
        have sab1 : ¬ 9223372036854775807 < (mkb Pb0).size + (mkb Rb1).size := by simp only [mkb_size]; omega
        have scb1 : mkb Pb0 ++ mkb Rb1 = mkb Pb1 := by rw [mkb_append, hPb1]
        have HRb0 := Lib.hid hRb0
        have HRb1 := Lib.hid hRb1
        have HEb := Lib.hid hEb
        clear hEb hRb0 hPb0 hRb1 hPb1
        have hPE : Pq ++ tRecord.cod.enc ((z0, (z1, z2)), z3) = Pb1 := by rw [HEb.out] <;> exact hEE
        have hbbx : bb < wr.heap.size := World.block_lt_of_cell? wr _ n0
        have HZ := Lib.hid hz
        have HPEz := Lib.hid hPE
        have HPq := Lib.hid hPq
        clear hds hz hsz2 hzok hEE htot hPE hPq hokb hHz hab1 hab2 hbb2 hab3 hbb3 hbb1
        have c0 : (0 : Int) ≤ (k : Int) := by omega
        have c1 : (k : Int) < (L2 : Int) := by omega
        go_wp2_with fail
        have hBb0 : Below wr.heap.size wr wr := Below.refl _ _
        have KKb : Hid (∀ w', Below wr.heap.size wr w' → (Below wr.heap.size wr w' ∧ w'.cell? ⟨w.heap.size, 2, none⟩ = some (.slice (some ⟨bb, bo, none⟩) L2 cap2) ∧ w'.cell? ⟨bb, bo + k * 4, none⟩ = some (.int .i64 z0) ∧ w'.cell? ⟨bb, bo + k * 4 + 1, none⟩ = some (.int .i64 z1) ∧ w'.cell? ⟨bb, bo + k * 4 + 2, none⟩ = some (.int .i64 z2) ∧ w'.cell? ⟨bb, bo + k * 4 + 3, none⟩ = some (.int .i64 z3))) := Lib.hid (fun w' hX => ⟨hX, keep1 p2 hX, keep1 n0 hX, keep1 n1 hX, keep1 n2 hX, keep1 n3 hX⟩)
        go_region_held3 (fun w' => Below wr.heap.size wr w' ∧ w'.cell? ⟨w.heap.size, 2, none⟩ = some (.slice (some ⟨bb, bo, none⟩) L2 cap2) ∧ w'.cell? ⟨bb, bo + k * 4, none⟩ = some (.int .i64 z0) ∧ w'.cell? ⟨bb, bo + k * 4 + 1, none⟩ = some (.int .i64 z1) ∧ w'.cell? ⟨bb, bo + k * 4 + 2, none⟩ = some (.int .i64 z2) ∧ w'.cell? ⟨bb, bo + k * 4 + 3, none⟩ = some (.int .i64 z3))
          (first | ((with_reducible refine KKb.out _ ?_); (repeat (first | with_reducible refine bel_drew ?_ | with_reducible refine bel_alloc ?_)); first | with_reducible exact hBb2 | with_reducible exact hBb1 | with_reducible exact hBb0))
          (first | (go_at_call 41; have hp := hBb1; refine (num_ref' z3 Rb1 HRb1.out _ HFb1.out).mono ?_; rintro e vb2 ⟨rfl, hrb2⟩; have hBb2 : Below wr.heap.size wr vb2 := below_step (by (repeat (first | with_reducible refine bel_drew ?_ | with_reducible refine bel_alloc ?_)); with_reducible exact hp) hrb2) | (go_at_call 42; have hp := hBb0; refine (sub_ref' tid_ref _ [.int .i64 z0, .int .i64 z1, .int .i64 z2] _ Rb0 HRb0.out _ (HHsb0.out.below (by (repeat (first | with_reducible refine bel_drew ?_ | with_reducible refine bel_alloc ?_)); with_reducible exact hp)) HOb0.out HLnb0.out).mono ?_; rintro e vb1 ⟨rfl, hrb1⟩; have hBb1 : Below wr.heap.size wr vb1 := below_step (by (repeat (first | with_reducible refine bel_drew ?_ | with_reducible refine bel_alloc ?_)); with_reducible exact hp) hrb1))
        all_goals
          go_wp2_with fail
          go_roundw
          case rel =>
            refine ⟨k + 1, by go_num, by omega, ?_, below_step HBb.out hBb2⟩
            rw [encs_snoc _ y2 k _ HZ.out, ← List.append_assoc, HPq.out]
            exact congrArg (fun l => Value.string (mkb l)) HPEz.out.symm
          case measure => simp [intOf]; omega
      · obtain rfl : k = L2 := by omega
        obtain ⟨Pz, hPz⟩ : ∃ P, Pa2 ++ encs tRecord.cod (y2.take k) = P := ⟨_, rfl⟩
        have hPz2 : Pa2 ++ encs tRecord.cod y2 = Pz := by rw [← hPz, ← HL2.out, List.take_length]
        obtain ⟨Rl, hRl⟩ : ∃ R, num (L3 : Int) = R := ⟨_, rfl⟩
        obtain ⟨Pl, hPl⟩ : ∃ P, Pz ++ Rl = P := ⟨_, rfl⟩
        have hF2 : Pl ++ encs tTid.cod y3 ++ num y4 = F := by rw [← HF1.out, hPz2, hRl, hPl]
        have hz0 : Pz.length + Rl.length ≤ 68719476736 := by have h3 := HLF.out; rw [← hF2, ← hPl] at h3; simp only [List.length_append] at h3; omega
        have sal : ¬ 9223372036854775807 < (mkb Pz).size + (mkb Rl).size := by simp only [mkb_size]; omega
        have scl : mkb Pz ++ mkb Rl = mkb Pl := by rw [mkb_append, hPl]
        have HF2 := Lib.hid hF2
        have HRl := Lib.hid hRl
        rw [hPz]
        clear hPz hPz2 hRl hPl hF2
        go_wp2_with fail
        refine (num_ref' _ Rl HRl.out _ ⟨by omega, by omega⟩).mono ?_
        rintro e wl ⟨rfl, hrl⟩
        have HBl := Lib.hid (below_step HBb.out hrl)
        clear hrl p0 p1 p2 p3 p4
        go_wp2_with fail
        go_loopw [3, 5] (fun v3 v5 wr => ∃ k : Nat, v5 = .int .i64 (k : Int) ∧ k ≤ L3 ∧ v3 = .string (mkb (Pl ++ encs tTid.cod (y3.take k))) ∧ Below wb.heap.size wb wr) (fun _ v5 _ => L3 - (intOf v5).toNat)
        case atStart => exact ⟨0, rfl, by omega, by simp [encs], HBl.out⟩
        case round =>
          obtain ⟨j, rfl, hkc, rfl, hbc⟩ := hrel
          have p0 := keep1 Q0.out hbc
          have p1 := keep1 Q1.out hbc
          have p2 := keep1 Q2.out hbc
          have p3 := keep1 Q3.out hbc
          have p4 := keep1 Q4.out hbc
          have HBc := Lib.hid hbc
          have HXc := Lib.hid (below_step HBB.out hbc)
          clear hbc
          by_cases hltc : j < L3
          · obtain ⟨z, hz⟩ : ∃ z, y3[j]? = some z := ⟨_, List.getElem?_eq_getElem (by rw [HL3.out]; exact hltc)⟩
            obtain ⟨bb, bo, ds, rfl, hokb, hHz, hds⟩ := HR3.out.list_at hz
            have hzok := HK3.out _ (List.mem_of_getElem? hz)
            have hsz2 := encs_take_le tTid.cod y3 (j + 1)
            rw [encs_snoc _ y3 j z hz] at hsz2
            obtain ⟨x0, x1, x2, rfl⟩ : ∃ (x0 : Int) (x1 : Int) (x2 : Int), z = (x0, (x1, x2)) := by
              obtain ⟨x0, ⟨x1, x2⟩⟩ := z
              exact ⟨_, _, _, rfl⟩
            have HHsc0 := Lib.hid (hHz.below HXc.out)
            obtain ⟨cac1, cbc1, rfl, hac1, hbc1⟩ := Holds.pair_cell hHz
            obtain rfl := Holds.int_cell hac1
            obtain ⟨cac2, cbc2, rfl, hac2, hbc2⟩ := Holds.pair_cell hbc1
            obtain rfl := Holds.int_cell hac2
            obtain rfl := Holds.int_cell hbc2
            have n0 := keep1 (show w.cell? ⟨bb, bo + j * 3, none⟩ = some (.int .i64 x0) from hds 0 _ rfl) HXc.out
            have n1 := keep1 (show w.cell? ⟨bb, bo + j * 3 + 1, none⟩ = some (.int .i64 x1) from hds 1 _ rfl) HXc.out
            have n2 := keep1 (show w.cell? ⟨bb, bo + j * 3 + 2, none⟩ = some (.int .i64 x2) from hds 2 _ rfl) HXc.out
            obtain ⟨Pq, hPq⟩ : ∃ P, Pl ++ encs tTid.cod (y3.take j) = P := ⟨_, rfl⟩
            rw [hPq]
            have hEE : Pq ++ tTid.cod.enc (x0, (x1, x2)) = Pq ++ (tTid.cod.enc (x0, (x1, x2))) := by
              have h1 : tTid.cod.enc (x0, (x1, x2)) = (num x0 ++ (num x1 ++ num x2)) := rfl
              rfl
              all_goals simp only [List.append_assoc, List.flatMap_cons, List.flatMap_nil, List.append_nil]
            have htot : (Pq ++ (tTid.cod.enc (x0, (x1, x2)))).length ≤ 68719476736 := by
              rw [← hEE, ← hPq]
              have h3 := HLF.out
              rw [← HF2.out] at h3
              have h4 : (encs tTid.cod (y3.take j) ++ tTid.cod.enc (x0, (x1, x2))).length ≤ (encs tTid.cod y3).length := hsz2
              simp only [List.length_append] at h3 h4 ⊢
              omega
            obtain ⟨Rc0, hRc0⟩ : ∃ R, tTid.cod.enc (x0, (x1, x2)) = R := ⟨_, rfl⟩
            obtain ⟨Pc0, hPc0⟩ : ∃ P, Pq ++ Rc0 = P := ⟨_, rfl⟩
            have hEc : Pc0 = Pq ++ (tTid.cod.enc (x0, (x1, x2))) := by rw [← hPc0, ← hRc0]
            have hlc1 : Pc0.length ≤ 68719476736 := by rw [hEc]; exact htot
            have hlc0 : Pq.length + Rc0.length ≤ 68719476736 := by rw [← List.length_append, hPc0]; exact hlc1
            have HOc0 := Lib.hid (show tTid.cod.ok (x0, (x1, x2)) from hzok)
            have HLnc0 := Lib.hid (show (tTid.cod.enc (x0, (x1, x2))).length ≤ 68719476736 by rw [hRc0]; omega)
            have sac0 : ¬ 9223372036854775807 < (mkb Pq).size + (mkb Rc0).size := by simp only [mkb_size]; omega
            have scc0 : mkb Pq ++ mkb Rc0 = mkb Pc0 := by rw [mkb_append, hPc0]
            have HRc0 := Lib.hid hRc0
            have HEc := Lib.hid hEc
            clear hEc hRc0 hPc0
            have hPE : Pq ++ tTid.cod.enc (x0, (x1, x2)) = Pc0 := by rw [HEc.out] <;> exact hEE
            have hbbx : bb < wr.heap.size := World.block_lt_of_cell? wr _ n0
            have HZ := Lib.hid hz
            have HPEz := Lib.hid hPE
            have HPq := Lib.hid hPq
            clear hds hz hsz2 hzok hEE htot hPE hPq hokb hHz hac1 hbc1 hac2 hbc2
            have c0 : (0 : Int) ≤ (j : Int) := by omega
            have c1 : (j : Int) < (L3 : Int) := by omega
            go_wp2_with fail
            refine (sub_ref' tid_ref _ [.int .i64 x0, .int .i64 x1, .int .i64 x2] _ Rc0 HRc0.out _ HHsc0.out HOc0.out HLnc0.out).mono ?_
            rintro e wt ⟨rfl, hrt⟩
            go_wp2_with fail
            go_roundw
            case rel =>
              refine ⟨j + 1, by go_num, by omega, ?_, below_step HBc.out hrt⟩
              rw [encs_snoc _ y3 j _ HZ.out, ← List.append_assoc, HPq.out]
              exact congrArg (fun l => Value.string (mkb l)) HPEz.out.symm
            case measure => simp [intOf]; omega
          · obtain rfl : j = L3 := by omega
            obtain ⟨Pz, hPz⟩ : ∃ P, Pl ++ encs tTid.cod (y3.take j) = P := ⟨_, rfl⟩
            have hPz2 : Pl ++ encs tTid.cod y3 = Pz := by rw [← hPz, ← HL3.out, List.take_length]
            obtain ⟨Rh, hRh⟩ : ∃ R, num y4 = R := ⟨_, rfl⟩
            have hF3 : Pz ++ Rh = F := by rw [← HF2.out, hPz2, hRh]
            have hz1 : Pz.length + Rh.length ≤ 68719476736 := by have h3 := HLF.out; rw [← hF3, List.length_append] at h3; exact h3
            have sah : ¬ 9223372036854775807 < (mkb Pz).size + (mkb Rh).size := by simp only [mkb_size]; omega
            have sch : mkb Pz ++ mkb Rh = mkb F := by rw [mkb_append, hF3]
            have HRh := Lib.hid hRh
            rw [hPz]
            clear hPz hPz2 hRh hF3
            go_wp2_with fail
            refine (num_ref' _ Rh HRh.out _ HF4.out).mono ?_
            rintro e wh ⟨rfl, hrh⟩
            go_wp2_with fail
            go_ret
            exact ⟨rfl, below_step HXc.out hrh⟩
theorem state_ref (x : tState.T) (cs : List Value) (ok : Nat → Prop) (w : World) (hH : Holds w ok tState x cs) (hok : tState.cod.ok x) (hlen : (tState.cod.enc x).length ≤ 68719476736) :
    Calls Try.prog 19 #[.agg cs.toArray] w fun e w' => e = .returned (.string (mkb (tState.cod.enc x))) ∧ Below w.heap.size w w' := by
  obtain ⟨y0, ⟨y1, ⟨y2, ⟨y3, y4⟩⟩⟩⟩ := x
  exact state_refL y0 y1 y2 y3 y4 cs ok w hH hok hlen
end Go.Proofs.Ytlcgkcmicklihaa.Wire
namespace Go.Proofs.Ytlcgkcmicklihaa.Wire
set_option linter.unusedVariables false
set_option linter.unusedSimpArgs false
open Go.RowKit Go.Proofs.YtlcgkcmicklihaaW.PrintWords Go.Proofs.YtlcgkcmicklihaaW.PrintLast Go.Proofs.YtlcgkcmicklihaaW.PrintMore
set_option maxRecDepth 100000 in
set_option maxHeartbeats 16000000 in
theorem wireRanges_walkL (y0 : List tRow.T) (y1 : List tLock.T) (y2 : List tRecord.T) (y3 : List tTid.T) (y4 : Int) (cs : List Value) (w : World) (hH : Holds w (fun _ => True) tState (y0, (y1, (y2, (y3, y4)))) cs) (hok : tState.cod.ok (y0, (y1, (y2, (y3, y4))))) (hlen : (tState.cod.enc (y0, (y1, (y2, (y3, y4))))).length ≤ 68719476736) :
    Calls Try.prog 6 #[.agg cs.toArray] w fun e w' => e = .returned (.bool true) ∧ Below w.heap.size w w' := by
  have HH0 := Lib.hid hH
  obtain ⟨ca1, cb1, rfl, ha1, hb1⟩ := Holds.pair_cell hH
  obtain ⟨A0, cap0, rfl, hh0⟩ := Holds.list_cell ha1
  obtain ⟨ca2, cb2, rfl, ha2, hb2⟩ := Holds.pair_cell hb1
  obtain ⟨A1, cap1, rfl, hh1⟩ := Holds.list_cell ha2
  obtain ⟨ca3, cb3, rfl, ha3, hb3⟩ := Holds.pair_cell hb2
  obtain ⟨A2, cap2, rfl, hh2⟩ := Holds.list_cell ha3
  obtain ⟨ca4, cb4, rfl, ha4, hb4⟩ := Holds.pair_cell hb3
  obtain ⟨A3, cap3, rfl, hh3⟩ := Holds.list_cell ha4
  obtain rfl := Holds.int_cell hb4
  obtain ⟨L0, hL0⟩ : ∃ n, y0.length = n := ⟨_, rfl⟩
  obtain ⟨L1, hL1⟩ : ∃ n, y1.length = n := ⟨_, rfl⟩
  have hm0 : y0.length ≤ 9223372036854775807 := hok.1.1
  have hm1 : y1.length ≤ 9223372036854775807 := hok.2.1.1
  have hm2 : y2.length ≤ 9223372036854775807 := hok.2.2.1.1
  have hm3 : y3.length ≤ 9223372036854775807 := hok.2.2.2.1.1
  have hk0 := hok.1.2
  have hk1 := hok.2.1.2
  obtain ⟨X, hC, hokX, hlenX⟩ : ∃ X : tState.T, Holds w (fun _ => True) tState X [.slice A0 y0.length cap0, .slice A1 y1.length cap1, .slice A2 y2.length cap2, .slice A3 y3.length cap3, .int .i64 y4] ∧ tState.cod.ok X ∧ (tState.cod.enc X).length ≤ 68719476736 := ⟨(y0, (y1, (y2, (y3, y4)))), HH0.out, hok, hlen⟩
  clear HH0 hH hok hlen hh2 hh3 ha1 hb1 ha2 hb2 ha3 hb3 ha4 hb4
  rw [hL0] at hh0 hm0 hC
  rw [hL1] at hh1 hm1 hC
  rw [hL0, hL1]
  have hs := get_enc tState.cod X hokX
  obtain ⟨S, hS⟩ : ∃ S, mkb (tState.cod.enc X) = S := ⟨_, rfl⟩
  have hss : S.size ≤ 68719476736 := by rw [← hS, mkb_size]; exact hlenX
  have hsd : S.data.toList = tState.cod.enc X := by rw [← hS, mkb_data]
  rw [← hsd] at hs
  have e0 := blk_new w (.cells #[.slice A0 L0 cap0, .slice A1 L1 cap1, .slice A2 y2.length cap2, .slice A3 y3.length cap3, .int .i64 y4] 43)
  have hb0 : Below w.heap.size w (w.alloc (.cells #[.slice A0 L0 cap0, .slice A1 L1 cap1, .slice A2 y2.length cap2, .slice A3 y3.length cap3, .int .i64 y4] 43)) := (Below.refl _ _).alloc (Nat.le_refl _) _
  have hN : (w.alloc (.cells #[.slice A0 L0 cap0, .slice A1 L1 cap1, .slice A2 y2.length cap2, .slice A3 y3.length cap3, .int .i64 y4] 43)).heap.size = w.heap.size + 1 := by simp
  obtain ⟨wb, hwb⟩ : ∃ wb, w.alloc (.cells #[.slice A0 L0 cap0, .slice A1 L1 cap1, .slice A2 y2.length cap2, .slice A3 y3.length cap3, .int .i64 y4] 43) = wb := ⟨_, rfl⟩
  rw [hwb] at e0 hb0 hN
  have HC := Lib.hid hC
  have HOK := Lib.hid hokX
  have HL := Lib.hid hlenX
  have HG := Lib.hid hs
  have HS := Lib.hid hS
  have HSS := Lib.hid hss
  have HE := Lib.hid e0
  have HB0 := Lib.hid hb0
  have HN := Lib.hid hN
  have HK0 := Lib.hid hk0
  have HK1 := Lib.hid hk1
  have HL0 := Lib.hid hL0
  have HL1 := Lib.hid hL1
  have HR0 := Lib.hid hh0
  have HR1 := Lib.hid hh1
  have HWB := Lib.hid hwb
  have q0 : wb.cell? ⟨w.heap.size, 0, none⟩ = some (.slice A0 L0 cap0) := (blk_cell e0 0).trans rfl
  have q1 : wb.cell? ⟨w.heap.size, 1, none⟩ = some (.slice A1 L1 cap1) := (blk_cell e0 1).trans rfl
  have q2 : wb.cell? ⟨w.heap.size, 2, none⟩ = some (.slice A2 y2.length cap2) := (blk_cell e0 2).trans rfl
  have q3 : wb.cell? ⟨w.heap.size, 3, none⟩ = some (.slice A3 y3.length cap3) := (blk_cell e0 3).trans rfl
  have q4 : wb.cell? ⟨w.heap.size, 4, none⟩ = some (.int .i64 y4) := (blk_cell e0 4).trans rfl
  clear hC hokX hlenX hs hS hss hsd e0 hb0 hN hk0 hk1 hL0 hL1 hh0 hh1 hwb
  have Q0 := Lib.hid q0
  have Q1 := Lib.hid q1
  have Q2 := Lib.hid q2
  have Q3 := Lib.hid q3
  have Q4 := Lib.hid q4
  show Calls Try.prog 6 #[.agg #[.slice A0 L0 cap0, .slice A1 L1 cap1, .slice A2 y2.length cap2, .slice A3 y3.length cap3, .int .i64 y4]] w _
  go_enter Try.func6, Try.ntmps6
  go_upto_region 1 with fail
  rw [HWB.out]
  go_wp2_with fail
  go_loopw [3, 29] (fun v3 v29 wr => ∃ (k : Nat) (n : Int), v29 = .int .i64 (k : Int) ∧ k ≤ L0 ∧ v3 = .int .i64 n ∧ Below wb.heap.size wb wr) (fun _ v29 _ => L0 - (intOf v29).toNat)
  case atStart => exact ⟨0, _, rfl, by omega, rfl, Below.refl _ _⟩
  case round =>
    obtain ⟨k, n, rfl, hk, rfl, hb⟩ := hrel
    have HB := Lib.hid hb
    have HX := Lib.hid (below_step HB0.out hb)
    clear hb
    by_cases hlt : k < L0
    · obtain ⟨z, hz⟩ : ∃ z, y0[k]? = some z := ⟨_, List.getElem?_eq_getElem (by rw [HL0.out]; exact hlt)⟩
      obtain ⟨bb, bo, ds, rfl, hokb, hHz, hds⟩ := HR0.out.list_at hz
      have hzok := HK0.out _ (List.mem_of_getElem? hz)
      obtain ⟨z0, z1, rfl⟩ : ∃ (z0 : ByteArray) (z1 : List tVersion.T), z = (z0, z1) := ⟨z.1, z.2, rfl⟩
      obtain ⟨ca, cb, rfl, ha, hb⟩ := Holds.pair_cell hHz
      obtain rfl := Holds.str_cell ha
      obtain ⟨Az, capz, rfl, hhz⟩ := Holds.list_cell hb
      have n0 := keep1 (show w.cell? ⟨bb, bo + k * 2, none⟩ = some (.string z0) from hds 0 _ rfl) HX.out
      have n1 := keep1 (show w.cell? ⟨bb, bo + k * 2 + 1, none⟩ = some (.slice Az z1.length capz) from hds 1 _ rfl) HX.out
      have hzl : z1.length ≤ 9223372036854775807 := hzok.2.1
      clear hz hokb hHz hds hzok ha hb hhz
      have c0 : (0 : Int) ≤ (k : Int) := by omega
      have c1 : (k : Int) < (L0 : Int) := by omega
      have hbw : Below wr.heap.size wr (wr.alloc (.cells #[.string z0, .slice Az z1.length capz] 46)) := (Below.refl _ _).alloc (Nat.le_refl _) _
      have hkk := blk_new wr (.cells #[.string z0, .slice Az z1.length capz] 46)
      obtain ⟨wc, hwc⟩ : ∃ wc, wr.alloc (.cells #[.string z0, .slice Az z1.length capz] 46) = wc := ⟨_, rfl⟩
      rw [hwc] at hbw hkk
      have x1 : wc.cell? ⟨wr.heap.size, 1, none⟩ = some (.slice Az z1.length capz) := (blk_cell hkk 1).trans rfl
      have HBc := Lib.hid (below_step HB.out hbw)
      have p0 := keep1 (keep1 Q0.out HB.out) hbw
      have p1 := keep1 (keep1 Q1.out HB.out) hbw
      have p2 := keep1 (keep1 Q2.out HB.out) hbw
      have p3 := keep1 (keep1 Q3.out HB.out) hbw
      have p4 := keep1 (keep1 Q4.out HB.out) hbw
      have HWC := Lib.hid hwc
      clear hbw hkk hwc
      go_upto_region 5 with fail
      rw [HWC.out]
      go_wp2_with fail
      · clear n0 n1 c0 c1 hzl x1
        go_loopw [3, 44] (fun v3 v44 wr => ∃ (j : Nat) (n : Int), v44 = .int .i64 (j : Int) ∧ j ≤ L1 ∧ v3 = .int .i64 n ∧ Below wb.heap.size wb wr) (fun _ v44 _ => L1 - (intOf v44).toNat)
        case atStart => exact ⟨0, _, rfl, by omega, rfl, HBc.out⟩
        case round =>
          obtain ⟨j, m, rfl, hj, rfl, hbi⟩ := hrel
          have HBi := Lib.hid hbi
          have HXi := Lib.hid (below_step HB0.out hbi)
          clear hbi p0 p1 p2 p3 p4
          by_cases hlj : j < L1
          · obtain ⟨z, hz⟩ : ∃ z, y1[j]? = some z := ⟨_, List.getElem?_eq_getElem (by rw [HL1.out]; exact hlj)⟩
            obtain ⟨bb, bo, ds, rfl, hokb, hHz, hds⟩ := HR1.out.list_at hz
            have hzok := HK1.out _ (List.mem_of_getElem? hz)
            obtain ⟨z0, z1, z2, z3, z4, z5, z6, rfl⟩ : ∃ (z0 z1 z2 z3 z4 : Int) (z5 : List tSpan.T) (z6 : List tWrite.T), z = ((z0, (z1, z2)), ((z3, z4), (z5, z6))) := ⟨_, _, _, _, _, _, _, rfl⟩
            obtain ⟨caz1, cbz1, rfl, haz1, hbz1⟩ := Holds.pair_cell hHz
            obtain ⟨caz2, cbz2, rfl, haz2, hbz2⟩ := Holds.pair_cell haz1
            obtain rfl := Holds.int_cell haz2
            obtain ⟨caz3, cbz3, rfl, haz3, hbz3⟩ := Holds.pair_cell hbz2
            obtain rfl := Holds.int_cell haz3
            obtain rfl := Holds.int_cell hbz3
            obtain ⟨caz4, cbz4, rfl, haz4, hbz4⟩ := Holds.pair_cell hbz1
            obtain ⟨caz5, cbz5, rfl, haz5, hbz5⟩ := Holds.pair_cell haz4
            obtain rfl := Holds.int_cell haz5
            obtain rfl := Holds.int_cell hbz5
            obtain ⟨caz6, cbz6, rfl, haz6, hbz6⟩ := Holds.pair_cell hbz4
            obtain ⟨Az5, capz5, rfl, hhz5⟩ := Holds.list_cell haz6
            obtain ⟨Az6, capz6, rfl, hhz6⟩ := Holds.list_cell hbz6
            have n0 := keep1 (show w.cell? ⟨bb, bo + j * 7, none⟩ = some (.int .i64 z0) from hds 0 _ rfl) HXi.out
            have n1 := keep1 (show w.cell? ⟨bb, bo + j * 7 + 1, none⟩ = some (.int .i64 z1) from hds 1 _ rfl) HXi.out
            have n2 := keep1 (show w.cell? ⟨bb, bo + j * 7 + 2, none⟩ = some (.int .i64 z2) from hds 2 _ rfl) HXi.out
            have n3 := keep1 (show w.cell? ⟨bb, bo + j * 7 + 3, none⟩ = some (.int .i64 z3) from hds 3 _ rfl) HXi.out
            have n4 := keep1 (show w.cell? ⟨bb, bo + j * 7 + 4, none⟩ = some (.int .i64 z4) from hds 4 _ rfl) HXi.out
            have n5 := keep1 (show w.cell? ⟨bb, bo + j * 7 + 5, none⟩ = some (.slice Az5 z5.length capz5) from hds 5 _ rfl) HXi.out
            have n6 := keep1 (show w.cell? ⟨bb, bo + j * 7 + 6, none⟩ = some (.slice Az6 z6.length capz6) from hds 6 _ rfl) HXi.out
            have hz5 : z5.length ≤ 9223372036854775807 := hzok.2.2.1.1
            have hz6 : z6.length ≤ 9223372036854775807 := hzok.2.2.2.1
            clear hz hokb hHz hds hzok hhz5 hhz6 haz1 haz2 hbz2 haz3 hbz3 hbz1 haz4 haz5 hbz5 hbz4 haz6 hbz6
            have c0 : (0 : Int) ≤ (j : Int) := by omega
            have c1 : (j : Int) < (L1 : Int) := by omega
            have hbw : Below wr.heap.size wr (wr.alloc (.cells #[.int .i64 z0, .int .i64 z1, .int .i64 z2, .int .i64 z3, .int .i64 z4, .slice Az5 z5.length capz5, .slice Az6 z6.length capz6] 52)) := (Below.refl _ _).alloc (Nat.le_refl _) _
            have hkk := blk_new wr (.cells #[.int .i64 z0, .int .i64 z1, .int .i64 z2, .int .i64 z3, .int .i64 z4, .slice Az5 z5.length capz5, .slice Az6 z6.length capz6] 52)
            obtain ⟨wc, hwc⟩ : ∃ wc, wr.alloc (.cells #[.int .i64 z0, .int .i64 z1, .int .i64 z2, .int .i64 z3, .int .i64 z4, .slice Az5 z5.length capz5, .slice Az6 z6.length capz6] 52) = wc := ⟨_, rfl⟩
            rw [hwc] at hbw hkk
            have x5 : wc.cell? ⟨wr.heap.size, 5, none⟩ = some (.slice Az5 z5.length capz5) := (blk_cell hkk 5).trans rfl
            have x6 : wc.cell? ⟨wr.heap.size, 6, none⟩ = some (.slice Az6 z6.length capz6) := (blk_cell hkk 6).trans rfl
            have HBc := Lib.hid (below_step HBi.out hbw)
            have HWC := Lib.hid hwc
            clear hbw hkk hwc
            go_upto_region 11 with fail
            rw [HWC.out]
            go_wp2_with fail
            · clear c0 c1 hz5 hz6 x5 x6 n0 n1 n2 n3 n4 n5 n6
              refine (awake_calls _).mono ?_
              rintro e w1 ⟨rfl, hb1⟩
              have hk0 := (HBc.out.block w.heap.size (by rw [HN.out]; omega)).trans HE.out
              have HK1 := Lib.hid ((hb1.block w.heap.size (blk_lt hk0)).trans hk0)
              have HB1 := Lib.hid (below_step (below_step HB0.out HBc.out) hb1)
              have HC1 := Lib.hid (HC.out.below HB1.out)
              clear hb1 hk0
              go_wp2_with ((with_reducible refine gate_load (t := 43) (p := .tmp 1) rfl ?_); refine wpList_load_whole (t := 43) rfl (.tmp 1) rfl (by rfl) Try.underlying43 (by kernel_rfl) HK1.out ?_)
              all_goals first
                | (refine (awake_calls _).mono ?_; rintro e w2 ⟨rfl, hb2⟩; have HB2 := Lib.hid hb2; clear hb2; go_wp2_with fail; go_ret; exact ⟨rfl, below_step HB1.out HB2.out⟩)
                | skip
              all_goals
                refine (Put_state X _ _ _ HC1.out HOK.out HL.out).mono ?_
                rintro e w2 ⟨rfl, hb2⟩
                rw [HS.out]
                have HK2 := Lib.hid ((hb2.block w.heap.size (blk_lt HK1.out)).trans HK1.out)
                have HB2 := Lib.hid (below_step HB1.out hb2)
                have HC2 := Lib.hid (HC1.out.below hb2)
                clear hb2
                go_wp2_with fail
                refine (Get_state S _ HSS.out).mono ?_
                rintro e w3 ⟨hb3, hr⟩
                rcases hr with ⟨x', cs', hx, rfl, hH⟩ | ⟨hx, rfl⟩
                · rw [HG.out] at hx
                  injection hx with hx
                  subst hx
                  have hl := hH.len
                  have h1 := all_one hH.one
                  obtain ⟨u0, u1, u2, u3, u4, rfl⟩ : ∃ u0 u1 u2 u3 u4, cs' = [u0, u1, u2, u3, u4] := by
                    match cs', hl with
                    | [u0, u1, u2, u3, u4], _ => exact ⟨u0, u1, u2, u3, u4, rfl⟩
                  have H1 := Lib.hid h1
                  have hb4 : Below w3.heap.size w3 (w3.alloc (.cells #[u0, u1, u2, u3, u4] 43)) := (Below.refl _ _).alloc (Nat.le_refl _) _
                  have HK4 := Lib.hid ((hb4.block w.heap.size (by have := hb3.size; have := blk_lt HK2.out; omega)).trans ((hb3.block w.heap.size (blk_lt HK2.out)).trans HK2.out))
                  have HU4 := Lib.hid (blk_new w3 (.cells #[u0, u1, u2, u3, u4] 43))
                  have HH4 := Lib.hid (hH.below hb4)
                  have HC4 := Lib.hid ((HC2.out.below hb3).below hb4)
                  have HB4 := Lib.hid (below_step (below_step HB2.out hb3) hb4)
                  have HN4 := Lib.hid (show (w3.alloc (.cells #[u0, u1, u2, u3, u4] 43)).heap.size = w3.heap.size + 1 by simp)
                  clear hb3 hb4 hH hl h1
                  go_wp2_with (first | ((with_reducible refine gate_store (t := 43) (p := .tmp 9) (x := .tmp 72) rfl ?_); refine wpList_store_new (t := 43) rfl (.tmp 9) (.tmp 72) rfl #[u0, u1, u2, u3, u4] (by rfl) (by rfl) (by kernel_rfl) rfl H1.out ?_) | ((with_reducible refine gate_load (t := 43) (p := .tmp 1) rfl ?_); refine wpList_load_whole (t := 43) rfl (.tmp 1) rfl (by rfl) Try.underlying43 (by kernel_rfl) HK4.out ?_))
                  refine (state_ref X _ _ _ HC4.out HOK.out HL.out).mono ?_
                  rintro e w5 ⟨rfl, hb5⟩
                  rw [HS.out]
                  have hk5 := (hb5.block w3.heap.size (by rw [HN4.out]; omega)).trans HU4.out
                  have x0 : w5.cell? ⟨w3.heap.size, 0, none⟩ = some u0 := (blk_cell hk5 0).trans rfl
                  have x1 : w5.cell? ⟨w3.heap.size, 1, none⟩ = some u1 := (blk_cell hk5 1).trans rfl
                  have x2 : w5.cell? ⟨w3.heap.size, 2, none⟩ = some u2 := (blk_cell hk5 2).trans rfl
                  have x3 : w5.cell? ⟨w3.heap.size, 3, none⟩ = some u3 := (blk_cell hk5 3).trans rfl
                  have x4 : w5.cell? ⟨w3.heap.size, 4, none⟩ = some u4 := (blk_cell hk5 4).trans rfl
                  have HH5 := Lib.hid (HH4.out.below hb5)
                  have HB5 := Lib.hid (below_step HB4.out hb5)
                  clear hb5 hk5
                  go_wp2_with fail
                  refine (state_ref X [u0, u1, u2, u3, u4] _ _ HH5.out HOK.out HL.out).mono ?_
                  rintro e w6 ⟨rfl, hb6⟩
                  rw [HS.out]
                  have HB6 := Lib.hid (below_step HB5.out hb6)
                  clear hb6
                  go_wp2_with fail
                  go_ret
                  exact ⟨rfl, HB6.out⟩
                · rw [HG.out] at hx
                  cases hx
            · refine ⟨⟨j + 1, _, by go_num, by omega, rfl, HBc.out⟩, by simp [intOf]; omega⟩
          · obtain rfl : j = L1 := by omega
            go_wp2_with fail
            refine (awake_calls _).mono ?_
            rintro e w1 ⟨rfl, hb1⟩
            have hk0 := (HBi.out.block w.heap.size (by rw [HN.out]; omega)).trans HE.out
            have HK1 := Lib.hid ((hb1.block w.heap.size (blk_lt hk0)).trans hk0)
            have HB1 := Lib.hid (below_step (below_step HB0.out HBi.out) hb1)
            have HC1 := Lib.hid (HC.out.below HB1.out)
            clear hb1 hk0
            go_wp2_with ((with_reducible refine gate_load (t := 43) (p := .tmp 1) rfl ?_); refine wpList_load_whole (t := 43) rfl (.tmp 1) rfl (by rfl) Try.underlying43 (by kernel_rfl) HK1.out ?_)
            all_goals first
              | (refine (awake_calls _).mono ?_; rintro e w2 ⟨rfl, hb2⟩; have HB2 := Lib.hid hb2; clear hb2; go_wp2_with fail; go_ret; exact ⟨rfl, below_step HB1.out HB2.out⟩)
              | skip
            all_goals
              refine (Put_state X _ _ _ HC1.out HOK.out HL.out).mono ?_
              rintro e w2 ⟨rfl, hb2⟩
              rw [HS.out]
              have HK2 := Lib.hid ((hb2.block w.heap.size (blk_lt HK1.out)).trans HK1.out)
              have HB2 := Lib.hid (below_step HB1.out hb2)
              have HC2 := Lib.hid (HC1.out.below hb2)
              clear hb2
              go_wp2_with fail
              refine (Get_state S _ HSS.out).mono ?_
              rintro e w3 ⟨hb3, hr⟩
              rcases hr with ⟨x', cs', hx, rfl, hH⟩ | ⟨hx, rfl⟩
              · rw [HG.out] at hx
                injection hx with hx
                subst hx
                have hl := hH.len
                have h1 := all_one hH.one
                obtain ⟨u0, u1, u2, u3, u4, rfl⟩ : ∃ u0 u1 u2 u3 u4, cs' = [u0, u1, u2, u3, u4] := by
                  match cs', hl with
                  | [u0, u1, u2, u3, u4], _ => exact ⟨u0, u1, u2, u3, u4, rfl⟩
                have H1 := Lib.hid h1
                have hb4 : Below w3.heap.size w3 (w3.alloc (.cells #[u0, u1, u2, u3, u4] 43)) := (Below.refl _ _).alloc (Nat.le_refl _) _
                have HK4 := Lib.hid ((hb4.block w.heap.size (by have := hb3.size; have := blk_lt HK2.out; omega)).trans ((hb3.block w.heap.size (blk_lt HK2.out)).trans HK2.out))
                have HU4 := Lib.hid (blk_new w3 (.cells #[u0, u1, u2, u3, u4] 43))
                have HH4 := Lib.hid (hH.below hb4)
                have HC4 := Lib.hid ((HC2.out.below hb3).below hb4)
                have HB4 := Lib.hid (below_step (below_step HB2.out hb3) hb4)
                have HN4 := Lib.hid (show (w3.alloc (.cells #[u0, u1, u2, u3, u4] 43)).heap.size = w3.heap.size + 1 by simp)
                clear hb3 hb4 hH hl h1
                go_wp2_with (first | ((with_reducible refine gate_store (t := 43) (p := .tmp 9) (x := .tmp 72) rfl ?_); refine wpList_store_new (t := 43) rfl (.tmp 9) (.tmp 72) rfl #[u0, u1, u2, u3, u4] (by rfl) (by rfl) (by kernel_rfl) rfl H1.out ?_) | ((with_reducible refine gate_load (t := 43) (p := .tmp 1) rfl ?_); refine wpList_load_whole (t := 43) rfl (.tmp 1) rfl (by rfl) Try.underlying43 (by kernel_rfl) HK4.out ?_))
                refine (state_ref X _ _ _ HC4.out HOK.out HL.out).mono ?_
                rintro e w5 ⟨rfl, hb5⟩
                rw [HS.out]
                have hk5 := (hb5.block w3.heap.size (by rw [HN4.out]; omega)).trans HU4.out
                have x0 : w5.cell? ⟨w3.heap.size, 0, none⟩ = some u0 := (blk_cell hk5 0).trans rfl
                have x1 : w5.cell? ⟨w3.heap.size, 1, none⟩ = some u1 := (blk_cell hk5 1).trans rfl
                have x2 : w5.cell? ⟨w3.heap.size, 2, none⟩ = some u2 := (blk_cell hk5 2).trans rfl
                have x3 : w5.cell? ⟨w3.heap.size, 3, none⟩ = some u3 := (blk_cell hk5 3).trans rfl
                have x4 : w5.cell? ⟨w3.heap.size, 4, none⟩ = some u4 := (blk_cell hk5 4).trans rfl
                have HH5 := Lib.hid (HH4.out.below hb5)
                have HB5 := Lib.hid (below_step HB4.out hb5)
                clear hb5 hk5
                go_wp2_with fail
                refine (state_ref X [u0, u1, u2, u3, u4] _ _ HH5.out HOK.out HL.out).mono ?_
                rintro e w6 ⟨rfl, hb6⟩
                rw [HS.out]
                have HB6 := Lib.hid (below_step HB5.out hb6)
                clear hb6
                go_wp2_with fail
                go_ret
                exact ⟨rfl, HB6.out⟩
              · rw [HG.out] at hx
                cases hx
      · refine ⟨⟨k + 1, _, by go_num, by omega, rfl, HBc.out⟩, by simp [intOf]; omega⟩
    · obtain rfl : k = L0 := by omega
      have p0 := keep1 Q0.out HB.out
      have p1 := keep1 Q1.out HB.out
      have p2 := keep1 Q2.out HB.out
      have p3 := keep1 Q3.out HB.out
      have p4 := keep1 Q4.out HB.out
      go_wp2_with fail
      go_loopw [3, 44] (fun v3 v44 wr => ∃ (j : Nat) (n : Int), v44 = .int .i64 (j : Int) ∧ j ≤ L1 ∧ v3 = .int .i64 n ∧ Below wb.heap.size wb wr) (fun _ v44 _ => L1 - (intOf v44).toNat)
      case atStart => exact ⟨0, _, rfl, by omega, rfl, HB.out⟩
      case round =>
        obtain ⟨j, m, rfl, hj, rfl, hbi⟩ := hrel
        have HBi := Lib.hid hbi
        have HXi := Lib.hid (below_step HB0.out hbi)
        clear hbi p0 p1 p2 p3 p4
        by_cases hlj : j < L1
        · obtain ⟨z, hz⟩ : ∃ z, y1[j]? = some z := ⟨_, List.getElem?_eq_getElem (by rw [HL1.out]; exact hlj)⟩
          obtain ⟨bb, bo, ds, rfl, hokb, hHz, hds⟩ := HR1.out.list_at hz
          have hzok := HK1.out _ (List.mem_of_getElem? hz)
          obtain ⟨z0, z1, z2, z3, z4, z5, z6, rfl⟩ : ∃ (z0 z1 z2 z3 z4 : Int) (z5 : List tSpan.T) (z6 : List tWrite.T), z = ((z0, (z1, z2)), ((z3, z4), (z5, z6))) := ⟨_, _, _, _, _, _, _, rfl⟩
          obtain ⟨caz1, cbz1, rfl, haz1, hbz1⟩ := Holds.pair_cell hHz
          obtain ⟨caz2, cbz2, rfl, haz2, hbz2⟩ := Holds.pair_cell haz1
          obtain rfl := Holds.int_cell haz2
          obtain ⟨caz3, cbz3, rfl, haz3, hbz3⟩ := Holds.pair_cell hbz2
          obtain rfl := Holds.int_cell haz3
          obtain rfl := Holds.int_cell hbz3
          obtain ⟨caz4, cbz4, rfl, haz4, hbz4⟩ := Holds.pair_cell hbz1
          obtain ⟨caz5, cbz5, rfl, haz5, hbz5⟩ := Holds.pair_cell haz4
          obtain rfl := Holds.int_cell haz5
          obtain rfl := Holds.int_cell hbz5
          obtain ⟨caz6, cbz6, rfl, haz6, hbz6⟩ := Holds.pair_cell hbz4
          obtain ⟨Az5, capz5, rfl, hhz5⟩ := Holds.list_cell haz6
          obtain ⟨Az6, capz6, rfl, hhz6⟩ := Holds.list_cell hbz6
          have n0 := keep1 (show w.cell? ⟨bb, bo + j * 7, none⟩ = some (.int .i64 z0) from hds 0 _ rfl) HXi.out
          have n1 := keep1 (show w.cell? ⟨bb, bo + j * 7 + 1, none⟩ = some (.int .i64 z1) from hds 1 _ rfl) HXi.out
          have n2 := keep1 (show w.cell? ⟨bb, bo + j * 7 + 2, none⟩ = some (.int .i64 z2) from hds 2 _ rfl) HXi.out
          have n3 := keep1 (show w.cell? ⟨bb, bo + j * 7 + 3, none⟩ = some (.int .i64 z3) from hds 3 _ rfl) HXi.out
          have n4 := keep1 (show w.cell? ⟨bb, bo + j * 7 + 4, none⟩ = some (.int .i64 z4) from hds 4 _ rfl) HXi.out
          have n5 := keep1 (show w.cell? ⟨bb, bo + j * 7 + 5, none⟩ = some (.slice Az5 z5.length capz5) from hds 5 _ rfl) HXi.out
          have n6 := keep1 (show w.cell? ⟨bb, bo + j * 7 + 6, none⟩ = some (.slice Az6 z6.length capz6) from hds 6 _ rfl) HXi.out
          have hz5 : z5.length ≤ 9223372036854775807 := hzok.2.2.1.1
          have hz6 : z6.length ≤ 9223372036854775807 := hzok.2.2.2.1
          clear hz hokb hHz hds hzok hhz5 hhz6 haz1 haz2 hbz2 haz3 hbz3 hbz1 haz4 haz5 hbz5 hbz4 haz6 hbz6
          have c0 : (0 : Int) ≤ (j : Int) := by omega
          have c1 : (j : Int) < (L1 : Int) := by omega
          have hbw : Below wr.heap.size wr (wr.alloc (.cells #[.int .i64 z0, .int .i64 z1, .int .i64 z2, .int .i64 z3, .int .i64 z4, .slice Az5 z5.length capz5, .slice Az6 z6.length capz6] 52)) := (Below.refl _ _).alloc (Nat.le_refl _) _
          have hkk := blk_new wr (.cells #[.int .i64 z0, .int .i64 z1, .int .i64 z2, .int .i64 z3, .int .i64 z4, .slice Az5 z5.length capz5, .slice Az6 z6.length capz6] 52)
          obtain ⟨wc, hwc⟩ : ∃ wc, wr.alloc (.cells #[.int .i64 z0, .int .i64 z1, .int .i64 z2, .int .i64 z3, .int .i64 z4, .slice Az5 z5.length capz5, .slice Az6 z6.length capz6] 52) = wc := ⟨_, rfl⟩
          rw [hwc] at hbw hkk
          have x5 : wc.cell? ⟨wr.heap.size, 5, none⟩ = some (.slice Az5 z5.length capz5) := (blk_cell hkk 5).trans rfl
          have x6 : wc.cell? ⟨wr.heap.size, 6, none⟩ = some (.slice Az6 z6.length capz6) := (blk_cell hkk 6).trans rfl
          have HBc := Lib.hid (below_step HBi.out hbw)
          have HWC := Lib.hid hwc
          clear hbw hkk hwc
          go_upto_region 11 with fail
          rw [HWC.out]
          go_wp2_with fail
          · clear c0 c1 hz5 hz6 x5 x6 n0 n1 n2 n3 n4 n5 n6
            refine (awake_calls _).mono ?_
            rintro e w1 ⟨rfl, hb1⟩
            have hk0 := (HBc.out.block w.heap.size (by rw [HN.out]; omega)).trans HE.out
            have HK1 := Lib.hid ((hb1.block w.heap.size (blk_lt hk0)).trans hk0)
            have HB1 := Lib.hid (below_step (below_step HB0.out HBc.out) hb1)
            have HC1 := Lib.hid (HC.out.below HB1.out)
            clear hb1 hk0
            go_wp2_with ((with_reducible refine gate_load (t := 43) (p := .tmp 1) rfl ?_); refine wpList_load_whole (t := 43) rfl (.tmp 1) rfl (by rfl) Try.underlying43 (by kernel_rfl) HK1.out ?_)
            all_goals first
              | (refine (awake_calls _).mono ?_; rintro e w2 ⟨rfl, hb2⟩; have HB2 := Lib.hid hb2; clear hb2; go_wp2_with fail; go_ret; exact ⟨rfl, below_step HB1.out HB2.out⟩)
              | skip
            all_goals
              refine (Put_state X _ _ _ HC1.out HOK.out HL.out).mono ?_
              rintro e w2 ⟨rfl, hb2⟩
              rw [HS.out]
              have HK2 := Lib.hid ((hb2.block w.heap.size (blk_lt HK1.out)).trans HK1.out)
              have HB2 := Lib.hid (below_step HB1.out hb2)
              have HC2 := Lib.hid (HC1.out.below hb2)
              clear hb2
              go_wp2_with fail
              refine (Get_state S _ HSS.out).mono ?_
              rintro e w3 ⟨hb3, hr⟩
              rcases hr with ⟨x', cs', hx, rfl, hH⟩ | ⟨hx, rfl⟩
              · rw [HG.out] at hx
                injection hx with hx
                subst hx
                have hl := hH.len
                have h1 := all_one hH.one
                obtain ⟨u0, u1, u2, u3, u4, rfl⟩ : ∃ u0 u1 u2 u3 u4, cs' = [u0, u1, u2, u3, u4] := by
                  match cs', hl with
                  | [u0, u1, u2, u3, u4], _ => exact ⟨u0, u1, u2, u3, u4, rfl⟩
                have H1 := Lib.hid h1
                have hb4 : Below w3.heap.size w3 (w3.alloc (.cells #[u0, u1, u2, u3, u4] 43)) := (Below.refl _ _).alloc (Nat.le_refl _) _
                have HK4 := Lib.hid ((hb4.block w.heap.size (by have := hb3.size; have := blk_lt HK2.out; omega)).trans ((hb3.block w.heap.size (blk_lt HK2.out)).trans HK2.out))
                have HU4 := Lib.hid (blk_new w3 (.cells #[u0, u1, u2, u3, u4] 43))
                have HH4 := Lib.hid (hH.below hb4)
                have HC4 := Lib.hid ((HC2.out.below hb3).below hb4)
                have HB4 := Lib.hid (below_step (below_step HB2.out hb3) hb4)
                have HN4 := Lib.hid (show (w3.alloc (.cells #[u0, u1, u2, u3, u4] 43)).heap.size = w3.heap.size + 1 by simp)
                clear hb3 hb4 hH hl h1
                go_wp2_with (first | ((with_reducible refine gate_store (t := 43) (p := .tmp 9) (x := .tmp 72) rfl ?_); refine wpList_store_new (t := 43) rfl (.tmp 9) (.tmp 72) rfl #[u0, u1, u2, u3, u4] (by rfl) (by rfl) (by kernel_rfl) rfl H1.out ?_) | ((with_reducible refine gate_load (t := 43) (p := .tmp 1) rfl ?_); refine wpList_load_whole (t := 43) rfl (.tmp 1) rfl (by rfl) Try.underlying43 (by kernel_rfl) HK4.out ?_))
                refine (state_ref X _ _ _ HC4.out HOK.out HL.out).mono ?_
                rintro e w5 ⟨rfl, hb5⟩
                rw [HS.out]
                have hk5 := (hb5.block w3.heap.size (by rw [HN4.out]; omega)).trans HU4.out
                have x0 : w5.cell? ⟨w3.heap.size, 0, none⟩ = some u0 := (blk_cell hk5 0).trans rfl
                have x1 : w5.cell? ⟨w3.heap.size, 1, none⟩ = some u1 := (blk_cell hk5 1).trans rfl
                have x2 : w5.cell? ⟨w3.heap.size, 2, none⟩ = some u2 := (blk_cell hk5 2).trans rfl
                have x3 : w5.cell? ⟨w3.heap.size, 3, none⟩ = some u3 := (blk_cell hk5 3).trans rfl
                have x4 : w5.cell? ⟨w3.heap.size, 4, none⟩ = some u4 := (blk_cell hk5 4).trans rfl
                have HH5 := Lib.hid (HH4.out.below hb5)
                have HB5 := Lib.hid (below_step HB4.out hb5)
                clear hb5 hk5
                go_wp2_with fail
                refine (state_ref X [u0, u1, u2, u3, u4] _ _ HH5.out HOK.out HL.out).mono ?_
                rintro e w6 ⟨rfl, hb6⟩
                rw [HS.out]
                have HB6 := Lib.hid (below_step HB5.out hb6)
                clear hb6
                go_wp2_with fail
                go_ret
                exact ⟨rfl, HB6.out⟩
              · rw [HG.out] at hx
                cases hx
          · refine ⟨⟨j + 1, _, by go_num, by omega, rfl, HBc.out⟩, by simp [intOf]; omega⟩
        · obtain rfl : j = L1 := by omega
          go_wp2_with fail
          refine (awake_calls _).mono ?_
          rintro e w1 ⟨rfl, hb1⟩
          have hk0 := (HBi.out.block w.heap.size (by rw [HN.out]; omega)).trans HE.out
          have HK1 := Lib.hid ((hb1.block w.heap.size (blk_lt hk0)).trans hk0)
          have HB1 := Lib.hid (below_step (below_step HB0.out HBi.out) hb1)
          have HC1 := Lib.hid (HC.out.below HB1.out)
          clear hb1 hk0
          go_wp2_with ((with_reducible refine gate_load (t := 43) (p := .tmp 1) rfl ?_); refine wpList_load_whole (t := 43) rfl (.tmp 1) rfl (by rfl) Try.underlying43 (by kernel_rfl) HK1.out ?_)
          all_goals first
            | (refine (awake_calls _).mono ?_; rintro e w2 ⟨rfl, hb2⟩; have HB2 := Lib.hid hb2; clear hb2; go_wp2_with fail; go_ret; exact ⟨rfl, below_step HB1.out HB2.out⟩)
            | skip
          all_goals
            refine (Put_state X _ _ _ HC1.out HOK.out HL.out).mono ?_
            rintro e w2 ⟨rfl, hb2⟩
            rw [HS.out]
            have HK2 := Lib.hid ((hb2.block w.heap.size (blk_lt HK1.out)).trans HK1.out)
            have HB2 := Lib.hid (below_step HB1.out hb2)
            have HC2 := Lib.hid (HC1.out.below hb2)
            clear hb2
            go_wp2_with fail
            refine (Get_state S _ HSS.out).mono ?_
            rintro e w3 ⟨hb3, hr⟩
            rcases hr with ⟨x', cs', hx, rfl, hH⟩ | ⟨hx, rfl⟩
            · rw [HG.out] at hx
              injection hx with hx
              subst hx
              have hl := hH.len
              have h1 := all_one hH.one
              obtain ⟨u0, u1, u2, u3, u4, rfl⟩ : ∃ u0 u1 u2 u3 u4, cs' = [u0, u1, u2, u3, u4] := by
                match cs', hl with
                | [u0, u1, u2, u3, u4], _ => exact ⟨u0, u1, u2, u3, u4, rfl⟩
              have H1 := Lib.hid h1
              have hb4 : Below w3.heap.size w3 (w3.alloc (.cells #[u0, u1, u2, u3, u4] 43)) := (Below.refl _ _).alloc (Nat.le_refl _) _
              have HK4 := Lib.hid ((hb4.block w.heap.size (by have := hb3.size; have := blk_lt HK2.out; omega)).trans ((hb3.block w.heap.size (blk_lt HK2.out)).trans HK2.out))
              have HU4 := Lib.hid (blk_new w3 (.cells #[u0, u1, u2, u3, u4] 43))
              have HH4 := Lib.hid (hH.below hb4)
              have HC4 := Lib.hid ((HC2.out.below hb3).below hb4)
              have HB4 := Lib.hid (below_step (below_step HB2.out hb3) hb4)
              have HN4 := Lib.hid (show (w3.alloc (.cells #[u0, u1, u2, u3, u4] 43)).heap.size = w3.heap.size + 1 by simp)
              clear hb3 hb4 hH hl h1
              go_wp2_with (first | ((with_reducible refine gate_store (t := 43) (p := .tmp 9) (x := .tmp 72) rfl ?_); refine wpList_store_new (t := 43) rfl (.tmp 9) (.tmp 72) rfl #[u0, u1, u2, u3, u4] (by rfl) (by rfl) (by kernel_rfl) rfl H1.out ?_) | ((with_reducible refine gate_load (t := 43) (p := .tmp 1) rfl ?_); refine wpList_load_whole (t := 43) rfl (.tmp 1) rfl (by rfl) Try.underlying43 (by kernel_rfl) HK4.out ?_))
              refine (state_ref X _ _ _ HC4.out HOK.out HL.out).mono ?_
              rintro e w5 ⟨rfl, hb5⟩
              rw [HS.out]
              have hk5 := (hb5.block w3.heap.size (by rw [HN4.out]; omega)).trans HU4.out
              have x0 : w5.cell? ⟨w3.heap.size, 0, none⟩ = some u0 := (blk_cell hk5 0).trans rfl
              have x1 : w5.cell? ⟨w3.heap.size, 1, none⟩ = some u1 := (blk_cell hk5 1).trans rfl
              have x2 : w5.cell? ⟨w3.heap.size, 2, none⟩ = some u2 := (blk_cell hk5 2).trans rfl
              have x3 : w5.cell? ⟨w3.heap.size, 3, none⟩ = some u3 := (blk_cell hk5 3).trans rfl
              have x4 : w5.cell? ⟨w3.heap.size, 4, none⟩ = some u4 := (blk_cell hk5 4).trans rfl
              have HH5 := Lib.hid (HH4.out.below hb5)
              have HB5 := Lib.hid (below_step HB4.out hb5)
              clear hb5 hk5
              go_wp2_with fail
              refine (state_ref X [u0, u1, u2, u3, u4] _ _ HH5.out HOK.out HL.out).mono ?_
              rintro e w6 ⟨rfl, hb6⟩
              rw [HS.out]
              have HB6 := Lib.hid (below_step HB5.out hb6)
              clear hb6
              go_wp2_with fail
              go_ret
              exact ⟨rfl, HB6.out⟩
            · rw [HG.out] at hx
              cases hx
theorem wireRanges_walk (x : tState.T) (cs : List Value) (w : World) (hH : Holds w (fun _ => True) tState x cs) (hok : tState.cod.ok x) (hlen : (tState.cod.enc x).length ≤ 68719476736) :
    Calls Try.prog 6 #[.agg cs.toArray] w fun e w' => e = .returned (.bool true) ∧ Below w.heap.size w w' := by
  obtain ⟨y0, ⟨y1, ⟨y2, ⟨y3, y4⟩⟩⟩⟩ := x
  exact wireRanges_walkL y0 y1 y2 y3 y4 cs w hH hok hlen
end Go.Proofs.Ytlcgkcmicklihaa.Wire
