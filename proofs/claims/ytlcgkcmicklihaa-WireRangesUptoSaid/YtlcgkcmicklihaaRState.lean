/- The reference of a shard's state. -/
import Derived.Test.YtlcgkcmicklihaaRVal
import Derived.Test.YtlcgkcmicklihaaID
import Derived.Test.YtlcgkcmicklihaaIG
import Derived.Test.YtlcgkcmicklihaaHState
namespace Go.Proofs.Ytlcgkcmicklihaa.Wire
set_option linter.unusedVariables false
set_option linter.unusedSimpArgs false
open Go.RowKit Go.Proofs.YtlcgkcmicklihaaW.PrintWords Go.Proofs.YtlcgkcmicklihaaW.PrintLast Go.Proofs.YtlcgkcmicklihaaW.PrintMore
set_option maxRecDepth 100000 in
set_option maxHeartbeats 16000000 in
theorem rows_all : ListRef 39 tRow := by
  intro l A cap ok w hH hok hlen
  obtain ⟨L, hL⟩ : ∃ L, l.length = L := ⟨_, rfl⟩
  have hl : l.length ≤ top := hok.1
  have hL2 : L ≤ 9223372036854775807 := by rw [← hL]; exact hl
  have he : (Ty.list tRow).cod.enc l = num (L : Int) ++ encs tRow.cod l := by rw [← hL]; rfl
  have HH := Lib.hid hH
  have HOK := Lib.hid hok
  have HLEN := Lib.hid hlen
  have HE := Lib.hid he
  rw [hL]
  have HL := Lib.hid hL
  clear hL hH hok hlen he hl
  go_enter Try.func39, Try.ntmps39
  go_wp2_with fail
  refine (num_ref (L : Int) _ ⟨by omega, by omega⟩).mono ?_
  rintro e w1 ⟨rfl, hb0⟩
  have HB0 := Lib.hid hb0
  clear hb0
  go_wp2_with fail
  go_loopw [3, 4] (fun v3 v4 wr => ∃ k : Nat, v4 = .int .i64 (k : Int) ∧ k ≤ L ∧ v3 = .string (mkb (num (L : Int) ++ encs tRow.cod (l.take k))) ∧ Below w.heap.size w wr) (fun _ v4 _ => L - (intOf v4).toNat)
  case atStart => exact ⟨0, rfl, by omega, by simp [encs], HB0.out⟩
  case round =>
    obtain ⟨k, rfl, hk, rfl, hb⟩ := hrel
    have HB := Lib.hid hb
    clear hb
    by_cases hlt : k < L
    · obtain ⟨y, hy⟩ : ∃ y, l[k]? = some y := ⟨_, List.getElem?_eq_getElem (by rw [HL.out]; exact hlt)⟩
      obtain ⟨ab, ao, cs, rfl, hoka, hHy, hcs⟩ := HH.out.list_at hy
      obtain ⟨hyok, hsz1⟩ := entry_fits HOK.out HLEN.out hy
      obtain ⟨y0, y1, rfl⟩ : ∃ (y0 : ByteArray) (y1 : List tVersion.T), y = (y0, y1) := by
        obtain ⟨y0, y1⟩ := y
        exact ⟨_, _, rfl⟩
      obtain ⟨ca1, cb1, rfl, ha1, hb1⟩ := Holds.pair_cell hHy
      obtain rfl := Holds.str_cell ha1
      obtain ⟨A1, cap1, rfl, hh1⟩ := Holds.list_cell hb1
      obtain ⟨LI, hLI⟩ : ∃ LI, y1.length = LI := ⟨_, rfl⟩
      have m0 : w.cell? ⟨ab, ao + k * 2, none⟩ = some (.string y0) := hcs 0 _ rfl
      have m1 : w.cell? ⟨ab, ao + k * 2 + 1, none⟩ = some (.slice A1 y1.length cap1) := hcs 1 _ rfl
      rw [hLI] at m1 hh1
      have q0 := keep1 m0 HB.out
      have q1 := keep1 m1 HB.out
      have hli1 : y1.length ≤ 9223372036854775807 := hyok.2.1
      rw [hLI] at hli1
      obtain ⟨Pp, hPp⟩ : ∃ P, num (L : Int) ++ encs tRow.cod (l.take k) = P := ⟨_, rfl⟩
      rw [HL.out, hPp] at hsz1
      rw [hPp]
      have hEE : Pp ++ tRow.cod.enc (y0, y1) = Pp ++ (cStr.enc y0) ++ (num (LI : Int)) ++ encs tVersion.cod y1 := by
        have h1 : tRow.cod.enc (y0, y1) = (cStr.enc y0 ++ (Ty.list tVersion).cod.enc y1) := rfl
        have h2 : (Ty.list tVersion).cod.enc y1 = num (y1.length : Int) ++ encs tVersion.cod y1 := rfl
        rw [h1, h2, hLI]
        simp only [List.append_assoc, List.flatMap_cons, List.flatMap_nil, List.append_nil]
      have htot : (Pp ++ (cStr.enc y0) ++ (num (LI : Int)) ++ encs tVersion.cod y1).length ≤ 68719476736 := by rw [← hEE, List.length_append]; exact hsz1
      obtain ⟨Ra0, hRa0⟩ : ∃ R, cStr.enc y0 = R := ⟨_, rfl⟩
      obtain ⟨Ra1, hRa1⟩ : ∃ R, num (LI : Int) = R := ⟨_, rfl⟩
      obtain ⟨Pa0, hPa0⟩ : ∃ P, Pp ++ Ra0 = P := ⟨_, rfl⟩
      obtain ⟨Pa1, hPa1⟩ : ∃ P, Pa0 ++ Ra1 = P := ⟨_, rfl⟩
      have hEa : Pa1 = Pp ++ (cStr.enc y0) ++ (num (LI : Int)) := by rw [← hPa1, ← hPa0, ← hRa0, ← hRa1]
      have hla2 : Pa1.length ≤ 68719476736 := by rw [hEa]; rw [List.length_append] at htot; omega
      have hla1 : Pa0.length + Ra1.length ≤ 68719476736 := by rw [← List.length_append, hPa1]; exact hla2
      have hla0 : Pp.length + Ra0.length ≤ 68719476736 := by rw [← List.length_append, hPa0]; omega
      have hsa0 : y0.size ≤ 281474976710656 := str_size hRa0 (by omega)
      have HFa1 := Lib.hid (show Fits (LI : Int) from ⟨by omega, by omega⟩)
      have saa0 : ¬ 9223372036854775807 < (mkb Pp).size + (mkb Ra0).size := by simp only [mkb_size]; omega
      have sca0 : mkb Pp ++ mkb Ra0 = mkb Pa0 := by rw [mkb_append, hPa0]
      have saa1 : ¬ 9223372036854775807 < (mkb Pa0).size + (mkb Ra1).size := by simp only [mkb_size]; omega
      have sca1 : mkb Pa0 ++ mkb Ra1 = mkb Pa1 := by rw [mkb_append, hPa1]
      have HRa0 := Lib.hid hRa0
      have HRa1 := Lib.hid hRa1
      have HEa := Lib.hid hEa
      clear hEa hRa0 hPa0 hRa1 hPa1
      have hTT : (Pa1 ++ encs tVersion.cod y1).length ≤ 68719476736 := by rw [HEa.out]; exact htot
      have hPE : Pp ++ tRow.cod.enc (y0, y1) = Pa1 ++ encs tVersion.cod y1 := by rw [HEa.out]; exact hEE
      have hab : ab < wr.heap.size := World.block_lt_of_cell? wr _ q0
      have HY := Lib.hid hy
      have HPE := Lib.hid hPE
      have HPp := Lib.hid hPp
      have HTT := Lib.hid hTT
      have HLI := Lib.hid hLI
      have HI := Lib.hid hh1
      have HIOK := Lib.hid hyok.2
      have M0 := Lib.hid m0
      have M1 := Lib.hid m1
      clear hcs hy hsz1 hyok hEE htot hTT hPE hPp hoka hLI hh1 m0 m1 ha1 hb1
      have b0 : (0 : Int) ≤ (k : Int) := by omega
      have b1 : (k : Int) < (L : Int) := by omega
      go_wp2_with fail
      have hBa0 : Below wr.heap.size wr wr := Below.refl _ _
      have KKa : Hid (∀ w', Below wr.heap.size wr w' → (Below wr.heap.size wr w' ∧ w'.cell? ⟨ab, ao + k * 2, none⟩ = some (.string y0) ∧ w'.cell? ⟨ab, ao + k * 2 + 1, none⟩ = some (.slice A1 LI cap1))) := Lib.hid (fun w' hX => ⟨hX, keep1 q0 hX, keep1 q1 hX⟩)
      go_region_held3 (fun w' => Below wr.heap.size wr w' ∧ w'.cell? ⟨ab, ao + k * 2, none⟩ = some (.string y0) ∧ w'.cell? ⟨ab, ao + k * 2 + 1, none⟩ = some (.slice A1 LI cap1))
        (first | ((with_reducible refine KKa.out _ ?_); (repeat (first | with_reducible refine bel_drew ?_ | with_reducible refine bel_alloc ?_)); first | with_reducible exact hBa2 | with_reducible exact hBa1 | with_reducible exact hBa0))
        (first | (go_at_call 41; have hp := hBa1; refine (num_ref' (LI : Int) Ra1 HRa1.out _ HFa1.out).mono ?_; rintro e va2 ⟨rfl, hra2⟩; have hBa2 : Below wr.heap.size wr va2 := below_step (by (repeat (first | with_reducible refine bel_drew ?_ | with_reducible refine bel_alloc ?_)); with_reducible exact hp) hra2) | (go_at_call 32; have hp := hBa0; refine (text_ref' y0 Ra0 HRa0.out _ hsa0).mono ?_; rintro e va1 ⟨rfl, hra1⟩; have hBa1 : Below wr.heap.size wr va1 := below_step (by (repeat (first | with_reducible refine bel_drew ?_ | with_reducible refine bel_alloc ?_)); with_reducible exact hp) hra1))
      all_goals
        have HBa := Lib.hid (below_step HB.out hBa2)
        go_wp2_with fail
        go_loopw [3, 5] (fun v3 v5 wi => ∃ j : Nat, v5 = .int .i64 (j : Int) ∧ j ≤ LI ∧ v3 = .string (mkb (Pa1 ++ encs tVersion.cod (y1.take j))) ∧ Below w.heap.size w wi) (fun _ v5 _ => LI - (intOf v5).toNat)
        case atStart => exact ⟨0, rfl, by omega, by simp [encs], HBa.out⟩
        case round =>
          obtain ⟨j, rfl, hj, rfl, hbi⟩ := hrel
          have HBi := Lib.hid hbi
          have p0 := keep1 M0.out hbi
          have p1 := keep1 M1.out hbi
          clear hbi
          by_cases hlj : j < LI
          · obtain ⟨z, hz⟩ : ∃ z, y1[j]? = some z := ⟨_, List.getElem?_eq_getElem (by rw [HLI.out]; exact hlj)⟩
            obtain ⟨bb, bo, ds, rfl, hokb, hHz, hds⟩ := HI.out.list_at hz
            have hzok := HIOK.out.2 _ (List.mem_of_getElem? hz)
            have hsz2 := encs_take_le tVersion.cod y1 (j + 1)
            rw [encs_snoc _ y1 j z hz] at hsz2
            obtain ⟨z0, z1, z2, rfl⟩ : ∃ (z0 : Int) (z1 : ByteArray) (z2 : Bool), z = (z0, (z1, z2)) := by
              obtain ⟨z0, ⟨z1, z2⟩⟩ := z
              exact ⟨_, _, _, rfl⟩
            obtain ⟨caz1, cbz1, rfl, haz1, hbz1⟩ := Holds.pair_cell hHz
            obtain rfl := Holds.int_cell haz1
            obtain ⟨caz2, cbz2, rfl, haz2, hbz2⟩ := Holds.pair_cell hbz1
            obtain rfl := Holds.str_cell haz2
            obtain rfl := Holds.bool_cell hbz2
            have n0 := keep1 (show w.cell? ⟨bb, bo + j * 3, none⟩ = some (.int .i64 z0) from hds 0 _ rfl) HBi.out
            have n1 := keep1 (show w.cell? ⟨bb, bo + j * 3 + 1, none⟩ = some (.string z1) from hds 1 _ rfl) HBi.out
            have n2 := keep1 (show w.cell? ⟨bb, bo + j * 3 + 2, none⟩ = some (.bool z2) from hds 2 _ rfl) HBi.out
            obtain ⟨Pq, hPq⟩ : ∃ P, Pa1 ++ encs tVersion.cod (y1.take j) = P := ⟨_, rfl⟩
            rw [hPq]
            have hEE : Pq ++ tVersion.cod.enc (z0, (z1, z2)) = Pq ++ (num z0) ++ (cStr.enc z1) ++ (cFlag.enc z2) := by
              have h1 : tVersion.cod.enc (z0, (z1, z2)) = (num z0 ++ (cStr.enc z1 ++ cFlag.enc z2)) := rfl
              rw [h1]
              simp only [List.append_assoc, List.flatMap_cons, List.flatMap_nil, List.append_nil]
            have htot : (Pq ++ (num z0) ++ (cStr.enc z1) ++ (cFlag.enc z2)).length ≤ 68719476736 := by
              rw [← hEE, ← hPq]
              have h3 := HTT.out
              have h4 : (encs tVersion.cod (y1.take j) ++ tVersion.cod.enc (z0, (z1, z2))).length ≤ (encs tVersion.cod y1).length := hsz2
              simp only [List.length_append] at h3 h4 ⊢
              omega
            obtain ⟨Rb0, hRb0⟩ : ∃ R, num z0 = R := ⟨_, rfl⟩
            obtain ⟨Rb1, hRb1⟩ : ∃ R, cStr.enc z1 = R := ⟨_, rfl⟩
            obtain ⟨Rb2, hRb2⟩ : ∃ R, cFlag.enc z2 = R := ⟨_, rfl⟩
            obtain ⟨Pb0, hPb0⟩ : ∃ P, Pq ++ Rb0 = P := ⟨_, rfl⟩
            obtain ⟨Pb1, hPb1⟩ : ∃ P, Pb0 ++ Rb1 = P := ⟨_, rfl⟩
            obtain ⟨Pb2, hPb2⟩ : ∃ P, Pb1 ++ Rb2 = P := ⟨_, rfl⟩
            have hEb : Pb2 = Pq ++ (num z0) ++ (cStr.enc z1) ++ (cFlag.enc z2) := by rw [← hPb2, ← hPb1, ← hPb0, ← hRb0, ← hRb1, ← hRb2]
            have hlb3 : Pb2.length ≤ 68719476736 := by rw [hEb]; exact htot
            have hlb2 : Pb1.length + Rb2.length ≤ 68719476736 := by rw [← List.length_append, hPb2]; exact hlb3
            have hlb1 : Pb0.length + Rb1.length ≤ 68719476736 := by rw [← List.length_append, hPb1]; omega
            have hlb0 : Pq.length + Rb0.length ≤ 68719476736 := by rw [← List.length_append, hPb0]; omega
            have HFb0 := Lib.hid (show Fits z0 from hzok.1)
            have hsb1 : z1.size ≤ 281474976710656 := str_size hRb1 (by omega)
            have sab0 : ¬ 9223372036854775807 < (mkb Pq).size + (mkb Rb0).size := by simp only [mkb_size]; omega
            have scb0 : mkb Pq ++ mkb Rb0 = mkb Pb0 := by rw [mkb_append, hPb0]
            have sab1 : ¬ 9223372036854775807 < (mkb Pb0).size + (mkb Rb1).size := by simp only [mkb_size]; omega
            have scb1 : mkb Pb0 ++ mkb Rb1 = mkb Pb1 := by rw [mkb_append, hPb1]
            have sab2 : ¬ 9223372036854775807 < (mkb Pb1).size + (mkb Rb2).size := by simp only [mkb_size]; omega
            have scb2 : mkb Pb1 ++ mkb Rb2 = mkb Pb2 := by rw [mkb_append, hPb2]
            have HRb0 := Lib.hid hRb0
            have HRb1 := Lib.hid hRb1
            have HRb2 := Lib.hid hRb2
            have HEb := Lib.hid hEb
            clear hEb hRb0 hPb0 hRb1 hPb1 hRb2 hPb2
            have hPE : Pq ++ tVersion.cod.enc (z0, (z1, z2)) = Pb2 := by rw [HEb.out]; exact hEE
            have hbb : bb < wr.heap.size := World.block_lt_of_cell? wr _ n0
            have HZ := Lib.hid hz
            have HPEz := Lib.hid hPE
            have HPq := Lib.hid hPq
            clear hds hz hsz2 hzok hEE htot hPE hPq hokb haz1 hbz1 haz2 hbz2
            have c0 : (0 : Int) ≤ (j : Int) := by omega
            have c1 : (j : Int) < (LI : Int) := by omega
            have hbw : Below wr.heap.size wr (wr.alloc (.cells #[.int .i64 z0, .string z1, .bool z2] 166)) := (Below.refl _ _).alloc (Nat.le_refl _) _
            have hkk := blk_new wr (.cells #[.int .i64 z0, .string z1, .bool z2] 166)
            obtain ⟨wb, hwb⟩ : ∃ wb, wr.alloc (.cells #[.int .i64 z0, .string z1, .bool z2] 166) = wb := ⟨_, rfl⟩
            rw [hwb] at hbw hkk
            have x0 : wb.cell? ⟨wr.heap.size, 0, none⟩ = some (.int .i64 z0) := (blk_cell hkk 0).trans rfl
            have x1 : wb.cell? ⟨wr.heap.size, 1, none⟩ = some (.string z1) := (blk_cell hkk 1).trans rfl
            have x2 : wb.cell? ⟨wr.heap.size, 2, none⟩ = some (.bool z2) := (blk_cell hkk 2).trans rfl
            have hnb : wr.heap.size < wb.heap.size := blk_lt hkk
            have HBw := Lib.hid (below_step HBi.out hbw)
            have HWB := Lib.hid hwb
            clear hbw hkk hwb
            go_upto_region 10 with fail
            rw [HWB.out]
            have hBb0 : Below wb.heap.size wb wb := Below.refl _ _
            have KKb : Hid (∀ w', Below wb.heap.size wb w' → (Below wb.heap.size wb w' ∧ w'.cell? ⟨wr.heap.size, 0, none⟩ = some (.int .i64 z0) ∧ w'.cell? ⟨wr.heap.size, 1, none⟩ = some (.string z1) ∧ w'.cell? ⟨wr.heap.size, 2, none⟩ = some (.bool z2))) := Lib.hid (fun w' hX => ⟨hX, keep1 x0 hX, keep1 x1 hX, keep1 x2 hX⟩)
            go_region_held3 (fun w' => Below wb.heap.size wb w' ∧ w'.cell? ⟨wr.heap.size, 0, none⟩ = some (.int .i64 z0) ∧ w'.cell? ⟨wr.heap.size, 1, none⟩ = some (.string z1) ∧ w'.cell? ⟨wr.heap.size, 2, none⟩ = some (.bool z2))
              (first | ((with_reducible refine KKb.out _ ?_); (repeat (first | with_reducible refine bel_drew ?_ | with_reducible refine bel_alloc ?_)); first | with_reducible exact hBb3 | with_reducible exact hBb2 | with_reducible exact hBb1 | with_reducible exact hBb0))
              (first | (go_at_call 30; have hp := hBb2; refine (flag_ref' z2 Rb2 HRb2.out _).mono ?_; rintro e vb3 ⟨rfl, hrb3⟩; have hBb3 : Below wb.heap.size wb vb3 := below_step (by (repeat (first | with_reducible refine bel_drew ?_ | with_reducible refine bel_alloc ?_)); with_reducible exact hp) hrb3) | (go_at_call 32; have hp := hBb1; refine (text_ref' z1 Rb1 HRb1.out _ hsb1).mono ?_; rintro e vb2 ⟨rfl, hrb2⟩; have hBb2 : Below wb.heap.size wb vb2 := below_step (by (repeat (first | with_reducible refine bel_drew ?_ | with_reducible refine bel_alloc ?_)); with_reducible exact hp) hrb2) | (go_at_call 41; have hp := hBb0; refine (num_ref' z0 Rb0 HRb0.out _ HFb0.out).mono ?_; rintro e vb1 ⟨rfl, hrb1⟩; have hBb1 : Below wb.heap.size wb vb1 := below_step (by (repeat (first | with_reducible refine bel_drew ?_ | with_reducible refine bel_alloc ?_)); with_reducible exact hp) hrb1))
            all_goals
              go_wp2_with fail
              go_roundw
              case rel =>
                refine ⟨j + 1, by go_num, by omega, ?_, below_step HBw.out hBb3⟩
                rw [encs_snoc _ y1 j _ HZ.out, ← List.append_assoc, HPq.out]
                exact congrArg (fun l => Value.string (mkb l)) HPEz.out.symm
              case measure => simp [intOf]; omega
          · obtain rfl : j = LI := by omega
            go_wp2_with fail
            go_roundw
            case rel =>
              refine ⟨k + 1, by go_num, by omega, ?_, HBi.out⟩
              rw [encs_snoc _ l k _ HY.out, ← List.append_assoc, HPp.out, ← HLI.out, List.take_length]
              exact congrArg (fun l => Value.string (mkb l)) HPE.out.symm
            case measure => simp [intOf]; omega
    · obtain rfl : k = L := by omega
      go_wp2_with fail
      go_ret
      refine ⟨?_, HB.out⟩
      rw [HE.out, ← HL.out, List.take_length]
      rfl
end Go.Proofs.Ytlcgkcmicklihaa.Wire
namespace Go.Proofs.Ytlcgkcmicklihaa.Wire
set_option linter.unusedVariables false
set_option linter.unusedSimpArgs false
open Go.RowKit Go.Proofs.YtlcgkcmicklihaaW.PrintWords Go.Proofs.YtlcgkcmicklihaaW.PrintLast Go.Proofs.YtlcgkcmicklihaaW.PrintMore
set_option maxRecDepth 100000 in
set_option maxHeartbeats 16000000 in
theorem locks_all : ListRef 40 tLock := by
  intro l A cap ok w hH hok hlen
  obtain ⟨L, hL⟩ : ∃ L, l.length = L := ⟨_, rfl⟩
  have hl : l.length ≤ top := hok.1
  have hL2 : L ≤ 9223372036854775807 := by rw [← hL]; exact hl
  have he : (Ty.list tLock).cod.enc l = num (L : Int) ++ encs tLock.cod l := by rw [← hL]; rfl
  have HH := Lib.hid hH
  have HOK := Lib.hid hok
  have HLEN := Lib.hid hlen
  have HE := Lib.hid he
  rw [hL]
  have HL := Lib.hid hL
  clear hL hH hok hlen he hl
  go_enter Try.func40, Try.ntmps40
  go_wp2_with fail
  refine (num_ref (L : Int) _ ⟨by omega, by omega⟩).mono ?_
  rintro e w1 ⟨rfl, hb0⟩
  have HB0 := Lib.hid hb0
  clear hb0
  go_wp2_with fail
  go_loopw [3, 4] (fun v3 v4 wr => ∃ k : Nat, v4 = .int .i64 (k : Int) ∧ k ≤ L ∧ v3 = .string (mkb (num (L : Int) ++ encs tLock.cod (l.take k))) ∧ Below w.heap.size w wr) (fun _ v4 _ => L - (intOf v4).toNat)
  case atStart => exact ⟨0, rfl, by omega, by simp [encs], HB0.out⟩
  case round =>
    obtain ⟨k, rfl, hk, rfl, hb⟩ := hrel
    have HB := Lib.hid hb
    clear hb
    by_cases hlt : k < L
    · obtain ⟨y, hy⟩ : ∃ y, l[k]? = some y := ⟨_, List.getElem?_eq_getElem (by rw [HL.out]; exact hlt)⟩
      obtain ⟨ab, ao, cs, rfl, hoka, hHy, hcs⟩ := HH.out.list_at hy
      obtain ⟨hyok, hsz1⟩ := entry_fits HOK.out HLEN.out hy
      obtain ⟨y0, y1, y2, y3, y4, y5, y6, rfl⟩ : ∃ (y0 : Int) (y1 : Int) (y2 : Int) (y3 : Int) (y4 : Int) (y5 : List tSpan.T) (y6 : List tWrite.T), y = ((y0, (y1, y2)), ((y3, y4), (y5, y6))) := by
        obtain ⟨⟨y0, ⟨y1, y2⟩⟩, ⟨⟨y3, y4⟩, ⟨y5, y6⟩⟩⟩ := y
        exact ⟨_, _, _, _, _, _, _, rfl⟩
      obtain ⟨ca1, cb1, rfl, ha1, hb1⟩ := Holds.pair_cell hHy
      have hsub0 := ha1
      obtain ⟨ca2, cb2, rfl, ha2, hb2⟩ := Holds.pair_cell ha1
      obtain rfl := Holds.int_cell ha2
      obtain ⟨ca3, cb3, rfl, ha3, hb3⟩ := Holds.pair_cell hb2
      obtain rfl := Holds.int_cell ha3
      obtain rfl := Holds.int_cell hb3
      obtain ⟨ca4, cb4, rfl, ha4, hb4⟩ := Holds.pair_cell hb1
      obtain ⟨ca5, cb5, rfl, ha5, hb5⟩ := Holds.pair_cell ha4
      obtain rfl := Holds.int_cell ha5
      obtain rfl := Holds.int_cell hb5
      obtain ⟨ca6, cb6, rfl, ha6, hb6⟩ := Holds.pair_cell hb4
      obtain ⟨A5, cap5, rfl, hh5⟩ := Holds.list_cell ha6
      obtain ⟨A6, cap6, rfl, hh6⟩ := Holds.list_cell hb6
      have HHsa0 := Lib.hid (hsub0.below HB.out)
      clear hsub0
      obtain ⟨LI, hLI⟩ : ∃ LI, y5.length = LI := ⟨_, rfl⟩
      have m0 : w.cell? ⟨ab, ao + k * 7, none⟩ = some (.int .i64 y0) := hcs 0 _ rfl
      have m1 : w.cell? ⟨ab, ao + k * 7 + 1, none⟩ = some (.int .i64 y1) := hcs 1 _ rfl
      have m2 : w.cell? ⟨ab, ao + k * 7 + 2, none⟩ = some (.int .i64 y2) := hcs 2 _ rfl
      have m3 : w.cell? ⟨ab, ao + k * 7 + 3, none⟩ = some (.int .i64 y3) := hcs 3 _ rfl
      have m4 : w.cell? ⟨ab, ao + k * 7 + 4, none⟩ = some (.int .i64 y4) := hcs 4 _ rfl
      have m5 : w.cell? ⟨ab, ao + k * 7 + 5, none⟩ = some (.slice A5 y5.length cap5) := hcs 5 _ rfl
      have m6 : w.cell? ⟨ab, ao + k * 7 + 6, none⟩ = some (.slice A6 y6.length cap6) := hcs 6 _ rfl
      rw [hLI] at m5 hh5
      have q0 := keep1 m0 HB.out
      have q1 := keep1 m1 HB.out
      have q2 := keep1 m2 HB.out
      have q3 := keep1 m3 HB.out
      have q4 := keep1 m4 HB.out
      have q5 := keep1 m5 HB.out
      have q6 := keep1 m6 HB.out
      have hli1 : y5.length ≤ 9223372036854775807 := hyok.2.2.1.1
      rw [hLI] at hli1
      obtain ⟨Pp, hPp⟩ : ∃ P, num (L : Int) ++ encs tLock.cod (l.take k) = P := ⟨_, rfl⟩
      rw [HL.out, hPp] at hsz1
      rw [hPp]
      have hEE : Pp ++ tLock.cod.enc ((y0, (y1, y2)), ((y3, y4), (y5, y6))) = Pp ++ (tTid.cod.enc (y0, (y1, y2))) ++ ([y3, y4].flatMap num) ++ (num (LI : Int)) ++ encs tSpan.cod y5 ++ (Ty.list tWrite).cod.enc y6 := by
        have h1 : tLock.cod.enc ((y0, (y1, y2)), ((y3, y4), (y5, y6))) = ((num y0 ++ (num y1 ++ num y2)) ++ ((num y3 ++ num y4) ++ ((Ty.list tSpan).cod.enc y5 ++ (Ty.list tWrite).cod.enc y6))) := rfl
        have h2 : (Ty.list tSpan).cod.enc y5 = num (y5.length : Int) ++ encs tSpan.cod y5 := rfl
        rw [h1, h2, hLI]
        have h10 : tTid.cod.enc (y0, (y1, y2)) = (num y0 ++ (num y1 ++ num y2)) := rfl
        rw [h10]
        simp only [List.append_assoc, List.flatMap_cons, List.flatMap_nil, List.append_nil]
      have htot : (Pp ++ (tTid.cod.enc (y0, (y1, y2))) ++ ([y3, y4].flatMap num) ++ (num (LI : Int)) ++ encs tSpan.cod y5 ++ (Ty.list tWrite).cod.enc y6).length ≤ 68719476736 := by rw [← hEE, List.length_append]; exact hsz1
      obtain ⟨Ra0, hRa0⟩ : ∃ R, tTid.cod.enc (y0, (y1, y2)) = R := ⟨_, rfl⟩
      obtain ⟨Ra1, hRa1⟩ : ∃ R, [y3, y4].flatMap num = R := ⟨_, rfl⟩
      obtain ⟨Ra2, hRa2⟩ : ∃ R, num (LI : Int) = R := ⟨_, rfl⟩
      obtain ⟨Pa0, hPa0⟩ : ∃ P, Pp ++ Ra0 = P := ⟨_, rfl⟩
      obtain ⟨Pa1, hPa1⟩ : ∃ P, Pa0 ++ Ra1 = P := ⟨_, rfl⟩
      obtain ⟨Pa2, hPa2⟩ : ∃ P, Pa1 ++ Ra2 = P := ⟨_, rfl⟩
      have hEa : Pa2 = Pp ++ (tTid.cod.enc (y0, (y1, y2))) ++ ([y3, y4].flatMap num) ++ (num (LI : Int)) := by rw [← hPa2, ← hPa1, ← hPa0, ← hRa0, ← hRa1, ← hRa2]
      have hla3 : Pa2.length ≤ 68719476736 := by rw [hEa]; rw [List.length_append, List.length_append] at htot; omega
      have hla2 : Pa1.length + Ra2.length ≤ 68719476736 := by rw [← List.length_append, hPa2]; exact hla3
      have hla1 : Pa0.length + Ra1.length ≤ 68719476736 := by rw [← List.length_append, hPa1]; omega
      have hla0 : Pp.length + Ra0.length ≤ 68719476736 := by rw [← List.length_append, hPa0]; omega
      have HOa0 := Lib.hid (show tTid.cod.ok (y0, (y1, y2)) from hyok.1)
      have HLna0 := Lib.hid (show (tTid.cod.enc (y0, (y1, y2))).length ≤ 68719476736 by rw [hRa0]; omega)
      have HFa1 := Lib.hid (show ∀ n ∈ [y3, y4], Fits n from fits_cons hyok.2.1.1 (fits_cons hyok.2.1.2 (fits_nil)))
      have HFa2 := Lib.hid (show Fits (LI : Int) from ⟨by omega, by omega⟩)
      have saa0 : ¬ 9223372036854775807 < (mkb Pp).size + (mkb Ra0).size := by simp only [mkb_size]; omega
      have sca0 : mkb Pp ++ mkb Ra0 = mkb Pa0 := by rw [mkb_append, hPa0]
      have saa1 : ¬ 9223372036854775807 < (mkb Pa0).size + (mkb Ra1).size := by simp only [mkb_size]; omega
      have sca1 : mkb Pa0 ++ mkb Ra1 = mkb Pa1 := by rw [mkb_append, hPa1]
      have saa2 : ¬ 9223372036854775807 < (mkb Pa1).size + (mkb Ra2).size := by simp only [mkb_size]; omega
      have sca2 : mkb Pa1 ++ mkb Ra2 = mkb Pa2 := by rw [mkb_append, hPa2]
      have HRa0 := Lib.hid hRa0
      have HRa1 := Lib.hid hRa1
      have HRa2 := Lib.hid hRa2
      have HEa := Lib.hid hEa
      clear hEa hRa0 hPa0 hRa1 hPa1 hRa2 hPa2
      have hTT : (Pa2 ++ encs tSpan.cod y5 ++ (Ty.list tWrite).cod.enc y6).length ≤ 68719476736 := by rw [HEa.out]; exact htot
      have hPE : Pp ++ tLock.cod.enc ((y0, (y1, y2)), ((y3, y4), (y5, y6))) = Pa2 ++ encs tSpan.cod y5 ++ (Ty.list tWrite).cod.enc y6 := by rw [HEa.out]; exact hEE
      have HOt := Lib.hid hyok.2.2.2
      have hllt : y6.length ≤ 9223372036854775807 := hyok.2.2.2.1
      have HHt := Lib.hid (hh6.below HB.out)
      have HHt0 := Lib.hid hh6
      clear hh6
      have hab : ab < wr.heap.size := World.block_lt_of_cell? wr _ q0
      have HY := Lib.hid hy
      have HPE := Lib.hid hPE
      have HPp := Lib.hid hPp
      have HTT := Lib.hid hTT
      have HLI := Lib.hid hLI
      have HI := Lib.hid hh5
      have HIOK := Lib.hid hyok.2.2.1
      have M0 := Lib.hid m0
      have M1 := Lib.hid m1
      have M2 := Lib.hid m2
      have M3 := Lib.hid m3
      have M4 := Lib.hid m4
      have M5 := Lib.hid m5
      have M6 := Lib.hid m6
      clear hcs hy hsz1 hyok hEE htot hTT hPE hPp hoka hLI hh5 m0 m1 m2 m3 m4 m5 m6 ha1 ha2 hb2 ha3 hb3 hb1 ha4 ha5 hb5 hb4 ha6 hb6
      have b0 : (0 : Int) ≤ (k : Int) := by omega
      have b1 : (k : Int) < (L : Int) := by omega
      go_wp2_with fail
      have hBa0 : Below wr.heap.size wr wr := Below.refl _ _
      have KKa : Hid (∀ w', Below wr.heap.size wr w' → (Below wr.heap.size wr w' ∧ w'.cell? ⟨ab, ao + k * 7, none⟩ = some (.int .i64 y0) ∧ w'.cell? ⟨ab, ao + k * 7 + 1, none⟩ = some (.int .i64 y1) ∧ w'.cell? ⟨ab, ao + k * 7 + 2, none⟩ = some (.int .i64 y2) ∧ w'.cell? ⟨ab, ao + k * 7 + 3, none⟩ = some (.int .i64 y3) ∧ w'.cell? ⟨ab, ao + k * 7 + 4, none⟩ = some (.int .i64 y4) ∧ w'.cell? ⟨ab, ao + k * 7 + 5, none⟩ = some (.slice A5 LI cap5) ∧ w'.cell? ⟨ab, ao + k * 7 + 6, none⟩ = some (.slice A6 y6.length cap6))) := Lib.hid (fun w' hX => ⟨hX, keep1 q0 hX, keep1 q1 hX, keep1 q2 hX, keep1 q3 hX, keep1 q4 hX, keep1 q5 hX, keep1 q6 hX⟩)
      go_region_held3 (fun w' => Below wr.heap.size wr w' ∧ w'.cell? ⟨ab, ao + k * 7, none⟩ = some (.int .i64 y0) ∧ w'.cell? ⟨ab, ao + k * 7 + 1, none⟩ = some (.int .i64 y1) ∧ w'.cell? ⟨ab, ao + k * 7 + 2, none⟩ = some (.int .i64 y2) ∧ w'.cell? ⟨ab, ao + k * 7 + 3, none⟩ = some (.int .i64 y3) ∧ w'.cell? ⟨ab, ao + k * 7 + 4, none⟩ = some (.int .i64 y4) ∧ w'.cell? ⟨ab, ao + k * 7 + 5, none⟩ = some (.slice A5 LI cap5) ∧ w'.cell? ⟨ab, ao + k * 7 + 6, none⟩ = some (.slice A6 y6.length cap6))
        (first | ((with_reducible refine KKa.out _ ?_); (repeat (first | with_reducible refine bel_drew ?_ | with_reducible refine bel_alloc ?_)); first | with_reducible exact hBa3 | with_reducible exact hBa2 | with_reducible exact hBa1 | with_reducible exact hBa0))
        (first | (go_at_call 41; have hp := hBa2; refine (num_ref' (LI : Int) Ra2 HRa2.out _ HFa2.out).mono ?_; rintro e va3 ⟨rfl, hra3⟩; have hBa3 : Below wr.heap.size wr va3 := below_step (by (repeat (first | with_reducible refine bel_drew ?_ | with_reducible refine bel_alloc ?_)); with_reducible exact hp) hra3) | (go_at_call 29; have hp := hBa1; refine (nums_at [y3, y4] Ra1 HRa1.out 2 rfl _ 2 _ (by decide) HFa1.out (by repeat (first | ((with_reducible refine rowB ?_ ?_); rfl; (first | (with_reducible rfl) | (simp; done)); done) | with_reducible refine row_drew ?_ | with_reducible refine row_alloc ?_ | with_reducible refine row_below hra3 ?_ | with_reducible refine row_below hra2 ?_ | with_reducible refine row_below hra1 ?_))).mono ?_; rintro e va2 ⟨rfl, hra2⟩; have hBa2 : Below wr.heap.size wr va2 := below_step (by (repeat (first | with_reducible refine bel_drew ?_ | with_reducible refine bel_alloc ?_)); with_reducible exact hp) hra2) | (go_at_call 42; have hp := hBa0; refine (sub_ref' tid_ref _ [.int .i64 y0, .int .i64 y1, .int .i64 y2] _ Ra0 HRa0.out _ (HHsa0.out.below (by (repeat (first | with_reducible refine bel_drew ?_ | with_reducible refine bel_alloc ?_)); with_reducible exact hp)) HOa0.out HLna0.out).mono ?_; rintro e va1 ⟨rfl, hra1⟩; have hBa1 : Below wr.heap.size wr va1 := below_step (by (repeat (first | with_reducible refine bel_drew ?_ | with_reducible refine bel_alloc ?_)); with_reducible exact hp) hra1))
      all_goals
        have HBa := Lib.hid (below_step HB.out hBa3)
        go_wp2_with fail
        go_loopw [3, 5] (fun v3 v5 wi => ∃ j : Nat, v5 = .int .i64 (j : Int) ∧ j ≤ LI ∧ v3 = .string (mkb (Pa2 ++ encs tSpan.cod (y5.take j))) ∧ Below w.heap.size w wi) (fun _ v5 _ => LI - (intOf v5).toNat)
        case atStart => exact ⟨0, rfl, by omega, by simp [encs], HBa.out⟩
        case round =>
          obtain ⟨j, rfl, hj, rfl, hbi⟩ := hrel
          have HBi := Lib.hid hbi
          have p0 := keep1 M0.out hbi
          have p1 := keep1 M1.out hbi
          have p2 := keep1 M2.out hbi
          have p3 := keep1 M3.out hbi
          have p4 := keep1 M4.out hbi
          have p5 := keep1 M5.out hbi
          have p6 := keep1 M6.out hbi
          clear hbi
          by_cases hlj : j < LI
          · obtain ⟨z, hz⟩ : ∃ z, y5[j]? = some z := ⟨_, List.getElem?_eq_getElem (by rw [HLI.out]; exact hlj)⟩
            obtain ⟨bb, bo, ds, rfl, hokb, hHz, hds⟩ := HI.out.list_at hz
            have hzok := HIOK.out.2 _ (List.mem_of_getElem? hz)
            have hsz2 := encs_take_le tSpan.cod y5 (j + 1)
            rw [encs_snoc _ y5 j z hz] at hsz2
            obtain ⟨z0, z1, rfl⟩ : ∃ (z0 : ByteArray) (z1 : ByteArray), z = (z0, z1) := by
              obtain ⟨z0, z1⟩ := z
              exact ⟨_, _, rfl⟩
            obtain ⟨caz1, cbz1, rfl, haz1, hbz1⟩ := Holds.pair_cell hHz
            obtain rfl := Holds.str_cell haz1
            obtain rfl := Holds.str_cell hbz1
            have n0 := keep1 (show w.cell? ⟨bb, bo + j * 2, none⟩ = some (.string z0) from hds 0 _ rfl) HBi.out
            have n1 := keep1 (show w.cell? ⟨bb, bo + j * 2 + 1, none⟩ = some (.string z1) from hds 1 _ rfl) HBi.out
            obtain ⟨Pq, hPq⟩ : ∃ P, Pa2 ++ encs tSpan.cod (y5.take j) = P := ⟨_, rfl⟩
            rw [hPq]
            have hEE : Pq ++ tSpan.cod.enc (z0, z1) = Pq ++ (cStr.enc z0) ++ (cStr.enc z1) := by
              have h1 : tSpan.cod.enc (z0, z1) = (cStr.enc z0 ++ cStr.enc z1) := rfl
              rw [h1]
              simp only [List.append_assoc, List.flatMap_cons, List.flatMap_nil, List.append_nil]
            have htot : (Pq ++ (cStr.enc z0) ++ (cStr.enc z1)).length ≤ 68719476736 := by
              rw [← hEE, ← hPq]
              have h3 := HTT.out
              have h4 : (encs tSpan.cod (y5.take j) ++ tSpan.cod.enc (z0, z1)).length ≤ (encs tSpan.cod y5).length := hsz2
              simp only [List.length_append] at h3 h4 ⊢
              omega
            obtain ⟨Rb0, hRb0⟩ : ∃ R, cStr.enc z0 = R := ⟨_, rfl⟩
            obtain ⟨Rb1, hRb1⟩ : ∃ R, cStr.enc z1 = R := ⟨_, rfl⟩
            obtain ⟨Pb0, hPb0⟩ : ∃ P, Pq ++ Rb0 = P := ⟨_, rfl⟩
            obtain ⟨Pb1, hPb1⟩ : ∃ P, Pb0 ++ Rb1 = P := ⟨_, rfl⟩
            have hEb : Pb1 = Pq ++ (cStr.enc z0) ++ (cStr.enc z1) := by rw [← hPb1, ← hPb0, ← hRb0, ← hRb1]
            have hlb2 : Pb1.length ≤ 68719476736 := by rw [hEb]; exact htot
            have hlb1 : Pb0.length + Rb1.length ≤ 68719476736 := by rw [← List.length_append, hPb1]; exact hlb2
            have hlb0 : Pq.length + Rb0.length ≤ 68719476736 := by rw [← List.length_append, hPb0]; omega
            have hsb0 : z0.size ≤ 281474976710656 := str_size hRb0 (by omega)
            have hsb1 : z1.size ≤ 281474976710656 := str_size hRb1 (by omega)
            have sab0 : ¬ 9223372036854775807 < (mkb Pq).size + (mkb Rb0).size := by simp only [mkb_size]; omega
            have scb0 : mkb Pq ++ mkb Rb0 = mkb Pb0 := by rw [mkb_append, hPb0]
            have sab1 : ¬ 9223372036854775807 < (mkb Pb0).size + (mkb Rb1).size := by simp only [mkb_size]; omega
            have scb1 : mkb Pb0 ++ mkb Rb1 = mkb Pb1 := by rw [mkb_append, hPb1]
            have HRb0 := Lib.hid hRb0
            have HRb1 := Lib.hid hRb1
            have HEb := Lib.hid hEb
            clear hEb hRb0 hPb0 hRb1 hPb1
            have hPE : Pq ++ tSpan.cod.enc (z0, z1) = Pb1 := by rw [HEb.out]; exact hEE
            have hbb : bb < wr.heap.size := World.block_lt_of_cell? wr _ n0
            have HZ := Lib.hid hz
            have HPEz := Lib.hid hPE
            have HPq := Lib.hid hPq
            clear hds hz hsz2 hzok hEE htot hPE hPq hokb haz1 hbz1
            have c0 : (0 : Int) ≤ (j : Int) := by omega
            have c1 : (j : Int) < (LI : Int) := by omega
            go_wp2_with fail
            have hBb0 : Below wr.heap.size wr wr := Below.refl _ _
            have KKb : Hid (∀ w', Below wr.heap.size wr w' → (Below wr.heap.size wr w' ∧ w'.cell? ⟨ab, ao + k * 7, none⟩ = some (.int .i64 y0) ∧ w'.cell? ⟨ab, ao + k * 7 + 1, none⟩ = some (.int .i64 y1) ∧ w'.cell? ⟨ab, ao + k * 7 + 2, none⟩ = some (.int .i64 y2) ∧ w'.cell? ⟨ab, ao + k * 7 + 3, none⟩ = some (.int .i64 y3) ∧ w'.cell? ⟨ab, ao + k * 7 + 4, none⟩ = some (.int .i64 y4) ∧ w'.cell? ⟨ab, ao + k * 7 + 5, none⟩ = some (.slice (some ⟨bb, bo, none⟩) LI cap5) ∧ w'.cell? ⟨ab, ao + k * 7 + 6, none⟩ = some (.slice A6 y6.length cap6) ∧ w'.cell? ⟨bb, bo + j * 2, none⟩ = some (.string z0) ∧ w'.cell? ⟨bb, bo + j * 2 + 1, none⟩ = some (.string z1))) := Lib.hid (fun w' hX => ⟨hX, keep1 p0 hX, keep1 p1 hX, keep1 p2 hX, keep1 p3 hX, keep1 p4 hX, keep1 p5 hX, keep1 p6 hX, keep1 n0 hX, keep1 n1 hX⟩)
            go_region_held3 (fun w' => Below wr.heap.size wr w' ∧ w'.cell? ⟨ab, ao + k * 7, none⟩ = some (.int .i64 y0) ∧ w'.cell? ⟨ab, ao + k * 7 + 1, none⟩ = some (.int .i64 y1) ∧ w'.cell? ⟨ab, ao + k * 7 + 2, none⟩ = some (.int .i64 y2) ∧ w'.cell? ⟨ab, ao + k * 7 + 3, none⟩ = some (.int .i64 y3) ∧ w'.cell? ⟨ab, ao + k * 7 + 4, none⟩ = some (.int .i64 y4) ∧ w'.cell? ⟨ab, ao + k * 7 + 5, none⟩ = some (.slice (some ⟨bb, bo, none⟩) LI cap5) ∧ w'.cell? ⟨ab, ao + k * 7 + 6, none⟩ = some (.slice A6 y6.length cap6) ∧ w'.cell? ⟨bb, bo + j * 2, none⟩ = some (.string z0) ∧ w'.cell? ⟨bb, bo + j * 2 + 1, none⟩ = some (.string z1))
              (first | ((with_reducible refine KKb.out _ ?_); (repeat (first | with_reducible refine bel_drew ?_ | with_reducible refine bel_alloc ?_)); first | with_reducible exact hBb2 | with_reducible exact hBb1 | with_reducible exact hBb0))
              (first | (go_at_call 32; have hp := hBb1; refine (text_ref' z1 Rb1 HRb1.out _ hsb1).mono ?_; rintro e vb2 ⟨rfl, hrb2⟩; have hBb2 : Below wr.heap.size wr vb2 := below_step (by (repeat (first | with_reducible refine bel_drew ?_ | with_reducible refine bel_alloc ?_)); with_reducible exact hp) hrb2) | (go_at_call 32; have hp := hBb0; refine (text_ref' z0 Rb0 HRb0.out _ hsb0).mono ?_; rintro e vb1 ⟨rfl, hrb1⟩; have hBb1 : Below wr.heap.size wr vb1 := below_step (by (repeat (first | with_reducible refine bel_drew ?_ | with_reducible refine bel_alloc ?_)); with_reducible exact hp) hrb1))
            all_goals
              go_wp2_with fail
              go_roundw
              case rel =>
                refine ⟨j + 1, by go_num, by omega, ?_, below_step HBi.out hBb2⟩
                rw [encs_snoc _ y5 j _ HZ.out, ← List.append_assoc, HPq.out]
                exact congrArg (fun l => Value.string (mkb l)) HPEz.out.symm
              case measure => simp [intOf]; omega
          · obtain rfl : j = LI := by omega
            obtain ⟨Rt, hRt⟩ : ∃ R, (Ty.list tWrite).cod.enc y6 = R := ⟨_, rfl⟩
            obtain ⟨Pz, hPz⟩ : ∃ P, Pa2 ++ encs tSpan.cod (y5.take j) = P := ⟨_, rfl⟩
            have hPz2 : Pa2 ++ encs tSpan.cod y5 = Pz := by rw [← hPz, ← HLI.out, List.take_length]
            obtain ⟨Pt, hPt⟩ : ∃ P, Pz ++ Rt = P := ⟨_, rfl⟩
            have hlt0 : Pz.length + Rt.length ≤ 68719476736 := by have h3 := HTT.out; rw [hRt, hPz2, List.length_append] at h3; exact h3
            have HLnt := Lib.hid (show ((Ty.list tWrite).cod.enc y6).length ≤ 68719476736 by rw [hRt]; omega)
            have sat : ¬ 9223372036854775807 < (mkb Pz).size + (mkb Rt).size := by simp only [mkb_size]; omega
            have sct : mkb Pz ++ mkb Rt = mkb Pt := by rw [mkb_append, hPt]
            have HPt := Lib.hid (show Pp ++ tLock.cod.enc ((y0, (y1, y2)), ((y3, y4), (y5, y6))) = Pt by rw [HPE.out, hPz2, hRt, hPt])
            have HRt := Lib.hid hRt
            rw [hPz]
            clear hPz hPz2 hRt hPt
            go_wp2_with fail
            refine (list_ref' writes_all y6 _ _ _ Rt HRt.out _ (HHt0.out.below HBi.out) HOt.out HLnt.out).mono ?_
            rintro e wt ⟨rfl, hrt⟩
            go_wp2_with fail
            go_roundw
            case rel =>
              refine ⟨k + 1, by go_num, by omega, ?_, below_step HBi.out hrt⟩
              rw [encs_snoc _ l k _ HY.out, ← List.append_assoc, HPp.out]
              exact congrArg (fun l => Value.string (mkb l)) HPt.out.symm
            case measure => simp [intOf]; omega
    · obtain rfl : k = L := by omega
      go_wp2_with fail
      go_ret
      refine ⟨?_, HB.out⟩
      rw [HE.out, ← HL.out, List.take_length]
      rfl
end Go.Proofs.Ytlcgkcmicklihaa.Wire
namespace Go.Proofs.Ytlcgkcmicklihaa.Wire
set_option linter.unusedVariables false
set_option linter.unusedSimpArgs false
open Go.RowKit Go.Proofs.YtlcgkcmicklihaaW.PrintWords Go.Proofs.YtlcgkcmicklihaaW.PrintLast Go.Proofs.YtlcgkcmicklihaaW.PrintMore
set_option maxRecDepth 100000 in
set_option maxHeartbeats 16000000 in
theorem state_refL (y0 : List tRow.T) (y1 : List tLock.T) (y2 : List tRecord.T) (y3 : List tTid.T) (y4 : Int) (cs : List Value) (ok : Nat → Prop) (w : World) (hH : Holds w ok tState (y0, (y1, (y2, (y3, y4)))) cs) (hok : tState.cod.ok (y0, (y1, (y2, (y3, y4))))) (hlen : (tState.cod.enc (y0, (y1, (y2, (y3, y4))))).length ≤ 68719476736) :
    Calls Try.prog 19 #[.agg cs.toArray] w fun e w' => e = .returned (.string (mkb (tState.cod.enc (y0, (y1, (y2, (y3, y4))))))) ∧ Below w.heap.size w w' := by
  obtain ⟨ca1, cb1, rfl, ha1, hb1⟩ := Holds.pair_cell hH
  obtain ⟨A0, cap0, rfl, hh0⟩ := Holds.list_cell ha1
  obtain ⟨ca2, cb2, rfl, ha2, hb2⟩ := Holds.pair_cell hb1
  obtain ⟨A1, cap1, rfl, hh1⟩ := Holds.list_cell ha2
  obtain ⟨ca3, cb3, rfl, ha3, hb3⟩ := Holds.pair_cell hb2
  obtain ⟨A2, cap2, rfl, hh2⟩ := Holds.list_cell ha3
  obtain ⟨ca4, cb4, rfl, ha4, hb4⟩ := Holds.pair_cell hb3
  obtain ⟨A3, cap3, rfl, hh3⟩ := Holds.list_cell ha4
  obtain rfl := Holds.int_cell hb4
  clear ha1 hb1 ha2 hb2 ha3 hb3 ha4 hb4
  obtain ⟨L2, hL2⟩ : ∃ n, y2.length = n := ⟨_, rfl⟩
  obtain ⟨L3, hL3⟩ : ∃ n, y3.length = n := ⟨_, rfl⟩
  have hm2 : y2.length ≤ 9223372036854775807 := hok.2.2.1.1
  have hm3 : y3.length ≤ 9223372036854775807 := hok.2.2.2.1.1
  have hk2 := hok.2.2.1.2
  have hk3 := hok.2.2.2.1.2
  have hf4 : Fits y4 := hok.2.2.2.2
  rw [hL2] at hh2 hm2
  rw [hL3] at hh3 hm3
  have hE0 : tState.cod.enc (y0, (y1, (y2, (y3, y4)))) = (Ty.list tRow).cod.enc y0 ++ (Ty.list tLock).cod.enc y1 ++ num (L2 : Int) ++ encs tRecord.cod y2 ++ num (L3 : Int) ++ encs tTid.cod y3 ++ num y4 := by
    have h1 : tState.cod.enc (y0, (y1, (y2, (y3, y4)))) = ((Ty.list tRow).cod.enc y0 ++ ((Ty.list tLock).cod.enc y1 ++ ((Ty.list tRecord).cod.enc y2 ++ ((Ty.list tTid).cod.enc y3 ++ num y4)))) := rfl
    have h2 : (Ty.list tRecord).cod.enc y2 = num (y2.length : Int) ++ encs tRecord.cod y2 := rfl
    have h3 : (Ty.list tTid).cod.enc y3 = num (y3.length : Int) ++ encs tTid.cod y3 := rfl
    rw [h1, h2, h3, hL2, hL3]
    simp only [List.append_assoc]
  rw [hE0] at hlen
  rw [hE0]
  obtain ⟨F, hF⟩ : ∃ F, (Ty.list tRow).cod.enc y0 ++ (Ty.list tLock).cod.enc y1 ++ num (L2 : Int) ++ encs tRecord.cod y2 ++ num (L3 : Int) ++ encs tTid.cod y3 ++ num y4 = F := ⟨_, rfl⟩
  have hlf : F.length ≤ 68719476736 := by rw [← hF]; exact hlen
  rw [hF]
  rw [hL2, hL3]
  obtain ⟨wb, hwb⟩ : ∃ wb, w.alloc (.cells #[.slice A0 y0.length cap0, .slice A1 y1.length cap1, .slice A2 L2 cap2, .slice A3 L3 cap3, .int .i64 y4] 43) = wb := ⟨_, rfl⟩
  have hbb : Below w.heap.size w wb := by rw [← hwb]; exact (Below.refl _ _).alloc (Nat.le_refl _) _
  have q0 : wb.cell? ⟨w.heap.size, 0, none⟩ = some (.slice A0 y0.length cap0) := by rw [← hwb]; exact (blk_cell (blk_new w _) 0).trans rfl
  have q1 : wb.cell? ⟨w.heap.size, 1, none⟩ = some (.slice A1 y1.length cap1) := by rw [← hwb]; exact (blk_cell (blk_new w _) 1).trans rfl
  have q2 : wb.cell? ⟨w.heap.size, 2, none⟩ = some (.slice A2 L2 cap2) := by rw [← hwb]; exact (blk_cell (blk_new w _) 2).trans rfl
  have q3 : wb.cell? ⟨w.heap.size, 3, none⟩ = some (.slice A3 L3 cap3) := by rw [← hwb]; exact (blk_cell (blk_new w _) 3).trans rfl
  have q4 : wb.cell? ⟨w.heap.size, 4, none⟩ = some (.int .i64 y4) := by rw [← hwb]; exact (blk_cell (blk_new w _) 4).trans rfl
  have hNb : w.heap.size < wb.heap.size := by rw [← hwb]; simp
  have HHla0 := Lib.hid (hh0.below hbb)
  have HHla1 := Lib.hid (hh1.below hbb)
  obtain ⟨Ra0, hRa0⟩ : ∃ R, (Ty.list tRow).cod.enc y0 = R := ⟨_, rfl⟩
  obtain ⟨Ra1, hRa1⟩ : ∃ R, (Ty.list tLock).cod.enc y1 = R := ⟨_, rfl⟩
  obtain ⟨Ra2, hRa2⟩ : ∃ R, num (L2 : Int) = R := ⟨_, rfl⟩
  obtain ⟨Pa1, hPa1⟩ : ∃ P, Ra0 ++ Ra1 = P := ⟨_, rfl⟩
  obtain ⟨Pa2, hPa2⟩ : ∃ P, Pa1 ++ Ra2 = P := ⟨_, rfl⟩
  have hEa : Pa2 = ((Ty.list tRow).cod.enc y0) ++ ((Ty.list tLock).cod.enc y1) ++ (num (L2 : Int)) := by rw [← hPa2, ← hPa1, ← hRa0, ← hRa1, ← hRa2]
  have hla3 : Pa2.length ≤ 68719476736 := by rw [hEa]; have h3 := hlf; rw [← hF] at h3; simp only [List.length_append] at h3 ⊢; omega
  have hla2 : Pa1.length + Ra2.length ≤ 68719476736 := by rw [← List.length_append, hPa2]; exact hla3
  have hla1 : Ra0.length + Ra1.length ≤ 68719476736 := by rw [← List.length_append, hPa1]; omega
  have HOa0 := Lib.hid hok.1
  have HLna0 := Lib.hid (show ((Ty.list tRow).cod.enc y0).length ≤ 68719476736 by rw [hRa0]; omega)
  have hlla0 : y0.length ≤ 9223372036854775807 := hok.1.1
  have HOa1 := Lib.hid hok.2.1
  have HLna1 := Lib.hid (show ((Ty.list tLock).cod.enc y1).length ≤ 68719476736 by rw [hRa1]; omega)
  have hlla1 : y1.length ≤ 9223372036854775807 := hok.2.1.1
  have HFa2 := Lib.hid (show Fits (L2 : Int) from ⟨by omega, by omega⟩)
  have saa1 : ¬ 9223372036854775807 < (mkb Ra0).size + (mkb Ra1).size := by simp only [mkb_size]; omega
  have sca1 : mkb Ra0 ++ mkb Ra1 = mkb Pa1 := by rw [mkb_append, hPa1]
  have saa2 : ¬ 9223372036854775807 < (mkb Pa1).size + (mkb Ra2).size := by simp only [mkb_size]; omega
  have sca2 : mkb Pa1 ++ mkb Ra2 = mkb Pa2 := by rw [mkb_append, hPa2]
  have HRa0 := Lib.hid hRa0
  have HRa1 := Lib.hid hRa1
  have HRa2 := Lib.hid hRa2
  have HEa := Lib.hid hEa
  clear hEa hRa0 hRa1 hPa1 hRa2 hPa2
  have hF1 : Pa2 ++ encs tRecord.cod y2 ++ num (L3 : Int) ++ encs tTid.cod y3 ++ num y4 = F := by rw [HEa.out]; exact hF
  have HBB := Lib.hid hbb
  have HF1 := Lib.hid hF1
  have HK2 := Lib.hid hk2
  have HK3 := Lib.hid hk3
  have HL2 := Lib.hid hL2
  have HL3 := Lib.hid hL3
  have HR2 := Lib.hid hh2
  have HR3 := Lib.hid hh3
  have HLF := Lib.hid hlf
  have HF4 := Lib.hid hf4
  clear hbb hF1 hF hE0 hk2 hk3 hL2 hL3 hh0 hh1 hh2 hh3 hlf hf4 hlen hok
  show Calls Try.prog 19 #[.agg #[.slice A0 y0.length cap0, .slice A1 y1.length cap1, .slice A2 L2 cap2, .slice A3 L3 cap3, .int .i64 y4]] w _
  go_enter Try.func19, Try.ntmps19
  go_wp2_with fail
  clear hwb
  have Q0 := Lib.hid q0
  have Q1 := Lib.hid q1
  have Q2 := Lib.hid q2
  have Q3 := Lib.hid q3
  have Q4 := Lib.hid q4
  have hBa0 : Below wb.heap.size wb wb := Below.refl _ _
  have KKa : Hid (∀ w', Below wb.heap.size wb w' → (Below wb.heap.size wb w' ∧ w'.cell? ⟨w.heap.size, 0, none⟩ = some (.slice A0 y0.length cap0) ∧ w'.cell? ⟨w.heap.size, 1, none⟩ = some (.slice A1 y1.length cap1) ∧ w'.cell? ⟨w.heap.size, 2, none⟩ = some (.slice A2 L2 cap2) ∧ w'.cell? ⟨w.heap.size, 3, none⟩ = some (.slice A3 L3 cap3) ∧ w'.cell? ⟨w.heap.size, 4, none⟩ = some (.int .i64 y4))) := Lib.hid (fun w' hX => ⟨hX, keep1 q0 hX, keep1 q1 hX, keep1 q2 hX, keep1 q3 hX, keep1 q4 hX⟩)
  go_region_held3 (fun w' => Below wb.heap.size wb w' ∧ w'.cell? ⟨w.heap.size, 0, none⟩ = some (.slice A0 y0.length cap0) ∧ w'.cell? ⟨w.heap.size, 1, none⟩ = some (.slice A1 y1.length cap1) ∧ w'.cell? ⟨w.heap.size, 2, none⟩ = some (.slice A2 L2 cap2) ∧ w'.cell? ⟨w.heap.size, 3, none⟩ = some (.slice A3 L3 cap3) ∧ w'.cell? ⟨w.heap.size, 4, none⟩ = some (.int .i64 y4))
    (first | ((with_reducible refine KKa.out _ ?_); (repeat (first | with_reducible refine bel_drew ?_ | with_reducible refine bel_alloc ?_)); first | with_reducible exact hBa3 | with_reducible exact hBa2 | with_reducible exact hBa1 | with_reducible exact hBa0))
    (first | (go_at_call 41; have hp := hBa2; refine (num_ref' (L2 : Int) Ra2 HRa2.out _ HFa2.out).mono ?_; rintro e va3 ⟨rfl, hra3⟩; have hBa3 : Below wb.heap.size wb va3 := below_step (by (repeat (first | with_reducible refine bel_drew ?_ | with_reducible refine bel_alloc ?_)); with_reducible exact hp) hra3) | (go_at_call 40; have hp := hBa1; refine (list_ref' locks_all y1 _ _ _ Ra1 HRa1.out _ (HHla1.out.below (by (repeat (first | with_reducible refine bel_drew ?_ | with_reducible refine bel_alloc ?_)); with_reducible exact hp)) HOa1.out HLna1.out).mono ?_; rintro e va2 ⟨rfl, hra2⟩; have hBa2 : Below wb.heap.size wb va2 := below_step (by (repeat (first | with_reducible refine bel_drew ?_ | with_reducible refine bel_alloc ?_)); with_reducible exact hp) hra2) | (go_at_call 39; have hp := hBa0; refine (list_ref' rows_all y0 _ _ _ Ra0 HRa0.out _ (HHla0.out.below (by (repeat (first | with_reducible refine bel_drew ?_ | with_reducible refine bel_alloc ?_)); with_reducible exact hp)) HOa0.out HLna0.out).mono ?_; rintro e va1 ⟨rfl, hra1⟩; have hBa1 : Below wb.heap.size wb va1 := below_step (by (repeat (first | with_reducible refine bel_drew ?_ | with_reducible refine bel_alloc ?_)); with_reducible exact hp) hra1))
  all_goals
    have HBa := Lib.hid hBa3
    clear q0 q1 q2 q3 q4
    go_wp2_with fail
    go_loopw [3, 4] (fun v3 v4 wr => ∃ k : Nat, v4 = .int .i64 (k : Int) ∧ k ≤ L2 ∧ v3 = .string (mkb (Pa2 ++ encs tRecord.cod (y2.take k))) ∧ Below wb.heap.size wb wr) (fun _ v4 _ => L2 - (intOf v4).toNat)
    case atStart => exact ⟨0, rfl, by omega, by simp [encs], HBa.out⟩
    case round =>
      obtain ⟨k, rfl, hkb, rfl, hbb⟩ := hrel
      have p0 := keep1 Q0.out hbb
      have p1 := keep1 Q1.out hbb
      have p2 := keep1 Q2.out hbb
      have p3 := keep1 Q3.out hbb
      have p4 := keep1 Q4.out hbb
      have HBb := Lib.hid hbb
      have HXb := Lib.hid (below_step HBB.out hbb)
      clear hbb
      by_cases hltb : k < L2
      · obtain ⟨z, hz⟩ : ∃ z, y2[k]? = some z := ⟨_, List.getElem?_eq_getElem (by rw [HL2.out]; exact hltb)⟩
        obtain ⟨bb, bo, ds, rfl, hokb, hHz, hds⟩ := HR2.out.list_at hz
        have hzok := HK2.out _ (List.mem_of_getElem? hz)
        have hsz2 := encs_take_le tRecord.cod y2 (k + 1)
        rw [encs_snoc _ y2 k z hz] at hsz2
        obtain ⟨z0, z1, z2, z3, rfl⟩ : ∃ (z0 : Int) (z1 : Int) (z2 : Int) (z3 : Int), z = ((z0, (z1, z2)), z3) := by
          obtain ⟨⟨z0, ⟨z1, z2⟩⟩, z3⟩ := z
          exact ⟨_, _, _, _, rfl⟩
        obtain ⟨cab1, cbb1, rfl, hab1, hbb1⟩ := Holds.pair_cell hHz
        have HHsb0 := Lib.hid (hab1.below HXb.out)
        obtain ⟨cab2, cbb2, rfl, hab2, hbb2⟩ := Holds.pair_cell hab1
        obtain rfl := Holds.int_cell hab2
        obtain ⟨cab3, cbb3, rfl, hab3, hbb3⟩ := Holds.pair_cell hbb2
        obtain rfl := Holds.int_cell hab3
        obtain rfl := Holds.int_cell hbb3
        obtain rfl := Holds.int_cell hbb1
        have n0 := keep1 (show w.cell? ⟨bb, bo + k * 4, none⟩ = some (.int .i64 z0) from hds 0 _ rfl) HXb.out
        have n1 := keep1 (show w.cell? ⟨bb, bo + k * 4 + 1, none⟩ = some (.int .i64 z1) from hds 1 _ rfl) HXb.out
        have n2 := keep1 (show w.cell? ⟨bb, bo + k * 4 + 2, none⟩ = some (.int .i64 z2) from hds 2 _ rfl) HXb.out
        have n3 := keep1 (show w.cell? ⟨bb, bo + k * 4 + 3, none⟩ = some (.int .i64 z3) from hds 3 _ rfl) HXb.out
        obtain ⟨Pq, hPq⟩ : ∃ P, Pa2 ++ encs tRecord.cod (y2.take k) = P := ⟨_, rfl⟩
        rw [hPq]
        have hEE : Pq ++ tRecord.cod.enc ((z0, (z1, z2)), z3) = Pq ++ (tTid.cod.enc (z0, (z1, z2))) ++ (num z3) := by
          have h1 : tRecord.cod.enc ((z0, (z1, z2)), z3) = ((num z0 ++ (num z1 ++ num z2)) ++ num z3) := rfl
          rw [h1]
          have h10 : tTid.cod.enc (z0, (z1, z2)) = (num z0 ++ (num z1 ++ num z2)) := rfl
          rw [h10]
          all_goals simp only [List.append_assoc, List.flatMap_cons, List.flatMap_nil, List.append_nil]
        have htot : (Pq ++ (tTid.cod.enc (z0, (z1, z2))) ++ (num z3)).length ≤ 68719476736 := by
          rw [← hEE, ← hPq]
          have h3 := HLF.out
          rw [← HF1.out] at h3
          have h4 : (encs tRecord.cod (y2.take k) ++ tRecord.cod.enc ((z0, (z1, z2)), z3)).length ≤ (encs tRecord.cod y2).length := hsz2
          simp only [List.length_append] at h3 h4 ⊢
          omega
        obtain ⟨Rb0, hRb0⟩ : ∃ R, tTid.cod.enc (z0, (z1, z2)) = R := ⟨_, rfl⟩
        obtain ⟨Rb1, hRb1⟩ : ∃ R, num z3 = R := ⟨_, rfl⟩
        obtain ⟨Pb0, hPb0⟩ : ∃ P, Pq ++ Rb0 = P := ⟨_, rfl⟩
        obtain ⟨Pb1, hPb1⟩ : ∃ P, Pb0 ++ Rb1 = P := ⟨_, rfl⟩
        have hEb : Pb1 = Pq ++ (tTid.cod.enc (z0, (z1, z2))) ++ (num z3) := by rw [← hPb1, ← hPb0, ← hRb0, ← hRb1]
        have hlb2 : Pb1.length ≤ 68719476736 := by rw [hEb]; exact htot
        have hlb1 : Pb0.length + Rb1.length ≤ 68719476736 := by rw [← List.length_append, hPb1]; exact hlb2
        have hlb0 : Pq.length + Rb0.length ≤ 68719476736 := by rw [← List.length_append, hPb0]; omega
        have HOb0 := Lib.hid (show tTid.cod.ok (z0, (z1, z2)) from hzok.1)
        have HLnb0 := Lib.hid (show (tTid.cod.enc (z0, (z1, z2))).length ≤ 68719476736 by rw [hRb0]; omega)
        have HFb1 := Lib.hid (show Fits z3 from hzok.2)
        have sab0 : ¬ 9223372036854775807 < (mkb Pq).size + (mkb Rb0).size := by simp only [mkb_size]; omega
        have scb0 : mkb Pq ++ mkb Rb0 = mkb Pb0 := by rw [mkb_append, hPb0]
        have sab1 : ¬ 9223372036854775807 < (mkb Pb0).size + (mkb Rb1).size := by simp only [mkb_size]; omega
        have scb1 : mkb Pb0 ++ mkb Rb1 = mkb Pb1 := by rw [mkb_append, hPb1]
        have HRb0 := Lib.hid hRb0
        have HRb1 := Lib.hid hRb1
        have HEb := Lib.hid hEb
        clear hEb hRb0 hPb0 hRb1 hPb1
        have hPE : Pq ++ tRecord.cod.enc ((z0, (z1, z2)), z3) = Pb1 := by rw [HEb.out] <;> exact hEE
        have hbbx : bb < wr.heap.size := World.block_lt_of_cell? wr _ n0
        have HZ := Lib.hid hz
        have HPEz := Lib.hid hPE
        have HPq := Lib.hid hPq
        clear hds hz hsz2 hzok hEE htot hPE hPq hokb hHz hab1 hab2 hbb2 hab3 hbb3 hbb1
        have c0 : (0 : Int) ≤ (k : Int) := by omega
        have c1 : (k : Int) < (L2 : Int) := by omega
        go_wp2_with fail
        have hBb0 : Below wr.heap.size wr wr := Below.refl _ _
        have KKb : Hid (∀ w', Below wr.heap.size wr w' → (Below wr.heap.size wr w' ∧ w'.cell? ⟨w.heap.size, 2, none⟩ = some (.slice (some ⟨bb, bo, none⟩) L2 cap2) ∧ w'.cell? ⟨bb, bo + k * 4, none⟩ = some (.int .i64 z0) ∧ w'.cell? ⟨bb, bo + k * 4 + 1, none⟩ = some (.int .i64 z1) ∧ w'.cell? ⟨bb, bo + k * 4 + 2, none⟩ = some (.int .i64 z2) ∧ w'.cell? ⟨bb, bo + k * 4 + 3, none⟩ = some (.int .i64 z3))) := Lib.hid (fun w' hX => ⟨hX, keep1 p2 hX, keep1 n0 hX, keep1 n1 hX, keep1 n2 hX, keep1 n3 hX⟩)
        go_region_held3 (fun w' => Below wr.heap.size wr w' ∧ w'.cell? ⟨w.heap.size, 2, none⟩ = some (.slice (some ⟨bb, bo, none⟩) L2 cap2) ∧ w'.cell? ⟨bb, bo + k * 4, none⟩ = some (.int .i64 z0) ∧ w'.cell? ⟨bb, bo + k * 4 + 1, none⟩ = some (.int .i64 z1) ∧ w'.cell? ⟨bb, bo + k * 4 + 2, none⟩ = some (.int .i64 z2) ∧ w'.cell? ⟨bb, bo + k * 4 + 3, none⟩ = some (.int .i64 z3))
          (first | ((with_reducible refine KKb.out _ ?_); (repeat (first | with_reducible refine bel_drew ?_ | with_reducible refine bel_alloc ?_)); first | with_reducible exact hBb2 | with_reducible exact hBb1 | with_reducible exact hBb0))
          (first | (go_at_call 41; have hp := hBb1; refine (num_ref' z3 Rb1 HRb1.out _ HFb1.out).mono ?_; rintro e vb2 ⟨rfl, hrb2⟩; have hBb2 : Below wr.heap.size wr vb2 := below_step (by (repeat (first | with_reducible refine bel_drew ?_ | with_reducible refine bel_alloc ?_)); with_reducible exact hp) hrb2) | (go_at_call 42; have hp := hBb0; refine (sub_ref' tid_ref _ [.int .i64 z0, .int .i64 z1, .int .i64 z2] _ Rb0 HRb0.out _ (HHsb0.out.below (by (repeat (first | with_reducible refine bel_drew ?_ | with_reducible refine bel_alloc ?_)); with_reducible exact hp)) HOb0.out HLnb0.out).mono ?_; rintro e vb1 ⟨rfl, hrb1⟩; have hBb1 : Below wr.heap.size wr vb1 := below_step (by (repeat (first | with_reducible refine bel_drew ?_ | with_reducible refine bel_alloc ?_)); with_reducible exact hp) hrb1))
        all_goals
          go_wp2_with fail
          go_roundw
          case rel =>
            refine ⟨k + 1, by go_num, by omega, ?_, below_step HBb.out hBb2⟩
            rw [encs_snoc _ y2 k _ HZ.out, ← List.append_assoc, HPq.out]
            exact congrArg (fun l => Value.string (mkb l)) HPEz.out.symm
          case measure => simp [intOf]; omega
      · obtain rfl : k = L2 := by omega
        obtain ⟨Pz, hPz⟩ : ∃ P, Pa2 ++ encs tRecord.cod (y2.take k) = P := ⟨_, rfl⟩
        have hPz2 : Pa2 ++ encs tRecord.cod y2 = Pz := by rw [← hPz, ← HL2.out, List.take_length]
        obtain ⟨Rl, hRl⟩ : ∃ R, num (L3 : Int) = R := ⟨_, rfl⟩
        obtain ⟨Pl, hPl⟩ : ∃ P, Pz ++ Rl = P := ⟨_, rfl⟩
        have hF2 : Pl ++ encs tTid.cod y3 ++ num y4 = F := by rw [← HF1.out, hPz2, hRl, hPl]
        have hz0 : Pz.length + Rl.length ≤ 68719476736 := by have h3 := HLF.out; rw [← hF2, ← hPl] at h3; simp only [List.length_append] at h3; omega
        have sal : ¬ 9223372036854775807 < (mkb Pz).size + (mkb Rl).size := by simp only [mkb_size]; omega
        have scl : mkb Pz ++ mkb Rl = mkb Pl := by rw [mkb_append, hPl]
        have HF2 := Lib.hid hF2
        have HRl := Lib.hid hRl
        rw [hPz]
        clear hPz hPz2 hRl hPl hF2
        go_wp2_with fail
        refine (num_ref' _ Rl HRl.out _ ⟨by omega, by omega⟩).mono ?_
        rintro e wl ⟨rfl, hrl⟩
        have HBl := Lib.hid (below_step HBb.out hrl)
        clear hrl p0 p1 p2 p3 p4
        go_wp2_with fail
        go_loopw [3, 5] (fun v3 v5 wr => ∃ k : Nat, v5 = .int .i64 (k : Int) ∧ k ≤ L3 ∧ v3 = .string (mkb (Pl ++ encs tTid.cod (y3.take k))) ∧ Below wb.heap.size wb wr) (fun _ v5 _ => L3 - (intOf v5).toNat)
        case atStart => exact ⟨0, rfl, by omega, by simp [encs], HBl.out⟩
        case round =>
          obtain ⟨j, rfl, hkc, rfl, hbc⟩ := hrel
          have p0 := keep1 Q0.out hbc
          have p1 := keep1 Q1.out hbc
          have p2 := keep1 Q2.out hbc
          have p3 := keep1 Q3.out hbc
          have p4 := keep1 Q4.out hbc
          have HBc := Lib.hid hbc
          have HXc := Lib.hid (below_step HBB.out hbc)
          clear hbc
          by_cases hltc : j < L3
          · obtain ⟨z, hz⟩ : ∃ z, y3[j]? = some z := ⟨_, List.getElem?_eq_getElem (by rw [HL3.out]; exact hltc)⟩
            obtain ⟨bb, bo, ds, rfl, hokb, hHz, hds⟩ := HR3.out.list_at hz
            have hzok := HK3.out _ (List.mem_of_getElem? hz)
            have hsz2 := encs_take_le tTid.cod y3 (j + 1)
            rw [encs_snoc _ y3 j z hz] at hsz2
            obtain ⟨x0, x1, x2, rfl⟩ : ∃ (x0 : Int) (x1 : Int) (x2 : Int), z = (x0, (x1, x2)) := by
              obtain ⟨x0, ⟨x1, x2⟩⟩ := z
              exact ⟨_, _, _, rfl⟩
            have HHsc0 := Lib.hid (hHz.below HXc.out)
            obtain ⟨cac1, cbc1, rfl, hac1, hbc1⟩ := Holds.pair_cell hHz
            obtain rfl := Holds.int_cell hac1
            obtain ⟨cac2, cbc2, rfl, hac2, hbc2⟩ := Holds.pair_cell hbc1
            obtain rfl := Holds.int_cell hac2
            obtain rfl := Holds.int_cell hbc2
            have n0 := keep1 (show w.cell? ⟨bb, bo + j * 3, none⟩ = some (.int .i64 x0) from hds 0 _ rfl) HXc.out
            have n1 := keep1 (show w.cell? ⟨bb, bo + j * 3 + 1, none⟩ = some (.int .i64 x1) from hds 1 _ rfl) HXc.out
            have n2 := keep1 (show w.cell? ⟨bb, bo + j * 3 + 2, none⟩ = some (.int .i64 x2) from hds 2 _ rfl) HXc.out
            obtain ⟨Pq, hPq⟩ : ∃ P, Pl ++ encs tTid.cod (y3.take j) = P := ⟨_, rfl⟩
            rw [hPq]
            have hEE : Pq ++ tTid.cod.enc (x0, (x1, x2)) = Pq ++ (tTid.cod.enc (x0, (x1, x2))) := by
              have h1 : tTid.cod.enc (x0, (x1, x2)) = (num x0 ++ (num x1 ++ num x2)) := rfl
              rfl
              all_goals simp only [List.append_assoc, List.flatMap_cons, List.flatMap_nil, List.append_nil]
            have htot : (Pq ++ (tTid.cod.enc (x0, (x1, x2)))).length ≤ 68719476736 := by
              rw [← hEE, ← hPq]
              have h3 := HLF.out
              rw [← HF2.out] at h3
              have h4 : (encs tTid.cod (y3.take j) ++ tTid.cod.enc (x0, (x1, x2))).length ≤ (encs tTid.cod y3).length := hsz2
              simp only [List.length_append] at h3 h4 ⊢
              omega
            obtain ⟨Rc0, hRc0⟩ : ∃ R, tTid.cod.enc (x0, (x1, x2)) = R := ⟨_, rfl⟩
            obtain ⟨Pc0, hPc0⟩ : ∃ P, Pq ++ Rc0 = P := ⟨_, rfl⟩
            have hEc : Pc0 = Pq ++ (tTid.cod.enc (x0, (x1, x2))) := by rw [← hPc0, ← hRc0]
            have hlc1 : Pc0.length ≤ 68719476736 := by rw [hEc]; exact htot
            have hlc0 : Pq.length + Rc0.length ≤ 68719476736 := by rw [← List.length_append, hPc0]; exact hlc1
            have HOc0 := Lib.hid (show tTid.cod.ok (x0, (x1, x2)) from hzok)
            have HLnc0 := Lib.hid (show (tTid.cod.enc (x0, (x1, x2))).length ≤ 68719476736 by rw [hRc0]; omega)
            have sac0 : ¬ 9223372036854775807 < (mkb Pq).size + (mkb Rc0).size := by simp only [mkb_size]; omega
            have scc0 : mkb Pq ++ mkb Rc0 = mkb Pc0 := by rw [mkb_append, hPc0]
            have HRc0 := Lib.hid hRc0
            have HEc := Lib.hid hEc
            clear hEc hRc0 hPc0
            have hPE : Pq ++ tTid.cod.enc (x0, (x1, x2)) = Pc0 := by rw [HEc.out] <;> exact hEE
            have hbbx : bb < wr.heap.size := World.block_lt_of_cell? wr _ n0
            have HZ := Lib.hid hz
            have HPEz := Lib.hid hPE
            have HPq := Lib.hid hPq
            clear hds hz hsz2 hzok hEE htot hPE hPq hokb hHz hac1 hbc1 hac2 hbc2
            have c0 : (0 : Int) ≤ (j : Int) := by omega
            have c1 : (j : Int) < (L3 : Int) := by omega
            go_wp2_with fail
            refine (sub_ref' tid_ref _ [.int .i64 x0, .int .i64 x1, .int .i64 x2] _ Rc0 HRc0.out _ HHsc0.out HOc0.out HLnc0.out).mono ?_
            rintro e wt ⟨rfl, hrt⟩
            go_wp2_with fail
            go_roundw
            case rel =>
              refine ⟨j + 1, by go_num, by omega, ?_, below_step HBc.out hrt⟩
              rw [encs_snoc _ y3 j _ HZ.out, ← List.append_assoc, HPq.out]
              exact congrArg (fun l => Value.string (mkb l)) HPEz.out.symm
            case measure => simp [intOf]; omega
          · obtain rfl : j = L3 := by omega
            obtain ⟨Pz, hPz⟩ : ∃ P, Pl ++ encs tTid.cod (y3.take j) = P := ⟨_, rfl⟩
            have hPz2 : Pl ++ encs tTid.cod y3 = Pz := by rw [← hPz, ← HL3.out, List.take_length]
            obtain ⟨Rh, hRh⟩ : ∃ R, num y4 = R := ⟨_, rfl⟩
            have hF3 : Pz ++ Rh = F := by rw [← HF2.out, hPz2, hRh]
            have hz1 : Pz.length + Rh.length ≤ 68719476736 := by have h3 := HLF.out; rw [← hF3, List.length_append] at h3; exact h3
            have sah : ¬ 9223372036854775807 < (mkb Pz).size + (mkb Rh).size := by simp only [mkb_size]; omega
            have sch : mkb Pz ++ mkb Rh = mkb F := by rw [mkb_append, hF3]
            have HRh := Lib.hid hRh
            rw [hPz]
            clear hPz hPz2 hRh hF3
            go_wp2_with fail
            refine (num_ref' _ Rh HRh.out _ HF4.out).mono ?_
            rintro e wh ⟨rfl, hrh⟩
            go_wp2_with fail
            go_ret
            exact ⟨rfl, below_step HXc.out hrh⟩
theorem state_ref (x : tState.T) (cs : List Value) (ok : Nat → Prop) (w : World) (hH : Holds w ok tState x cs) (hok : tState.cod.ok x) (hlen : (tState.cod.enc x).length ≤ 68719476736) :
    Calls Try.prog 19 #[.agg cs.toArray] w fun e w' => e = .returned (.string (mkb (tState.cod.enc x))) ∧ Below w.heap.size w w' := by
  obtain ⟨y0, ⟨y1, ⟨y2, ⟨y3, y4⟩⟩⟩⟩ := x
  exact state_refL y0 y1 y2 y3 y4 cs ok w hH hok hlen
end Go.Proofs.Ytlcgkcmicklihaa.Wire
