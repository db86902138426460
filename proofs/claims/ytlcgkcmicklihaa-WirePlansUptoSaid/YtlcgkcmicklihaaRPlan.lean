/- The reference over the state of the board. -/
import Derived.Test.YtlcgkcmicklihaaRDdl
import Derived.Test.YtlcgkcmicklihaaWide
import Derived.Test.YtlcgkcmicklihaaHPlan
namespace Go.Proofs.Ytlcgkcmicklihaa.Wire
set_option linter.unusedVariables false
set_option linter.unusedSimpArgs false
open Go.RowKit Go.Proofs.YtlcgkcmicklihaaW.PrintWords Go.Proofs.YtlcgkcmicklihaaW.PrintLast Go.Proofs.YtlcgkcmicklihaaW.PrintMore
def tSchema : Ty := .pair (ints 1) (.list tTable)
set_option maxRecDepth 100000 in
set_option maxHeartbeats 16000000 in
theorem schema_refL (y0 : Int) (y1 : Int) (y2 : List tTable.T) (cs : List Value) (ok : Nat → Prop) (w : World) (hH : Holds w ok tSchema ((y0, y1), y2) cs) (hok : tSchema.cod.ok ((y0, y1), y2)) (hlen : (tSchema.cod.enc ((y0, y1), y2)).length ≤ 68719476736) :
    Calls Try.prog 52 #[.agg cs.toArray] w fun e w' => e = .returned (.string (mkb (tSchema.cod.enc ((y0, y1), y2)))) ∧ Below w.heap.size w w' := by
  obtain ⟨ca1, cb1, rfl, ha1, hb1⟩ := Holds.pair_cell hH
  obtain ⟨ca2, cb2, rfl, ha2, hb2⟩ := Holds.pair_cell ha1
  obtain rfl := Holds.int_cell ha2
  obtain rfl := Holds.int_cell hb2
  obtain ⟨A2, cap2, rfl, hh2⟩ := Holds.list_cell hb1
  clear ha1 ha2 hb2 hb1
  obtain ⟨L2, hL2⟩ : ∃ n, y2.length = n := ⟨_, rfl⟩
  have hm2 : y2.length ≤ 9223372036854775807 := hok.2.1
  have hk2 := hok.2.2
  rw [hL2] at hh2 hm2
  have hE0 : tSchema.cod.enc ((y0, y1), y2) = [y0, y1].flatMap num ++ num (L2 : Int) ++ encs tTable.cod y2 := by
    have h1 : tSchema.cod.enc ((y0, y1), y2) = ((num y0 ++ num y1) ++ (Ty.list tTable).cod.enc y2) := rfl
    have h2 : (Ty.list tTable).cod.enc y2 = num (y2.length : Int) ++ encs tTable.cod y2 := rfl
    rw [h1, h2, hL2]
    simp only [List.append_assoc, List.flatMap_cons, List.flatMap_nil, List.append_nil]
  rw [hE0] at hlen
  rw [hE0]
  obtain ⟨F, hF⟩ : ∃ F, [y0, y1].flatMap num ++ num (L2 : Int) ++ encs tTable.cod y2 = F := ⟨_, rfl⟩
  have hlf : F.length ≤ 68719476736 := by rw [← hF]; exact hlen
  rw [hF]
  rw [hL2]
  obtain ⟨wb, hwb⟩ : ∃ wb, w.alloc (.cells #[.int .i64 y0, .int .i64 y1, .slice A2 L2 cap2] 76) = wb := ⟨_, rfl⟩
  have hbb : Below w.heap.size w wb := by rw [← hwb]; exact (Below.refl _ _).alloc (Nat.le_refl _) _
  have q0 : wb.cell? ⟨w.heap.size, 0, none⟩ = some (.int .i64 y0) := by rw [← hwb]; exact (blk_cell (blk_new w _) 0).trans rfl
  have q1 : wb.cell? ⟨w.heap.size, 1, none⟩ = some (.int .i64 y1) := by rw [← hwb]; exact (blk_cell (blk_new w _) 1).trans rfl
  have q2 : wb.cell? ⟨w.heap.size, 2, none⟩ = some (.slice A2 L2 cap2) := by rw [← hwb]; exact (blk_cell (blk_new w _) 2).trans rfl
  have hNb : w.heap.size < wb.heap.size := by rw [← hwb]; simp
  obtain ⟨Ra0, hRa0⟩ : ∃ R, [y0, y1].flatMap num = R := ⟨_, rfl⟩
  obtain ⟨Ra1, hRa1⟩ : ∃ R, num (L2 : Int) = R := ⟨_, rfl⟩
  obtain ⟨Pa1, hPa1⟩ : ∃ P, Ra0 ++ Ra1 = P := ⟨_, rfl⟩
  have hEa : Pa1 = ([y0, y1].flatMap num) ++ (num (L2 : Int)) := by rw [← hPa1, ← hRa0, ← hRa1]
  have hla2 : Pa1.length ≤ 68719476736 := by rw [hEa]; have h3 := hlf; rw [← hF] at h3; simp only [List.length_append] at h3 ⊢; omega
  have hla1 : Ra0.length + Ra1.length ≤ 68719476736 := by rw [← List.length_append, hPa1]; exact hla2
  have HFa0 := Lib.hid (show ∀ n ∈ [y0, y1], Fits n from fits_cons hok.1.1 (fits_cons hok.1.2 (fits_nil)))
  have HFa1 := Lib.hid (show Fits (L2 : Int) from ⟨by omega, by omega⟩)
  have saa1 : ¬ 9223372036854775807 < (mkb Ra0).size + (mkb Ra1).size := by simp only [mkb_size]; omega
  have sca1 : mkb Ra0 ++ mkb Ra1 = mkb Pa1 := by rw [mkb_append, hPa1]
  have HRa0 := Lib.hid hRa0
  have HRa1 := Lib.hid hRa1
  have HEa := Lib.hid hEa
  clear hEa hRa0 hRa1 hPa1
  have hF1 : Pa1 ++ encs tTable.cod y2 = F := by rw [HEa.out]; exact hF
  have hT1 : (Pa1 ++ encs tTable.cod y2).length ≤ 68719476736 := by rw [hF1]; exact hlf
  have HBB := Lib.hid hbb
  have HF1 := Lib.hid hF1
  have HT1 := Lib.hid hT1
  have HK2 := Lib.hid hk2
  have HL2 := Lib.hid hL2
  have HR2 := Lib.hid hh2
  clear hbb hF1 hT1 hF hE0 hk2 hL2 hh2 hlf hlen hok
  show Calls Try.prog 52 #[.agg #[.int .i64 y0, .int .i64 y1, .slice A2 L2 cap2]] w _
  go_enter Try.func52, Try.ntmps52
  go_wp2_with fail
  clear hwb
  have Q0 := Lib.hid q0
  have Q1 := Lib.hid q1
  have Q2 := Lib.hid q2
  have hBa0 : Below wb.heap.size wb wb := Below.refl _ _
  have KKa : Hid (∀ w', Below wb.heap.size wb w' → (Below wb.heap.size wb w' ∧ w'.cell? ⟨w.heap.size, 0, none⟩ = some (.int .i64 y0) ∧ w'.cell? ⟨w.heap.size, 1, none⟩ = some (.int .i64 y1) ∧ w'.cell? ⟨w.heap.size, 2, none⟩ = some (.slice A2 L2 cap2))) := Lib.hid (fun w' hX => ⟨hX, keep1 q0 hX, keep1 q1 hX, keep1 q2 hX⟩)
  go_region_held3 (fun w' => Below wb.heap.size wb w' ∧ w'.cell? ⟨w.heap.size, 0, none⟩ = some (.int .i64 y0) ∧ w'.cell? ⟨w.heap.size, 1, none⟩ = some (.int .i64 y1) ∧ w'.cell? ⟨w.heap.size, 2, none⟩ = some (.slice A2 L2 cap2))
    (first | ((with_reducible refine KKa.out _ ?_); (repeat (first | with_reducible refine bel_drew ?_ | with_reducible refine bel_alloc ?_)); first | with_reducible exact hBa2 | with_reducible exact hBa1 | with_reducible exact hBa0))
    (first | (go_at_call 41; have hp := hBa1; refine (num_ref' (L2 : Int) Ra1 HRa1.out _ HFa1.out).mono ?_; rintro e va2 ⟨rfl, hra2⟩; have hBa2 : Below wb.heap.size wb va2 := below_step (by (repeat (first | with_reducible refine bel_drew ?_ | with_reducible refine bel_alloc ?_)); with_reducible exact hp) hra2) | (go_at_call 29; have hp := hBa0; refine (nums_at [y0, y1] Ra0 HRa0.out 2 rfl _ 2 _ (by decide) HFa0.out (by repeat (first | ((with_reducible refine rowB ?_ ?_); rfl; (first | (with_reducible rfl) | (simp; done)); done) | with_reducible refine row_drew ?_ | with_reducible refine row_alloc ?_ | with_reducible refine row_below hra2 ?_ | with_reducible refine row_below hra1 ?_))).mono ?_; rintro e va1 ⟨rfl, hra1⟩; have hBa1 : Below wb.heap.size wb va1 := below_step (by (repeat (first | with_reducible refine bel_drew ?_ | with_reducible refine bel_alloc ?_)); with_reducible exact hp) hra1))
  all_goals
    have HBa := Lib.hid hBa2
    clear q0 q1 q2
    go_wp2_with fail
    go_loopw [3, 4] (fun v3 v4 wr => ∃ kb : Nat, v4 = .int .i64 (kb : Int) ∧ kb ≤ L2 ∧ v3 = .string (mkb (Pa1 ++ encs tTable.cod (y2.take kb))) ∧ Below wb.heap.size wb wr) (fun _ v4 _ => L2 - (intOf v4).toNat)
    case atStart => exact ⟨0, rfl, by omega, by simp [encs], HBa.out⟩
    case round =>
      obtain ⟨kb, rfl, hkb, rfl, hbb⟩ := hrel
      have p2 := keep1 Q2.out hbb
      have HBb := Lib.hid hbb
      have HXb := Lib.hid (below_step HBB.out hbb)
      clear hbb
      by_cases hltb : kb < L2
      · obtain ⟨z, hz⟩ : ∃ z, y2[kb]? = some z := ⟨_, List.getElem?_eq_getElem (by rw [HL2.out]; exact hltb)⟩
        obtain ⟨bb, bo, ds, rfl, hokb, hHz, hds⟩ := HR2.out.list_at hz
        have hzok := HK2.out _ (List.mem_of_getElem? hz)
        have hsz2 := encs_take_le tTable.cod y2 (kb + 1)
        rw [encs_snoc _ y2 kb z hz] at hsz2
        obtain ⟨z0, z1, z2, z3, z4, rfl⟩ : ∃ (z0 : Int) (z1 : ByteArray) (z2 : List tColumn.T) (z3 : List tIndex.T) (z4 : List tForeign.T), z = (z0, (z1, (z2, (z3, z4)))) := by
          obtain ⟨z0, ⟨z1, ⟨z2, ⟨z3, z4⟩⟩⟩⟩ := z
          exact ⟨_, _, _, _, _, rfl⟩
        obtain ⟨cab1, cbb1, rfl, hab1, hbb1⟩ := Holds.pair_cell hHz
        obtain rfl := Holds.int_cell hab1
        obtain ⟨cab2, cbb2, rfl, hab2, hbb2⟩ := Holds.pair_cell hbb1
        obtain rfl := Holds.str_cell hab2
        obtain ⟨cab3, cbb3, rfl, hab3, hbb3⟩ := Holds.pair_cell hbb2
        obtain ⟨Az2, capz2, rfl, hhz2⟩ := Holds.list_cell hab3
        obtain ⟨cab4, cbb4, rfl, hab4, hbb4⟩ := Holds.pair_cell hbb3
        obtain ⟨Az3, capz3, rfl, hhz3⟩ := Holds.list_cell hab4
        obtain ⟨Az4, capz4, rfl, hhz4⟩ := Holds.list_cell hbb4
        have nb0 := keep1 (show w.cell? ⟨bb, bo + kb * 5, none⟩ = some (.int .i64 z0) from hds 0 _ rfl) HXb.out
        have nb1 := keep1 (show w.cell? ⟨bb, bo + kb * 5 + 1, none⟩ = some (.string z1) from hds 1 _ rfl) HXb.out
        have nb2 := keep1 (show w.cell? ⟨bb, bo + kb * 5 + 2, none⟩ = some (.slice Az2 z2.length capz2) from hds 2 _ rfl) HXb.out
        have nb3 := keep1 (show w.cell? ⟨bb, bo + kb * 5 + 3, none⟩ = some (.slice Az3 z3.length capz3) from hds 3 _ rfl) HXb.out
        have nb4 := keep1 (show w.cell? ⟨bb, bo + kb * 5 + 4, none⟩ = some (.slice Az4 z4.length capz4) from hds 4 _ rfl) HXb.out
        obtain ⟨I3, hI3⟩ : ∃ n, z3.length = n := ⟨_, rfl⟩
        have hmz3 : z3.length ≤ 9223372036854775807 := hzok.2.2.2.1.1
        have HKz3 := Lib.hid hzok.2.2.2.1.2
        rw [hI3] at nb3 hhz3 hmz3
        obtain ⟨I4, hI4⟩ : ∃ n, z4.length = n := ⟨_, rfl⟩
        have hmz4 : z4.length ≤ 9223372036854775807 := hzok.2.2.2.2.1
        have HKz4 := Lib.hid hzok.2.2.2.2.2
        rw [hI4] at nb4 hhz4 hmz4
        obtain ⟨Pqb, hPqb⟩ : ∃ P, Pa1 ++ encs tTable.cod (y2.take kb) = P := ⟨_, rfl⟩
        rw [hPqb]
        have hEE : Pqb ++ tTable.cod.enc (z0, (z1, (z2, (z3, z4)))) = Pqb ++ (num z0) ++ (cStr.enc z1) ++ ((Ty.list tColumn).cod.enc z2) ++ (num (I3 : Int)) ++ encs tIndex.cod z3 ++ num (I4 : Int) ++ encs tForeign.cod z4 := by
          have h1 : tTable.cod.enc (z0, (z1, (z2, (z3, z4)))) = (num z0 ++ (cStr.enc z1 ++ ((Ty.list tColumn).cod.enc z2 ++ ((Ty.list tIndex).cod.enc z3 ++ (Ty.list tForeign).cod.enc z4)))) := rfl
          rw [h1]
          have h2 : (Ty.list tIndex).cod.enc z3 = num (z3.length : Int) ++ encs tIndex.cod z3 := rfl
          have h3 : (Ty.list tForeign).cod.enc z4 = num (z4.length : Int) ++ encs tForeign.cod z4 := rfl
          rw [h2, h3, hI3, hI4]
          simp only [List.append_assoc, List.flatMap_cons, List.flatMap_nil, List.append_nil]
        have htot : (Pqb ++ (num z0) ++ (cStr.enc z1) ++ ((Ty.list tColumn).cod.enc z2) ++ (num (I3 : Int)) ++ encs tIndex.cod z3 ++ num (I4 : Int) ++ encs tForeign.cod z4).length ≤ 68719476736 := by
          rw [← hEE, ← hPqb]
          have h3 := HT1.out
          have h4 : (encs tTable.cod (y2.take kb) ++ tTable.cod.enc (z0, (z1, (z2, (z3, z4))))).length ≤ (encs tTable.cod y2).length := hsz2
          simp only [List.length_append] at h3 h4 ⊢
          omega
        obtain ⟨Rb0, hRb0⟩ : ∃ R, num z0 = R := ⟨_, rfl⟩
        obtain ⟨Rb1, hRb1⟩ : ∃ R, cStr.enc z1 = R := ⟨_, rfl⟩
        obtain ⟨Rb2, hRb2⟩ : ∃ R, (Ty.list tColumn).cod.enc z2 = R := ⟨_, rfl⟩
        obtain ⟨Rb3, hRb3⟩ : ∃ R, num (I3 : Int) = R := ⟨_, rfl⟩
        obtain ⟨Pb0, hPb0⟩ : ∃ P, Pqb ++ Rb0 = P := ⟨_, rfl⟩
        obtain ⟨Pb1, hPb1⟩ : ∃ P, Pb0 ++ Rb1 = P := ⟨_, rfl⟩
        obtain ⟨Pb2, hPb2⟩ : ∃ P, Pb1 ++ Rb2 = P := ⟨_, rfl⟩
        obtain ⟨Pb3, hPb3⟩ : ∃ P, Pb2 ++ Rb3 = P := ⟨_, rfl⟩
        have hEb : Pb3 = Pqb ++ (num z0) ++ (cStr.enc z1) ++ ((Ty.list tColumn).cod.enc z2) ++ (num (I3 : Int)) := by rw [← hPb3, ← hPb2, ← hPb1, ← hPb0, ← hRb0, ← hRb1, ← hRb2, ← hRb3]
        have hlb4 : Pb3.length ≤ 68719476736 := by rw [hEb]; have h3 := htot; simp only [List.length_append] at h3 ⊢; omega
        have hlb3 : Pb2.length + Rb3.length ≤ 68719476736 := by rw [← List.length_append, hPb3]; exact hlb4
        have hlb2 : Pb1.length + Rb2.length ≤ 68719476736 := by rw [← List.length_append, hPb2]; omega
        have hlb1 : Pb0.length + Rb1.length ≤ 68719476736 := by rw [← List.length_append, hPb1]; omega
        have hlb0 : Pqb.length + Rb0.length ≤ 68719476736 := by rw [← List.length_append, hPb0]; omega
        have HFb0 := Lib.hid (show Fits z0 from hzok.1)
        have hsb1 : z1.size ≤ 281474976710656 := str_size hRb1 (by omega)
        have HOb2 := Lib.hid hzok.2.2.1
        have HLnb2 := Lib.hid (show ((Ty.list tColumn).cod.enc z2).length ≤ 68719476736 by rw [hRb2]; omega)
        have hllb2 : z2.length ≤ 9223372036854775807 := hzok.2.2.1.1
        have HFb3 := Lib.hid (show Fits (I3 : Int) from ⟨by omega, by omega⟩)
        have sab0 : ¬ 9223372036854775807 < (mkb Pqb).size + (mkb Rb0).size := by simp only [mkb_size]; omega
        have scb0 : mkb Pqb ++ mkb Rb0 = mkb Pb0 := by rw [mkb_append, hPb0]
        have sab1 : ¬ 9223372036854775807 < (mkb Pb0).size + (mkb Rb1).size := by simp only [mkb_size]; omega
        have scb1 : mkb Pb0 ++ mkb Rb1 = mkb Pb1 := by rw [mkb_append, hPb1]
        have sab2 : ¬ 9223372036854775807 < (mkb Pb1).size + (mkb Rb2).size := by simp only [mkb_size]; omega
        have scb2 : mkb Pb1 ++ mkb Rb2 = mkb Pb2 := by rw [mkb_append, hPb2]
        have sab3 : ¬ 9223372036854775807 < (mkb Pb2).size + (mkb Rb3).size := by simp only [mkb_size]; omega
        have scb3 : mkb Pb2 ++ mkb Rb3 = mkb Pb3 := by rw [mkb_append, hPb3]
        have HRb0 := Lib.hid hRb0
        have HRb1 := Lib.hid hRb1
        have HRb2 := Lib.hid hRb2
        have HRb3 := Lib.hid hRb3
        have HEb := Lib.hid hEb
        clear hEb hRb0 hPb0 hRb1 hPb1 hRb2 hPb2 hRb3 hPb3
        have hPE : Pqb ++ tTable.cod.enc (z0, (z1, (z2, (z3, z4)))) = Pb3 ++ encs tIndex.cod z3 ++ num (I4 : Int) ++ encs tForeign.cod z4 := by rw [HEb.out]; exact hEE
        have HZb := Lib.hid hz
        have HPEb := Lib.hid hPE
        have HPqb := Lib.hid hPqb
        have HTTb := Lib.hid htot
        clear hds hz hsz2 hEE htot hPE hPqb hokb hHz hab1 hbb1 hab2 hbb2 hab3 hbb3 hab4 hbb4
        have HIz3 := Lib.hid hI3
        have HRz3 := Lib.hid hhz3
        have HIz4 := Lib.hid hI4
        have HRz4 := Lib.hid hhz4
        have HTTi : Hid ((Pb3 ++ encs tIndex.cod z3 ++ num (I4 : Int) ++ encs tForeign.cod z4).length ≤ 68719476736) := Lib.hid (by rw [HEb.out]; exact HTTb.out)
        clear hI3 hI4 hhz3 hhz4 hzok
        clear HTTb
        have c0b : (0 : Int) ≤ (kb : Int) := by omega
        have c1b : (kb : Int) < (L2 : Int) := by omega
        have hbw : Below wr.heap.size wr (wr.alloc (.cells #[.int .i64 z0, .string z1, .slice Az2 z2.length capz2, .slice Az3 I3 capz3, .slice Az4 I4 capz4] 84)) := (Below.refl _ _).alloc (Nat.le_refl _) _
        have hkk := blk_new wr (.cells #[.int .i64 z0, .string z1, .slice Az2 z2.length capz2, .slice Az3 I3 capz3, .slice Az4 I4 capz4] 84)
        obtain ⟨wcb, hwc⟩ : ∃ wc, wr.alloc (.cells #[.int .i64 z0, .string z1, .slice Az2 z2.length capz2, .slice Az3 I3 capz3, .slice Az4 I4 capz4] 84) = wc := ⟨_, rfl⟩
        obtain ⟨tbb, htb⟩ : ∃ n, wr.heap.size = n := ⟨_, rfl⟩
        have HBwb := Lib.hid (below_step HBb.out hbw)
        rw [hwc, htb] at hkk
        rw [hwc] at HBwb
        have xb0 : wcb.cell? ⟨tbb, 0, none⟩ = some (.int .i64 z0) := (blk_cell hkk 0).trans rfl
        have xb1 : wcb.cell? ⟨tbb, 1, none⟩ = some (.string z1) := (blk_cell hkk 1).trans rfl
        have xb2 : wcb.cell? ⟨tbb, 2, none⟩ = some (.slice Az2 z2.length capz2) := (blk_cell hkk 2).trans rfl
        have xb3 : wcb.cell? ⟨tbb, 3, none⟩ = some (.slice Az3 I3 capz3) := (blk_cell hkk 3).trans rfl
        have xb4 : wcb.cell? ⟨tbb, 4, none⟩ = some (.slice Az4 I4 capz4) := (blk_cell hkk 4).trans rfl
        have Qb0 := Lib.hid xb0
        have Qb1 := Lib.hid xb1
        have Qb2 := Lib.hid xb2
        have Qb3 := Lib.hid xb3
        have Qb4 := Lib.hid xb4
        have HXwb := Lib.hid (below_step HBB.out HBwb.out)
        have HWC := Lib.hid hwc
        have HTB := Lib.hid htb
        clear hbw hkk hwc htb
        have HHlb2 := Lib.hid (hhz2.below HXwb.out)
        go_upto_region 6 with fail
        rw [HWC.out, HTB.out]
        clear HWC HTB nb0 nb1 nb2 nb3 nb4 p2
        have hBb0 : Below wcb.heap.size wcb wcb := Below.refl _ _
        have KKb : Hid (∀ w', Below wcb.heap.size wcb w' → (Below wcb.heap.size wcb w' ∧ w'.cell? ⟨tbb, 0, none⟩ = some (.int .i64 z0) ∧ w'.cell? ⟨tbb, 1, none⟩ = some (.string z1) ∧ w'.cell? ⟨tbb, 2, none⟩ = some (.slice Az2 z2.length capz2) ∧ w'.cell? ⟨tbb, 3, none⟩ = some (.slice Az3 I3 capz3) ∧ w'.cell? ⟨tbb, 4, none⟩ = some (.slice Az4 I4 capz4))) := Lib.hid (fun w' hX => ⟨hX, keep1 xb0 hX, keep1 xb1 hX, keep1 xb2 hX, keep1 xb3 hX, keep1 xb4 hX⟩)
        go_region_held3 (fun w' => Below wcb.heap.size wcb w' ∧ w'.cell? ⟨tbb, 0, none⟩ = some (.int .i64 z0) ∧ w'.cell? ⟨tbb, 1, none⟩ = some (.string z1) ∧ w'.cell? ⟨tbb, 2, none⟩ = some (.slice Az2 z2.length capz2) ∧ w'.cell? ⟨tbb, 3, none⟩ = some (.slice Az3 I3 capz3) ∧ w'.cell? ⟨tbb, 4, none⟩ = some (.slice Az4 I4 capz4))
          (first | ((with_reducible refine KKb.out _ ?_); (repeat (first | with_reducible refine bel_drew ?_ | with_reducible refine bel_alloc ?_)); first | with_reducible exact hBb4 | with_reducible exact hBb3 | with_reducible exact hBb2 | with_reducible exact hBb1 | with_reducible exact hBb0))
          (first | (go_at_call 41; have hp := hBb3; refine (num_ref' (I3 : Int) Rb3 HRb3.out _ HFb3.out).mono ?_; rintro e vb4 ⟨rfl, hrb4⟩; have hBb4 : Below wcb.heap.size wcb vb4 := below_step (by (repeat (first | with_reducible refine bel_drew ?_ | with_reducible refine bel_alloc ?_)); with_reducible exact hp) hrb4) | (go_at_call 73; have hp := hBb2; refine (list_ref' columns_all z2 _ _ _ Rb2 HRb2.out _ (HHlb2.out.below (by (repeat (first | with_reducible refine bel_drew ?_ | with_reducible refine bel_alloc ?_)); with_reducible exact hp)) HOb2.out HLnb2.out).mono ?_; rintro e vb3 ⟨rfl, hrb3⟩; have hBb3 : Below wcb.heap.size wcb vb3 := below_step (by (repeat (first | with_reducible refine bel_drew ?_ | with_reducible refine bel_alloc ?_)); with_reducible exact hp) hrb3) | (go_at_call 32; have hp := hBb1; refine (text_ref' z1 Rb1 HRb1.out _ hsb1).mono ?_; rintro e vb2 ⟨rfl, hrb2⟩; have hBb2 : Below wcb.heap.size wcb vb2 := below_step (by (repeat (first | with_reducible refine bel_drew ?_ | with_reducible refine bel_alloc ?_)); with_reducible exact hp) hrb2) | (go_at_call 41; have hp := hBb0; refine (num_ref' z0 Rb0 HRb0.out _ HFb0.out).mono ?_; rintro e vb1 ⟨rfl, hrb1⟩; have hBb1 : Below wcb.heap.size wcb vb1 := below_step (by (repeat (first | with_reducible refine bel_drew ?_ | with_reducible refine bel_alloc ?_)); with_reducible exact hp) hrb1))
        all_goals
          have HBi := Lib.hid hBb4
          clear xb0 xb1 xb2 xb3 xb4
          go_wp2_with fail
          go_loopw [3, 6] (fun v3 v6 wr => ∃ kc : Nat, v6 = .int .i64 (kc : Int) ∧ kc ≤ I3 ∧ v3 = .string (mkb (Pb3 ++ encs tIndex.cod (z3.take kc))) ∧ Below wcb.heap.size wcb wr) (fun _ v6 _ => I3 - (intOf v6).toNat)
          case atStart => exact ⟨0, rfl, by omega, by simp [encs], HBi.out⟩
          case round =>
            obtain ⟨kc, rfl, hkc, rfl, hbc⟩ := hrel
            have pb3 := keep1 Qb3.out hbc
            have pb4 := keep1 Qb4.out hbc
            have HBc := Lib.hid hbc
            have HXc := Lib.hid (below_step HXwb.out hbc)
            clear hbc
            by_cases hltc : kc < I3
            · obtain ⟨z, hz⟩ : ∃ z, z3[kc]? = some z := ⟨_, List.getElem?_eq_getElem (by rw [HIz3.out]; exact hltc)⟩
              obtain ⟨bb, bo, ds, rfl, hokb, hHz, hds⟩ := HRz3.out.list_at hz
              have hzok := HKz3.out _ (List.mem_of_getElem? hz)
              have hsz2 := encs_take_le tIndex.cod z3 (kc + 1)
              rw [encs_snoc _ z3 kc z hz] at hsz2
              obtain ⟨u0, u1, u2, u3, u4, rfl⟩ : ∃ (u0 : Int) (u1 : ByteArray) (u2 : Int) (u3 : Bool) (u4 : Int), z = (u0, (u1, (u2, (u3, u4)))) := by
                obtain ⟨u0, ⟨u1, ⟨u2, ⟨u3, u4⟩⟩⟩⟩ := z
                exact ⟨_, _, _, _, _, rfl⟩
              obtain ⟨cac1, cbc1, rfl, hac1, hbc1⟩ := Holds.pair_cell hHz
              obtain rfl := Holds.int_cell hac1
              obtain ⟨cac2, cbc2, rfl, hac2, hbc2⟩ := Holds.pair_cell hbc1
              obtain rfl := Holds.str_cell hac2
              obtain ⟨cac3, cbc3, rfl, hac3, hbc3⟩ := Holds.pair_cell hbc2
              obtain rfl := Holds.int_cell hac3
              obtain ⟨cac4, cbc4, rfl, hac4, hbc4⟩ := Holds.pair_cell hbc3
              obtain rfl := Holds.bool_cell hac4
              obtain rfl := Holds.int_cell hbc4
              have nc0 := keep1 (show w.cell? ⟨bb, bo + kc * 5, none⟩ = some (.int .i64 u0) from hds 0 _ rfl) HXc.out
              have nc1 := keep1 (show w.cell? ⟨bb, bo + kc * 5 + 1, none⟩ = some (.string u1) from hds 1 _ rfl) HXc.out
              have nc2 := keep1 (show w.cell? ⟨bb, bo + kc * 5 + 2, none⟩ = some (.int .i64 u2) from hds 2 _ rfl) HXc.out
              have nc3 := keep1 (show w.cell? ⟨bb, bo + kc * 5 + 3, none⟩ = some (.bool u3) from hds 3 _ rfl) HXc.out
              have nc4 := keep1 (show w.cell? ⟨bb, bo + kc * 5 + 4, none⟩ = some (.int .i64 u4) from hds 4 _ rfl) HXc.out
              obtain ⟨Pqc, hPqc⟩ : ∃ P, Pb3 ++ encs tIndex.cod (z3.take kc) = P := ⟨_, rfl⟩
              rw [hPqc]
              have hEE : Pqc ++ tIndex.cod.enc (u0, (u1, (u2, (u3, u4)))) = Pqc ++ (num u0) ++ (cStr.enc u1) ++ (num u2) ++ (cFlag.enc u3) ++ (num u4) := by
                have h1 : tIndex.cod.enc (u0, (u1, (u2, (u3, u4)))) = (num u0 ++ (cStr.enc u1 ++ (num u2 ++ (cFlag.enc u3 ++ num u4)))) := rfl
                rw [h1]
                simp only [List.append_assoc, List.flatMap_cons, List.flatMap_nil, List.append_nil]
              have htot : (Pqc ++ (num u0) ++ (cStr.enc u1) ++ (num u2) ++ (cFlag.enc u3) ++ (num u4)).length ≤ 68719476736 := by
                rw [← hEE, ← hPqc]
                have h3 := HTTi.out
                have h4 : (encs tIndex.cod (z3.take kc) ++ tIndex.cod.enc (u0, (u1, (u2, (u3, u4))))).length ≤ (encs tIndex.cod z3).length := hsz2
                simp only [List.length_append] at h3 h4 ⊢
                omega
              obtain ⟨Rc0, hRc0⟩ : ∃ R, num u0 = R := ⟨_, rfl⟩
              obtain ⟨Rc1, hRc1⟩ : ∃ R, cStr.enc u1 = R := ⟨_, rfl⟩
              obtain ⟨Rc2, hRc2⟩ : ∃ R, num u2 = R := ⟨_, rfl⟩
              obtain ⟨Rc3, hRc3⟩ : ∃ R, cFlag.enc u3 = R := ⟨_, rfl⟩
              obtain ⟨Rc4, hRc4⟩ : ∃ R, num u4 = R := ⟨_, rfl⟩
              obtain ⟨Pc0, hPc0⟩ : ∃ P, Pqc ++ Rc0 = P := ⟨_, rfl⟩
              obtain ⟨Pc1, hPc1⟩ : ∃ P, Pc0 ++ Rc1 = P := ⟨_, rfl⟩
              obtain ⟨Pc2, hPc2⟩ : ∃ P, Pc1 ++ Rc2 = P := ⟨_, rfl⟩
              obtain ⟨Pc3, hPc3⟩ : ∃ P, Pc2 ++ Rc3 = P := ⟨_, rfl⟩
              obtain ⟨Pc4, hPc4⟩ : ∃ P, Pc3 ++ Rc4 = P := ⟨_, rfl⟩
              have hEc : Pc4 = Pqc ++ (num u0) ++ (cStr.enc u1) ++ (num u2) ++ (cFlag.enc u3) ++ (num u4) := by rw [← hPc4, ← hPc3, ← hPc2, ← hPc1, ← hPc0, ← hRc0, ← hRc1, ← hRc2, ← hRc3, ← hRc4]
              have hlc5 : Pc4.length ≤ 68719476736 := by rw [hEc]; exact htot
              have hlc4 : Pc3.length + Rc4.length ≤ 68719476736 := by rw [← List.length_append, hPc4]; exact hlc5
              have hlc3 : Pc2.length + Rc3.length ≤ 68719476736 := by rw [← List.length_append, hPc3]; omega
              have hlc2 : Pc1.length + Rc2.length ≤ 68719476736 := by rw [← List.length_append, hPc2]; omega
              have hlc1 : Pc0.length + Rc1.length ≤ 68719476736 := by rw [← List.length_append, hPc1]; omega
              have hlc0 : Pqc.length + Rc0.length ≤ 68719476736 := by rw [← List.length_append, hPc0]; omega
              have HFc0 := Lib.hid (show Fits u0 from hzok.1)
              have hsc1 : u1.size ≤ 281474976710656 := str_size hRc1 (by omega)
              have HFc2 := Lib.hid (show Fits u2 from hzok.2.2.1)
              have HFc4 := Lib.hid (show Fits u4 from hzok.2.2.2.2)
              have sac0 : ¬ 9223372036854775807 < (mkb Pqc).size + (mkb Rc0).size := by simp only [mkb_size]; omega
              have scc0 : mkb Pqc ++ mkb Rc0 = mkb Pc0 := by rw [mkb_append, hPc0]
              have sac1 : ¬ 9223372036854775807 < (mkb Pc0).size + (mkb Rc1).size := by simp only [mkb_size]; omega
              have scc1 : mkb Pc0 ++ mkb Rc1 = mkb Pc1 := by rw [mkb_append, hPc1]
              have sac2 : ¬ 9223372036854775807 < (mkb Pc1).size + (mkb Rc2).size := by simp only [mkb_size]; omega
              have scc2 : mkb Pc1 ++ mkb Rc2 = mkb Pc2 := by rw [mkb_append, hPc2]
              have sac3 : ¬ 9223372036854775807 < (mkb Pc2).size + (mkb Rc3).size := by simp only [mkb_size]; omega
              have scc3 : mkb Pc2 ++ mkb Rc3 = mkb Pc3 := by rw [mkb_append, hPc3]
              have sac4 : ¬ 9223372036854775807 < (mkb Pc3).size + (mkb Rc4).size := by simp only [mkb_size]; omega
              have scc4 : mkb Pc3 ++ mkb Rc4 = mkb Pc4 := by rw [mkb_append, hPc4]
              have HRc0 := Lib.hid hRc0
              have HRc1 := Lib.hid hRc1
              have HRc2 := Lib.hid hRc2
              have HRc3 := Lib.hid hRc3
              have HRc4 := Lib.hid hRc4
              have HEc := Lib.hid hEc
              clear hEc hRc0 hPc0 hRc1 hPc1 hRc2 hPc2 hRc3 hPc3 hRc4 hPc4
              have hPE : Pqc ++ tIndex.cod.enc (u0, (u1, (u2, (u3, u4)))) = Pc4 := by rw [HEc.out]; exact hEE
              have HZc := Lib.hid hz
              have HPEc := Lib.hid hPE
              have HPqc := Lib.hid hPqc
              have HTTc := Lib.hid htot
              clear hds hz hsz2 hEE htot hPE hPqc hokb hHz hac1 hbc1 hac2 hbc2 hac3 hbc3 hac4 hbc4
              clear hzok
              have c0c : (0 : Int) ≤ (kc : Int) := by omega
              have c1c : (kc : Int) < (I3 : Int) := by omega
              have hbw : Below wr.heap.size wr (wr.alloc (.cells #[.int .i64 u0, .string u1, .int .i64 u2, .bool u3, .int .i64 u4] 202)) := (Below.refl _ _).alloc (Nat.le_refl _) _
              have hkk := blk_new wr (.cells #[.int .i64 u0, .string u1, .int .i64 u2, .bool u3, .int .i64 u4] 202)
              obtain ⟨wcc, hwc⟩ : ∃ wc, wr.alloc (.cells #[.int .i64 u0, .string u1, .int .i64 u2, .bool u3, .int .i64 u4] 202) = wc := ⟨_, rfl⟩
              obtain ⟨tbc, htb⟩ : ∃ n, wr.heap.size = n := ⟨_, rfl⟩
              have HBwc := Lib.hid (below_step HBc.out hbw)
              rw [hwc, htb] at hkk
              rw [hwc] at HBwc
              have xc0 : wcc.cell? ⟨tbc, 0, none⟩ = some (.int .i64 u0) := (blk_cell hkk 0).trans rfl
              have xc1 : wcc.cell? ⟨tbc, 1, none⟩ = some (.string u1) := (blk_cell hkk 1).trans rfl
              have xc2 : wcc.cell? ⟨tbc, 2, none⟩ = some (.int .i64 u2) := (blk_cell hkk 2).trans rfl
              have xc3 : wcc.cell? ⟨tbc, 3, none⟩ = some (.bool u3) := (blk_cell hkk 3).trans rfl
              have xc4 : wcc.cell? ⟨tbc, 4, none⟩ = some (.int .i64 u4) := (blk_cell hkk 4).trans rfl
              have Qc0 := Lib.hid xc0
              have Qc1 := Lib.hid xc1
              have Qc2 := Lib.hid xc2
              have Qc3 := Lib.hid xc3
              have Qc4 := Lib.hid xc4
              have HXwc := Lib.hid (below_step HXwb.out HBwc.out)
              have HWC := Lib.hid hwc
              have HTB := Lib.hid htb
              clear hbw hkk hwc htb
              go_upto_region 11 with fail
              rw [HWC.out, HTB.out]
              clear HWC HTB nc0 nc1 nc2 nc3 nc4 pb3 pb4
              have hBc0 : Below wcc.heap.size wcc wcc := Below.refl _ _
              have KKc : Hid (∀ w', Below wcc.heap.size wcc w' → (Below wcc.heap.size wcc w' ∧ w'.cell? ⟨tbc, 0, none⟩ = some (.int .i64 u0) ∧ w'.cell? ⟨tbc, 1, none⟩ = some (.string u1) ∧ w'.cell? ⟨tbc, 2, none⟩ = some (.int .i64 u2) ∧ w'.cell? ⟨tbc, 3, none⟩ = some (.bool u3) ∧ w'.cell? ⟨tbc, 4, none⟩ = some (.int .i64 u4))) := Lib.hid (fun w' hX => ⟨hX, keep1 xc0 hX, keep1 xc1 hX, keep1 xc2 hX, keep1 xc3 hX, keep1 xc4 hX⟩)
              go_region_held3 (fun w' => Below wcc.heap.size wcc w' ∧ w'.cell? ⟨tbc, 0, none⟩ = some (.int .i64 u0) ∧ w'.cell? ⟨tbc, 1, none⟩ = some (.string u1) ∧ w'.cell? ⟨tbc, 2, none⟩ = some (.int .i64 u2) ∧ w'.cell? ⟨tbc, 3, none⟩ = some (.bool u3) ∧ w'.cell? ⟨tbc, 4, none⟩ = some (.int .i64 u4))
                (first | ((with_reducible refine KKc.out _ ?_); (repeat (first | with_reducible refine bel_drew ?_ | with_reducible refine bel_alloc ?_)); first | with_reducible exact hBc5 | with_reducible exact hBc4 | with_reducible exact hBc3 | with_reducible exact hBc2 | with_reducible exact hBc1 | with_reducible exact hBc0))
                (first | (go_at_call 41; have hp := hBc4; refine (num_ref' u4 Rc4 HRc4.out _ HFc4.out).mono ?_; rintro e vc5 ⟨rfl, hrc5⟩; have hBc5 : Below wcc.heap.size wcc vc5 := below_step (by (repeat (first | with_reducible refine bel_drew ?_ | with_reducible refine bel_alloc ?_)); with_reducible exact hp) hrc5) | (go_at_call 30; have hp := hBc3; refine (flag_ref' u3 Rc3 HRc3.out _).mono ?_; rintro e vc4 ⟨rfl, hrc4⟩; have hBc4 : Below wcc.heap.size wcc vc4 := below_step (by (repeat (first | with_reducible refine bel_drew ?_ | with_reducible refine bel_alloc ?_)); with_reducible exact hp) hrc4) | (go_at_call 41; have hp := hBc2; refine (num_ref' u2 Rc2 HRc2.out _ HFc2.out).mono ?_; rintro e vc3 ⟨rfl, hrc3⟩; have hBc3 : Below wcc.heap.size wcc vc3 := below_step (by (repeat (first | with_reducible refine bel_drew ?_ | with_reducible refine bel_alloc ?_)); with_reducible exact hp) hrc3) | (go_at_call 32; have hp := hBc1; refine (text_ref' u1 Rc1 HRc1.out _ hsc1).mono ?_; rintro e vc2 ⟨rfl, hrc2⟩; have hBc2 : Below wcc.heap.size wcc vc2 := below_step (by (repeat (first | with_reducible refine bel_drew ?_ | with_reducible refine bel_alloc ?_)); with_reducible exact hp) hrc2) | (go_at_call 41; have hp := hBc0; refine (num_ref' u0 Rc0 HRc0.out _ HFc0.out).mono ?_; rintro e vc1 ⟨rfl, hrc1⟩; have hBc1 : Below wcc.heap.size wcc vc1 := below_step (by (repeat (first | with_reducible refine bel_drew ?_ | with_reducible refine bel_alloc ?_)); with_reducible exact hp) hrc1))
              all_goals
                go_wp2_with fail
                go_roundw
                case rel =>
                  refine ⟨kc + 1, by go_num, by omega, ?_, below_step HBwc.out hBc5⟩
                  rw [encs_snoc _ z3 kc _ HZc.out, ← List.append_assoc, HPqc.out]
                  exact congrArg (fun l => Value.string (mkb l)) HPEc.out.symm
                case measure => simp [intOf]; omega
            · obtain rfl : kc = I3 := by omega
              obtain ⟨Pz, hPz⟩ : ∃ P, Pb3 ++ encs tIndex.cod (z3.take kc) = P := ⟨_, rfl⟩
              have hPz2 : Pb3 ++ encs tIndex.cod z3 = Pz := by rw [← hPz, ← HIz3.out, List.take_length]
              obtain ⟨Rl, hRl⟩ : ∃ R, num (I4 : Int) = R := ⟨_, rfl⟩
              obtain ⟨Pl, hPl⟩ : ∃ P, Pz ++ Rl = P := ⟨_, rfl⟩
              have HTTj : Hid ((Pl ++ encs tForeign.cod z4).length ≤ 68719476736) := Lib.hid (by have h3 := HTTi.out; rw [hPz2, hRl, hPl] at h3; exact h3)
              have HPEj := Lib.hid (show Pqb ++ tTable.cod.enc (z0, (z1, (z2, (z3, z4)))) = Pl ++ encs tForeign.cod z4 by rw [HPEb.out, hPz2, hRl, hPl])
              have hz0 : Pz.length + Rl.length ≤ 68719476736 := by have h3 := HTTj.out; rw [← hPl] at h3; simp only [List.length_append] at h3; omega
              have sal : ¬ 9223372036854775807 < (mkb Pz).size + (mkb Rl).size := by simp only [mkb_size]; omega
              have scl : mkb Pz ++ mkb Rl = mkb Pl := by rw [mkb_append, hPl]
              have HRl := Lib.hid hRl
              rw [hPz]
              clear hPz hPz2 hRl hPl
              go_wp2_with fail
              refine (num_ref' _ Rl HRl.out _ ⟨by omega, by omega⟩).mono ?_
              rintro e wl ⟨rfl, hrl⟩
              have HBl := Lib.hid (below_step HBc.out hrl)
              clear hrl pb3 pb4
              go_wp2_with fail
              clear sal scl
              go_loopw [3, 8] (fun v3 v8 wr => ∃ kd : Nat, v8 = .int .i64 (kd : Int) ∧ kd ≤ I4 ∧ v3 = .string (mkb (Pl ++ encs tForeign.cod (z4.take kd))) ∧ Below wcb.heap.size wcb wr) (fun _ v8 _ => I4 - (intOf v8).toNat)
              case atStart => exact ⟨0, rfl, by omega, by simp [encs], HBl.out⟩
              case round =>
                obtain ⟨kd, rfl, hkd, rfl, hbd⟩ := hrel
                have pb4 := keep1 Qb4.out hbd
                have HBd := Lib.hid hbd
                have HXd := Lib.hid (below_step HXwb.out hbd)
                clear hbd
                by_cases hltd : kd < I4
                · obtain ⟨z, hz⟩ : ∃ z, z4[kd]? = some z := ⟨_, List.getElem?_eq_getElem (by rw [HIz4.out]; exact hltd)⟩
                  obtain ⟨bb, bo, ds, rfl, hokb, hHz, hds⟩ := HRz4.out.list_at hz
                  have hzok := HKz4.out _ (List.mem_of_getElem? hz)
                  have hsz2 := encs_take_le tForeign.cod z4 (kd + 1)
                  rw [encs_snoc _ z4 kd z hz] at hsz2
                  obtain ⟨v0, v1, v2, v3, v4, rfl⟩ : ∃ (v0 : Int) (v1 : ByteArray) (v2 : Int) (v3 : Int) (v4 : Int), z = (v0, (v1, (v2, (v3, v4)))) := by
                    obtain ⟨v0, ⟨v1, ⟨v2, ⟨v3, v4⟩⟩⟩⟩ := z
                    exact ⟨_, _, _, _, _, rfl⟩
                  obtain ⟨cad1, cbd1, rfl, had1, hbd1⟩ := Holds.pair_cell hHz
                  obtain rfl := Holds.int_cell had1
                  obtain ⟨cad2, cbd2, rfl, had2, hbd2⟩ := Holds.pair_cell hbd1
                  obtain rfl := Holds.str_cell had2
                  obtain ⟨cad3, cbd3, rfl, had3, hbd3⟩ := Holds.pair_cell hbd2
                  obtain rfl := Holds.int_cell had3
                  obtain ⟨cad4, cbd4, rfl, had4, hbd4⟩ := Holds.pair_cell hbd3
                  obtain rfl := Holds.int_cell had4
                  obtain rfl := Holds.int_cell hbd4
                  have nd0 := keep1 (show w.cell? ⟨bb, bo + kd * 5, none⟩ = some (.int .i64 v0) from hds 0 _ rfl) HXd.out
                  have nd1 := keep1 (show w.cell? ⟨bb, bo + kd * 5 + 1, none⟩ = some (.string v1) from hds 1 _ rfl) HXd.out
                  have nd2 := keep1 (show w.cell? ⟨bb, bo + kd * 5 + 2, none⟩ = some (.int .i64 v2) from hds 2 _ rfl) HXd.out
                  have nd3 := keep1 (show w.cell? ⟨bb, bo + kd * 5 + 3, none⟩ = some (.int .i64 v3) from hds 3 _ rfl) HXd.out
                  have nd4 := keep1 (show w.cell? ⟨bb, bo + kd * 5 + 4, none⟩ = some (.int .i64 v4) from hds 4 _ rfl) HXd.out
                  obtain ⟨Pqd, hPqd⟩ : ∃ P, Pl ++ encs tForeign.cod (z4.take kd) = P := ⟨_, rfl⟩
                  rw [hPqd]
                  have hEE : Pqd ++ tForeign.cod.enc (v0, (v1, (v2, (v3, v4)))) = Pqd ++ (num v0) ++ (cStr.enc v1) ++ ([v2, v3, v4].flatMap num) := by
                    have h1 : tForeign.cod.enc (v0, (v1, (v2, (v3, v4)))) = (num v0 ++ (cStr.enc v1 ++ (num v2 ++ (num v3 ++ num v4)))) := rfl
                    rw [h1]
                    simp only [List.append_assoc, List.flatMap_cons, List.flatMap_nil, List.append_nil]
                  have htot : (Pqd ++ (num v0) ++ (cStr.enc v1) ++ ([v2, v3, v4].flatMap num)).length ≤ 68719476736 := by
                    rw [← hEE, ← hPqd]
                    have h3 := HTTj.out
                    have h4 : (encs tForeign.cod (z4.take kd) ++ tForeign.cod.enc (v0, (v1, (v2, (v3, v4))))).length ≤ (encs tForeign.cod z4).length := hsz2
                    simp only [List.length_append] at h3 h4 ⊢
                    omega
                  obtain ⟨Rd0, hRd0⟩ : ∃ R, num v0 = R := ⟨_, rfl⟩
                  obtain ⟨Rd1, hRd1⟩ : ∃ R, cStr.enc v1 = R := ⟨_, rfl⟩
                  obtain ⟨Rd2, hRd2⟩ : ∃ R, [v2, v3, v4].flatMap num = R := ⟨_, rfl⟩
                  obtain ⟨Pd0, hPd0⟩ : ∃ P, Pqd ++ Rd0 = P := ⟨_, rfl⟩
                  obtain ⟨Pd1, hPd1⟩ : ∃ P, Pd0 ++ Rd1 = P := ⟨_, rfl⟩
                  obtain ⟨Pd2, hPd2⟩ : ∃ P, Pd1 ++ Rd2 = P := ⟨_, rfl⟩
                  have hEd : Pd2 = Pqd ++ (num v0) ++ (cStr.enc v1) ++ ([v2, v3, v4].flatMap num) := by rw [← hPd2, ← hPd1, ← hPd0, ← hRd0, ← hRd1, ← hRd2]
                  have hld3 : Pd2.length ≤ 68719476736 := by rw [hEd]; exact htot
                  have hld2 : Pd1.length + Rd2.length ≤ 68719476736 := by rw [← List.length_append, hPd2]; exact hld3
                  have hld1 : Pd0.length + Rd1.length ≤ 68719476736 := by rw [← List.length_append, hPd1]; omega
                  have hld0 : Pqd.length + Rd0.length ≤ 68719476736 := by rw [← List.length_append, hPd0]; omega
                  have HFd0 := Lib.hid (show Fits v0 from hzok.1)
                  have hsd1 : v1.size ≤ 281474976710656 := str_size hRd1 (by omega)
                  have HFd2 := Lib.hid (show ∀ n ∈ [v2, v3, v4], Fits n from fits_cons hzok.2.2.1 (fits_cons hzok.2.2.2.1 (fits_cons hzok.2.2.2.2 (fits_nil))))
                  have sad0 : ¬ 9223372036854775807 < (mkb Pqd).size + (mkb Rd0).size := by simp only [mkb_size]; omega
                  have scd0 : mkb Pqd ++ mkb Rd0 = mkb Pd0 := by rw [mkb_append, hPd0]
                  have sad1 : ¬ 9223372036854775807 < (mkb Pd0).size + (mkb Rd1).size := by simp only [mkb_size]; omega
                  have scd1 : mkb Pd0 ++ mkb Rd1 = mkb Pd1 := by rw [mkb_append, hPd1]
                  have sad2 : ¬ 9223372036854775807 < (mkb Pd1).size + (mkb Rd2).size := by simp only [mkb_size]; omega
                  have scd2 : mkb Pd1 ++ mkb Rd2 = mkb Pd2 := by rw [mkb_append, hPd2]
                  have HRd0 := Lib.hid hRd0
                  have HRd1 := Lib.hid hRd1
                  have HRd2 := Lib.hid hRd2
                  have HEd := Lib.hid hEd
                  clear hEd hRd0 hPd0 hRd1 hPd1 hRd2 hPd2
                  have hPE : Pqd ++ tForeign.cod.enc (v0, (v1, (v2, (v3, v4)))) = Pd2 := by rw [HEd.out]; exact hEE
                  have HZd := Lib.hid hz
                  have HPEd := Lib.hid hPE
                  have HPqd := Lib.hid hPqd
                  have HTTd := Lib.hid htot
                  clear hds hz hsz2 hEE htot hPE hPqd hokb hHz had1 hbd1 had2 hbd2 had3 hbd3 had4 hbd4
                  clear hzok
                  have c0d : (0 : Int) ≤ (kd : Int) := by omega
                  have c1d : (kd : Int) < (I4 : Int) := by omega
                  have hbw : Below wr.heap.size wr (wr.alloc (.cells #[.int .i64 v0, .string v1, .int .i64 v2, .int .i64 v3, .int .i64 v4] 204)) := (Below.refl _ _).alloc (Nat.le_refl _) _
                  have hkk := blk_new wr (.cells #[.int .i64 v0, .string v1, .int .i64 v2, .int .i64 v3, .int .i64 v4] 204)
                  obtain ⟨wcd, hwc⟩ : ∃ wc, wr.alloc (.cells #[.int .i64 v0, .string v1, .int .i64 v2, .int .i64 v3, .int .i64 v4] 204) = wc := ⟨_, rfl⟩
                  obtain ⟨tbd, htb⟩ : ∃ n, wr.heap.size = n := ⟨_, rfl⟩
                  have HBwd := Lib.hid (below_step HBd.out hbw)
                  rw [hwc, htb] at hkk
                  rw [hwc] at HBwd
                  have xd0 : wcd.cell? ⟨tbd, 0, none⟩ = some (.int .i64 v0) := (blk_cell hkk 0).trans rfl
                  have xd1 : wcd.cell? ⟨tbd, 1, none⟩ = some (.string v1) := (blk_cell hkk 1).trans rfl
                  have xd2 : wcd.cell? ⟨tbd, 2, none⟩ = some (.int .i64 v2) := (blk_cell hkk 2).trans rfl
                  have xd3 : wcd.cell? ⟨tbd, 3, none⟩ = some (.int .i64 v3) := (blk_cell hkk 3).trans rfl
                  have xd4 : wcd.cell? ⟨tbd, 4, none⟩ = some (.int .i64 v4) := (blk_cell hkk 4).trans rfl
                  have Qd0 := Lib.hid xd0
                  have Qd1 := Lib.hid xd1
                  have Qd2 := Lib.hid xd2
                  have Qd3 := Lib.hid xd3
                  have Qd4 := Lib.hid xd4
                  have HXwd := Lib.hid (below_step HXwb.out HBwd.out)
                  have HWC := Lib.hid hwc
                  have HTB := Lib.hid htb
                  clear hbw hkk hwc htb
                  go_upto_region 17 with fail
                  rw [HWC.out, HTB.out]
                  clear HWC HTB nd0 nd1 nd2 nd3 nd4 pb4
                  have hBd0 : Below wcd.heap.size wcd wcd := Below.refl _ _
                  have KKd : Hid (∀ w', Below wcd.heap.size wcd w' → (Below wcd.heap.size wcd w' ∧ w'.cell? ⟨tbd, 0, none⟩ = some (.int .i64 v0) ∧ w'.cell? ⟨tbd, 1, none⟩ = some (.string v1) ∧ w'.cell? ⟨tbd, 2, none⟩ = some (.int .i64 v2) ∧ w'.cell? ⟨tbd, 3, none⟩ = some (.int .i64 v3) ∧ w'.cell? ⟨tbd, 4, none⟩ = some (.int .i64 v4))) := Lib.hid (fun w' hX => ⟨hX, keep1 xd0 hX, keep1 xd1 hX, keep1 xd2 hX, keep1 xd3 hX, keep1 xd4 hX⟩)
                  go_region_held3 (fun w' => Below wcd.heap.size wcd w' ∧ w'.cell? ⟨tbd, 0, none⟩ = some (.int .i64 v0) ∧ w'.cell? ⟨tbd, 1, none⟩ = some (.string v1) ∧ w'.cell? ⟨tbd, 2, none⟩ = some (.int .i64 v2) ∧ w'.cell? ⟨tbd, 3, none⟩ = some (.int .i64 v3) ∧ w'.cell? ⟨tbd, 4, none⟩ = some (.int .i64 v4))
                    (first | ((with_reducible refine KKd.out _ ?_); (repeat (first | with_reducible refine bel_drew ?_ | with_reducible refine bel_alloc ?_)); first | with_reducible exact hBd3 | with_reducible exact hBd2 | with_reducible exact hBd1 | with_reducible exact hBd0))
                    (first | (go_at_call 29; have hp := hBd2; refine (nums_at [v2, v3, v4] Rd2 HRd2.out 3 rfl _ 3 _ (by decide) HFd2.out (by repeat (first | ((with_reducible refine rowB ?_ ?_); rfl; (first | (with_reducible rfl) | (simp; done)); done) | with_reducible refine row_drew ?_ | with_reducible refine row_alloc ?_ | with_reducible refine row_below hrd3 ?_ | with_reducible refine row_below hrd2 ?_ | with_reducible refine row_below hrd1 ?_))).mono ?_; rintro e vd3 ⟨rfl, hrd3⟩; have hBd3 : Below wcd.heap.size wcd vd3 := below_step (by (repeat (first | with_reducible refine bel_drew ?_ | with_reducible refine bel_alloc ?_)); with_reducible exact hp) hrd3) | (go_at_call 32; have hp := hBd1; refine (text_ref' v1 Rd1 HRd1.out _ hsd1).mono ?_; rintro e vd2 ⟨rfl, hrd2⟩; have hBd2 : Below wcd.heap.size wcd vd2 := below_step (by (repeat (first | with_reducible refine bel_drew ?_ | with_reducible refine bel_alloc ?_)); with_reducible exact hp) hrd2) | (go_at_call 41; have hp := hBd0; refine (num_ref' v0 Rd0 HRd0.out _ HFd0.out).mono ?_; rintro e vd1 ⟨rfl, hrd1⟩; have hBd1 : Below wcd.heap.size wcd vd1 := below_step (by (repeat (first | with_reducible refine bel_drew ?_ | with_reducible refine bel_alloc ?_)); with_reducible exact hp) hrd1))
                  all_goals
                    go_wp2_with fail
                    go_roundw
                    case rel =>
                      refine ⟨kd + 1, by go_num, by omega, ?_, below_step HBwd.out hBd3⟩
                      rw [encs_snoc _ z4 kd _ HZd.out, ← List.append_assoc, HPqd.out]
                      exact congrArg (fun l => Value.string (mkb l)) HPEd.out.symm
                    case measure => simp [intOf]; omega
                · obtain rfl : kd = I4 := by omega
                  go_wp2_with fail
                  go_roundw
                  case rel =>
                    refine ⟨kb + 1, by go_num, by omega, ?_, below_step HBwb.out HBd.out⟩
                    rw [encs_snoc _ y2 kb _ HZb.out, ← List.append_assoc, HPqb.out]
                    have h9 : Pl ++ encs tForeign.cod (z4.take kd) = Pqb ++ tTable.cod.enc (z0, (z1, (z2, (z3, z4)))) := by rw [HPEj.out, ← HIz4.out, List.take_length]
                    exact congrArg (fun l => Value.string (mkb l)) h9
                  case measure => simp [intOf]; omega
      · obtain rfl : kb = L2 := by omega
        have h9 : Pa1 ++ encs tTable.cod (y2.take kb) = F := by rw [← HL2.out, List.take_length]; exact HF1.out
        rw [h9]
        clear h9
        go_wp2_with fail
        go_ret
        exact ⟨rfl, HXb.out⟩
theorem schema_ref (x : tSchema.T) (cs : List Value) (ok : Nat → Prop) (w : World) (hH : Holds w ok tSchema x cs) (hok : tSchema.cod.ok x) (hlen : (tSchema.cod.enc x).length ≤ 68719476736) :
    Calls Try.prog 52 #[.agg cs.toArray] w fun e w' => e = .returned (.string (mkb (tSchema.cod.enc x))) ∧ Below w.heap.size w w' := by
  obtain ⟨⟨y0, y1⟩, y2⟩ := x
  exact schema_refL y0 y1 y2 cs ok w hH hok hlen
end Go.Proofs.Ytlcgkcmicklihaa.Wire
namespace Go.Proofs.Ytlcgkcmicklihaa.Wire
set_option linter.unusedVariables false
set_option linter.unusedSimpArgs false
open Go.RowKit Go.Proofs.YtlcgkcmicklihaaW.PrintWords Go.Proofs.YtlcgkcmicklihaaW.PrintLast Go.Proofs.YtlcgkcmicklihaaW.PrintMore
set_option maxRecDepth 100000 in
set_option maxHeartbeats 16000000 in
theorem plan_refL (y0 : Int) (y1 : Int) (y2 : List tTable.T) (y3 : List tLease.T) (y4 : List tJob.T) (cs : List Value) (ok : Nat → Prop) (w : World) (hH : Holds w ok tPlan ((y0, y1), (y2, (y3, y4))) cs) (hok : tPlan.cod.ok ((y0, y1), (y2, (y3, y4)))) (hlen : (tPlan.cod.enc ((y0, y1), (y2, (y3, y4)))).length ≤ 68719476736) :
    Calls Try.prog 25 #[.agg cs.toArray] w fun e w' => e = .returned (.string (mkb (tPlan.cod.enc ((y0, y1), (y2, (y3, y4)))))) ∧ Below w.heap.size w w' := by
  obtain ⟨ca1, cb1, rfl, ha1, hb1⟩ := Holds.pair_cell hH
  obtain ⟨ca2, cb2, rfl, ha2, hb2⟩ := Holds.pair_cell ha1
  obtain rfl := Holds.int_cell ha2
  obtain rfl := Holds.int_cell hb2
  obtain ⟨ca3, cb3, rfl, ha3, hb3⟩ := Holds.pair_cell hb1
  obtain ⟨A2, cap2, rfl, hh2⟩ := Holds.list_cell ha3
  obtain ⟨ca4, cb4, rfl, ha4, hb4⟩ := Holds.pair_cell hb3
  obtain ⟨A3, cap3, rfl, hh3⟩ := Holds.list_cell ha4
  obtain ⟨A4, cap4, rfl, hh4⟩ := Holds.list_cell hb4
  clear ha1 ha2 hb2 hb1 ha3 hb3 ha4 hb4
  have hsch : Holds w ok tSchema ((y0, y1), y2) [.int .i64 y0, .int .i64 y1, .slice A2 y2.length cap2] := ⟨[.int .i64 y0, .int .i64 y1], [.slice A2 y2.length cap2], rfl, ⟨[.int .i64 y0], [.int .i64 y1], rfl, rfl, rfl⟩, hh2⟩
  have hll2 : y2.length ≤ 9223372036854775807 := hok.2.1.1
  obtain ⟨L3, hL3⟩ : ∃ n, y3.length = n := ⟨_, rfl⟩
  have hm3 : y3.length ≤ 9223372036854775807 := hok.2.2.1.1
  have hk3 := hok.2.2.1.2
  rw [hL3] at hh3 hm3
  obtain ⟨L4, hL4⟩ : ∃ n, y4.length = n := ⟨_, rfl⟩
  have hm4 : y4.length ≤ 9223372036854775807 := hok.2.2.2.1
  have hk4 := hok.2.2.2.2
  rw [hL4] at hh4 hm4
  have hE0 : tPlan.cod.enc ((y0, y1), (y2, (y3, y4))) = tSchema.cod.enc ((y0, y1), y2) ++ num (L3 : Int) ++ encs tLease.cod y3 ++ num (L4 : Int) ++ encs tJob.cod y4 := by
    have h1 : tPlan.cod.enc ((y0, y1), (y2, (y3, y4))) = ((num y0 ++ num y1) ++ ((Ty.list tTable).cod.enc y2 ++ ((Ty.list tLease).cod.enc y3 ++ (Ty.list tJob).cod.enc y4))) := rfl
    have h2 : (Ty.list tLease).cod.enc y3 = num (y3.length : Int) ++ encs tLease.cod y3 := rfl
    have h3 : (Ty.list tJob).cod.enc y4 = num (y4.length : Int) ++ encs tJob.cod y4 := rfl
    have h5 : tSchema.cod.enc ((y0, y1), y2) = (num y0 ++ num y1) ++ (Ty.list tTable).cod.enc y2 := rfl
    rw [h1, h2, h3, h5, hL3, hL4]
    simp only [List.append_assoc]
  rw [hE0] at hlen
  rw [hE0]
  obtain ⟨F, hF⟩ : ∃ F, tSchema.cod.enc ((y0, y1), y2) ++ num (L3 : Int) ++ encs tLease.cod y3 ++ num (L4 : Int) ++ encs tJob.cod y4 = F := ⟨_, rfl⟩
  have hlf : F.length ≤ 68719476736 := by rw [← hF]; exact hlen
  rw [hF]
  rw [hL3, hL4]
  obtain ⟨wb, hwb⟩ : ∃ wb, w.alloc (.cells #[.int .i64 y0, .int .i64 y1, .slice A2 y2.length cap2, .slice A3 L3 cap3, .slice A4 L4 cap4] 80) = wb := ⟨_, rfl⟩
  have hbb : Below w.heap.size w wb := by rw [← hwb]; exact (Below.refl _ _).alloc (Nat.le_refl _) _
  have q0 : wb.cell? ⟨w.heap.size, 0, none⟩ = some (.int .i64 y0) := by rw [← hwb]; exact (blk_cell (blk_new w _) 0).trans rfl
  have q1 : wb.cell? ⟨w.heap.size, 1, none⟩ = some (.int .i64 y1) := by rw [← hwb]; exact (blk_cell (blk_new w _) 1).trans rfl
  have q2 : wb.cell? ⟨w.heap.size, 2, none⟩ = some (.slice A2 y2.length cap2) := by rw [← hwb]; exact (blk_cell (blk_new w _) 2).trans rfl
  have q3 : wb.cell? ⟨w.heap.size, 3, none⟩ = some (.slice A3 L3 cap3) := by rw [← hwb]; exact (blk_cell (blk_new w _) 3).trans rfl
  have q4 : wb.cell? ⟨w.heap.size, 4, none⟩ = some (.slice A4 L4 cap4) := by rw [← hwb]; exact (blk_cell (blk_new w _) 4).trans rfl
  have hNb : w.heap.size < wb.heap.size := by rw [← hwb]; simp
  have HHsa0 := Lib.hid (hsch.below hbb)
  obtain ⟨Ra0, hRa0⟩ : ∃ R, tSchema.cod.enc ((y0, y1), y2) = R := ⟨_, rfl⟩
  obtain ⟨Ra1, hRa1⟩ : ∃ R, num (L3 : Int) = R := ⟨_, rfl⟩
  obtain ⟨Pa1, hPa1⟩ : ∃ P, Ra0 ++ Ra1 = P := ⟨_, rfl⟩
  have hEa : Pa1 = (tSchema.cod.enc ((y0, y1), y2)) ++ (num (L3 : Int)) := by rw [← hPa1, ← hRa0, ← hRa1]
  have hla2 : Pa1.length ≤ 68719476736 := by rw [hEa]; have h3 := hlf; rw [← hF] at h3; simp only [List.length_append] at h3 ⊢; omega
  have hla1 : Ra0.length + Ra1.length ≤ 68719476736 := by rw [← List.length_append, hPa1]; exact hla2
  have HOa0 := Lib.hid (show tSchema.cod.ok ((y0, y1), y2) from ⟨hok.1, hok.2.1⟩)
  have HLna0 := Lib.hid (show (tSchema.cod.enc ((y0, y1), y2)).length ≤ 68719476736 by rw [hRa0]; omega)
  have HFa1 := Lib.hid (show Fits (L3 : Int) from ⟨by omega, by omega⟩)
  have saa1 : ¬ 9223372036854775807 < (mkb Ra0).size + (mkb Ra1).size := by simp only [mkb_size]; omega
  have sca1 : mkb Ra0 ++ mkb Ra1 = mkb Pa1 := by rw [mkb_append, hPa1]
  have HRa0 := Lib.hid hRa0
  have HRa1 := Lib.hid hRa1
  have HEa := Lib.hid hEa
  clear hEa hRa0 hRa1 hPa1
  have hF1 : Pa1 ++ encs tLease.cod y3 ++ num (L4 : Int) ++ encs tJob.cod y4 = F := by rw [HEa.out]; exact hF
  have hT1 : (Pa1 ++ encs tLease.cod y3 ++ num (L4 : Int) ++ encs tJob.cod y4).length ≤ 68719476736 := by rw [hF1]; exact hlf
  have HBB := Lib.hid hbb
  have HF1 := Lib.hid hF1
  have HT1 := Lib.hid hT1
  have HK3 := Lib.hid hk3
  have HK4 := Lib.hid hk4
  have HL3 := Lib.hid hL3
  have HL4 := Lib.hid hL4
  have HR3 := Lib.hid hh3
  have HR4 := Lib.hid hh4
  clear hbb hF1 hT1 hF hE0 hk3 hk4 hL3 hL4 hh2 hh3 hh4 hsch hlf hlen hok
  show Calls Try.prog 25 #[.agg #[.int .i64 y0, .int .i64 y1, .slice A2 y2.length cap2, .slice A3 L3 cap3, .slice A4 L4 cap4]] w _
  go_enter Try.func25, Try.ntmps25
  go_wp2_with fail
  clear hwb
  have Q0 := Lib.hid q0
  have Q1 := Lib.hid q1
  have Q2 := Lib.hid q2
  have Q3 := Lib.hid q3
  have Q4 := Lib.hid q4
  have hBa0 : Below wb.heap.size wb wb := Below.refl _ _
  have KKa : Hid (∀ w', Below wb.heap.size wb w' → (Below wb.heap.size wb w' ∧ w'.cell? ⟨w.heap.size, 0, none⟩ = some (.int .i64 y0) ∧ w'.cell? ⟨w.heap.size, 1, none⟩ = some (.int .i64 y1) ∧ w'.cell? ⟨w.heap.size, 2, none⟩ = some (.slice A2 y2.length cap2) ∧ w'.cell? ⟨w.heap.size, 3, none⟩ = some (.slice A3 L3 cap3) ∧ w'.cell? ⟨w.heap.size, 4, none⟩ = some (.slice A4 L4 cap4))) := Lib.hid (fun w' hX => ⟨hX, keep1 q0 hX, keep1 q1 hX, keep1 q2 hX, keep1 q3 hX, keep1 q4 hX⟩)
  go_region_held3 (fun w' => Below wb.heap.size wb w' ∧ w'.cell? ⟨w.heap.size, 0, none⟩ = some (.int .i64 y0) ∧ w'.cell? ⟨w.heap.size, 1, none⟩ = some (.int .i64 y1) ∧ w'.cell? ⟨w.heap.size, 2, none⟩ = some (.slice A2 y2.length cap2) ∧ w'.cell? ⟨w.heap.size, 3, none⟩ = some (.slice A3 L3 cap3) ∧ w'.cell? ⟨w.heap.size, 4, none⟩ = some (.slice A4 L4 cap4))
    (first | ((with_reducible refine KKa.out _ ?_); (repeat (first | with_reducible refine bel_drew ?_ | with_reducible refine bel_alloc ?_)); first | with_reducible exact hBa2 | with_reducible exact hBa1 | with_reducible exact hBa0))
    (first | (go_at_call 41; have hp := hBa1; refine (num_ref' (L3 : Int) Ra1 HRa1.out _ HFa1.out).mono ?_; rintro e va2 ⟨rfl, hra2⟩; have hBa2 : Below wb.heap.size wb va2 := below_step (by (repeat (first | with_reducible refine bel_drew ?_ | with_reducible refine bel_alloc ?_)); with_reducible exact hp) hra2) | (go_at_call 52; have hp := hBa0; refine (sub_ref' schema_ref _ [.int .i64 y0, .int .i64 y1, .slice A2 y2.length cap2] _ Ra0 HRa0.out _ (HHsa0.out.below (by (repeat (first | with_reducible refine bel_drew ?_ | with_reducible refine bel_alloc ?_)); with_reducible exact hp)) HOa0.out HLna0.out).mono ?_; rintro e va1 ⟨rfl, hra1⟩; have hBa1 : Below wb.heap.size wb va1 := below_step (by (repeat (first | with_reducible refine bel_drew ?_ | with_reducible refine bel_alloc ?_)); with_reducible exact hp) hra1))
  all_goals
    have HBa := Lib.hid hBa2
    clear hll2 q0 q1 q2 q3 q4
    go_wp2_with fail
    go_loopw [3, 4] (fun v3 v4 wr => ∃ kb : Nat, v4 = .int .i64 (kb : Int) ∧ kb ≤ L3 ∧ v3 = .string (mkb (Pa1 ++ encs tLease.cod (y3.take kb))) ∧ Below wb.heap.size wb wr) (fun _ v4 _ => L3 - (intOf v4).toNat)
    case atStart => exact ⟨0, rfl, by omega, by simp [encs], HBa.out⟩
    case round =>
      obtain ⟨kb, rfl, hkb, rfl, hbb⟩ := hrel
      have p3 := keep1 Q3.out hbb
      have p4 := keep1 Q4.out hbb
      have HBb := Lib.hid hbb
      have HXb := Lib.hid (below_step HBB.out hbb)
      clear hbb
      by_cases hltb : kb < L3
      · obtain ⟨z, hz⟩ : ∃ z, y3[kb]? = some z := ⟨_, List.getElem?_eq_getElem (by rw [HL3.out]; exact hltb)⟩
        obtain ⟨bb, bo, ds, rfl, hokb, hHz, hds⟩ := HR3.out.list_at hz
        have hzok := HK3.out _ (List.mem_of_getElem? hz)
        have hsz2 := encs_take_le tLease.cod y3 (kb + 1)
        rw [encs_snoc _ y3 kb z hz] at hsz2
        obtain ⟨z0, z1, z2, rfl⟩ : ∃ (z0 : Int) (z1 : Int) (z2 : Int), z = (z0, (z1, z2)) := by
          obtain ⟨z0, ⟨z1, z2⟩⟩ := z
          exact ⟨_, _, _, rfl⟩
        obtain ⟨cab1, cbb1, rfl, hab1, hbb1⟩ := Holds.pair_cell hHz
        obtain rfl := Holds.int_cell hab1
        obtain ⟨cab2, cbb2, rfl, hab2, hbb2⟩ := Holds.pair_cell hbb1
        obtain rfl := Holds.int_cell hab2
        obtain rfl := Holds.int_cell hbb2
        have nb0 := keep1 (show w.cell? ⟨bb, bo + kb * 3, none⟩ = some (.int .i64 z0) from hds 0 _ rfl) HXb.out
        have nb1 := keep1 (show w.cell? ⟨bb, bo + kb * 3 + 1, none⟩ = some (.int .i64 z1) from hds 1 _ rfl) HXb.out
        have nb2 := keep1 (show w.cell? ⟨bb, bo + kb * 3 + 2, none⟩ = some (.int .i64 z2) from hds 2 _ rfl) HXb.out
        obtain ⟨Pqb, hPqb⟩ : ∃ P, Pa1 ++ encs tLease.cod (y3.take kb) = P := ⟨_, rfl⟩
        rw [hPqb]
        have hEE : Pqb ++ tLease.cod.enc (z0, (z1, z2)) = Pqb ++ ([z0, z1, z2].flatMap num) := by
          have h1 : tLease.cod.enc (z0, (z1, z2)) = (num z0 ++ (num z1 ++ num z2)) := rfl
          rw [h1]
          simp only [List.append_assoc, List.flatMap_cons, List.flatMap_nil, List.append_nil]
        have htot : (Pqb ++ ([z0, z1, z2].flatMap num)).length ≤ 68719476736 := by
          rw [← hEE, ← hPqb]
          have h3 := HT1.out
          have h4 : (encs tLease.cod (y3.take kb) ++ tLease.cod.enc (z0, (z1, z2))).length ≤ (encs tLease.cod y3).length := hsz2
          simp only [List.length_append] at h3 h4 ⊢
          omega
        obtain ⟨Rb0, hRb0⟩ : ∃ R, [z0, z1, z2].flatMap num = R := ⟨_, rfl⟩
        obtain ⟨Pb0, hPb0⟩ : ∃ P, Pqb ++ Rb0 = P := ⟨_, rfl⟩
        have hEb : Pb0 = Pqb ++ ([z0, z1, z2].flatMap num) := by rw [← hPb0, ← hRb0]
        have hlb1 : Pb0.length ≤ 68719476736 := by rw [hEb]; exact htot
        have hlb0 : Pqb.length + Rb0.length ≤ 68719476736 := by rw [← List.length_append, hPb0]; exact hlb1
        have HFb0 := Lib.hid (show ∀ n ∈ [z0, z1, z2], Fits n from fits_cons hzok.1 (fits_cons hzok.2.1 (fits_cons hzok.2.2 (fits_nil))))
        have sab0 : ¬ 9223372036854775807 < (mkb Pqb).size + (mkb Rb0).size := by simp only [mkb_size]; omega
        have scb0 : mkb Pqb ++ mkb Rb0 = mkb Pb0 := by rw [mkb_append, hPb0]
        have HRb0 := Lib.hid hRb0
        have HEb := Lib.hid hEb
        clear hEb hRb0 hPb0
        have hPE : Pqb ++ tLease.cod.enc (z0, (z1, z2)) = Pb0 := by rw [HEb.out]; exact hEE
        have HZb := Lib.hid hz
        have HPEb := Lib.hid hPE
        have HPqb := Lib.hid hPqb
        have HTTb := Lib.hid htot
        clear hds hz hsz2 hEE htot hPE hPqb hokb hHz hab1 hbb1 hab2 hbb2
        clear hzok p4
        have c0b : (0 : Int) ≤ (kb : Int) := by omega
        have c1b : (kb : Int) < (L3 : Int) := by omega
        have hbbx : bb < wr.heap.size := World.block_lt_of_cell? wr _ nb0
        go_wp2_with fail
        have hBb0 : Below wr.heap.size wr wr := Below.refl _ _
        have KKb : Hid (∀ w', Below wr.heap.size wr w' → (Below wr.heap.size wr w' ∧ w'.cell? ⟨w.heap.size, 3, none⟩ = some (.slice (some ⟨bb, bo, none⟩) L3 cap3) ∧ w'.cell? ⟨bb, bo + kb * 3, none⟩ = some (.int .i64 z0) ∧ w'.cell? ⟨bb, bo + kb * 3 + 1, none⟩ = some (.int .i64 z1) ∧ w'.cell? ⟨bb, bo + kb * 3 + 2, none⟩ = some (.int .i64 z2))) := Lib.hid (fun w' hX => ⟨hX, keep1 p3 hX, keep1 nb0 hX, keep1 nb1 hX, keep1 nb2 hX⟩)
        go_region_held3 (fun w' => Below wr.heap.size wr w' ∧ w'.cell? ⟨w.heap.size, 3, none⟩ = some (.slice (some ⟨bb, bo, none⟩) L3 cap3) ∧ w'.cell? ⟨bb, bo + kb * 3, none⟩ = some (.int .i64 z0) ∧ w'.cell? ⟨bb, bo + kb * 3 + 1, none⟩ = some (.int .i64 z1) ∧ w'.cell? ⟨bb, bo + kb * 3 + 2, none⟩ = some (.int .i64 z2))
          (first | ((with_reducible refine KKb.out _ ?_); (repeat (first | with_reducible refine bel_drew ?_ | with_reducible refine bel_alloc ?_)); first | with_reducible exact hBb1 | with_reducible exact hBb0))
          (first | (go_at_call 29; have hp := hBb0; refine (nums_at [z0, z1, z2] Rb0 HRb0.out 3 rfl _ 3 _ (by decide) HFb0.out (by repeat (first | ((with_reducible refine rowB ?_ ?_); rfl; (first | (with_reducible rfl) | (simp; done)); done) | with_reducible refine row_drew ?_ | with_reducible refine row_alloc ?_ | with_reducible refine row_below hrb1 ?_))).mono ?_; rintro e vb1 ⟨rfl, hrb1⟩; have hBb1 : Below wr.heap.size wr vb1 := below_step (by (repeat (first | with_reducible refine bel_drew ?_ | with_reducible refine bel_alloc ?_)); with_reducible exact hp) hrb1))
        all_goals
          go_wp2_with fail
          go_roundw
          case rel =>
            refine ⟨kb + 1, by go_num, by omega, ?_, below_step HBb.out hBb1⟩
            rw [encs_snoc _ y3 kb _ HZb.out, ← List.append_assoc, HPqb.out]
            exact congrArg (fun l => Value.string (mkb l)) HPEb.out.symm
          case measure => simp [intOf]; omega
      · obtain rfl : kb = L3 := by omega
        obtain ⟨Pz, hPz⟩ : ∃ P, Pa1 ++ encs tLease.cod (y3.take kb) = P := ⟨_, rfl⟩
        have hPz2 : Pa1 ++ encs tLease.cod y3 = Pz := by rw [← hPz, ← HL3.out, List.take_length]
        obtain ⟨Rl, hRl⟩ : ∃ R, num (L4 : Int) = R := ⟨_, rfl⟩
        obtain ⟨Pl, hPl⟩ : ∃ P, Pz ++ Rl = P := ⟨_, rfl⟩
        have HT2 : Hid ((Pl ++ encs tJob.cod y4).length ≤ 68719476736) := Lib.hid (by have h3 := HT1.out; rw [hPz2, hRl, hPl] at h3; exact h3)
        have HF2 : Hid (Pl ++ encs tJob.cod y4 = F) := Lib.hid (by rw [← HF1.out, hPz2, hRl, hPl])
        have hz0 : Pz.length + Rl.length ≤ 68719476736 := by have h3 := HT2.out; rw [← hPl] at h3; simp only [List.length_append] at h3; omega
        have sal : ¬ 9223372036854775807 < (mkb Pz).size + (mkb Rl).size := by simp only [mkb_size]; omega
        have scl : mkb Pz ++ mkb Rl = mkb Pl := by rw [mkb_append, hPl]
        have HRl := Lib.hid hRl
        rw [hPz]
        clear hPz hPz2 hRl hPl hz0
        go_wp2_with fail
        refine (num_ref' _ Rl HRl.out _ ⟨by omega, by omega⟩).mono ?_
        rintro e wl ⟨rfl, hrl⟩
        have HBl := Lib.hid (below_step HBb.out hrl)
        clear hrl p3 p4
        go_wp2_with fail
        clear sal scl
        go_loopw [3, 5] (fun v3 v5 wr => ∃ kc : Nat, v5 = .int .i64 (kc : Int) ∧ kc ≤ L4 ∧ v3 = .string (mkb (Pl ++ encs tJob.cod (y4.take kc))) ∧ Below wb.heap.size wb wr) (fun _ v5 _ => L4 - (intOf v5).toNat)
        case atStart => exact ⟨0, rfl, by omega, by simp [encs], HBl.out⟩
        case round =>
          obtain ⟨kc, rfl, hkc, rfl, hbc⟩ := hrel
          have p4 := keep1 Q4.out hbc
          have HBc := Lib.hid hbc
          have HXc := Lib.hid (below_step HBB.out hbc)
          clear hbc
          by_cases hltc : kc < L4
          · obtain ⟨z, hz⟩ : ∃ z, y4[kc]? = some z := ⟨_, List.getElem?_eq_getElem (by rw [HL4.out]; exact hltc)⟩
            obtain ⟨bb, bo, ds, rfl, hokb, hHz, hds⟩ := HR4.out.list_at hz
            have hzok := HK4.out _ (List.mem_of_getElem? hz)
            have hsz2 := encs_take_le tJob.cod y4 (kc + 1)
            rw [encs_snoc _ y4 kc z hz] at hsz2
            obtain ⟨u0, u1, u2, u3, u4, u5, u6, u7, u8, u9, u10, u11, u12, u13, u14, u15, u16, u17, u18, u19, u20, u21, rfl⟩ : ∃ (u0 : Int) (u1 : Int) (u2 : Int) (u3 : Int) (u4 : Int) (u5 : Int) (u6 : ByteArray) (u7 : ByteArray) (u8 : ByteArray) (u9 : ByteArray) (u10 : Bool) (u11 : Int) (u12 : Int) (u13 : Int) (u14 : ByteArray) (u15 : List tColumn.T) (u16 : Int) (u17 : Bool) (u18 : Bool) (u19 : ByteArray) (u20 : Int) (u21 : Int), z = ((u0, u1), ((u2, (u3, u4)), ((u5, ((u6, (u7, (u8, u9))), (u10, (u11, ((u12, (u13, u14)), u15))))), (u16, (u17, (u18, (u19, (u20, u21)))))))) := by
              obtain ⟨⟨u0, u1⟩, ⟨⟨u2, ⟨u3, u4⟩⟩, ⟨⟨u5, ⟨⟨u6, ⟨u7, ⟨u8, u9⟩⟩⟩, ⟨u10, ⟨u11, ⟨⟨u12, ⟨u13, u14⟩⟩, u15⟩⟩⟩⟩⟩, ⟨u16, ⟨u17, ⟨u18, ⟨u19, ⟨u20, u21⟩⟩⟩⟩⟩⟩⟩⟩ := z
              exact ⟨_, _, _, _, _, _, _, _, _, _, _, _, _, _, _, _, _, _, _, _, _, _, rfl⟩
            obtain ⟨cac1, cbc1, rfl, hac1, hbc1⟩ := Holds.pair_cell hHz
            obtain ⟨cac2, cbc2, rfl, hac2, hbc2⟩ := Holds.pair_cell hac1
            obtain rfl := Holds.int_cell hac2
            obtain rfl := Holds.int_cell hbc2
            obtain ⟨cac3, cbc3, rfl, hac3, hbc3⟩ := Holds.pair_cell hbc1
            have hsubc1 := hac3
            obtain ⟨cac4, cbc4, rfl, hac4, hbc4⟩ := Holds.pair_cell hac3
            obtain rfl := Holds.int_cell hac4
            obtain ⟨cac5, cbc5, rfl, hac5, hbc5⟩ := Holds.pair_cell hbc4
            obtain rfl := Holds.int_cell hac5
            obtain rfl := Holds.int_cell hbc5
            obtain ⟨cac6, cbc6, rfl, hac6, hbc6⟩ := Holds.pair_cell hbc3
            have hsubc2 := hac6
            obtain ⟨cac7, cbc7, rfl, hac7, hbc7⟩ := Holds.pair_cell hac6
            obtain rfl := Holds.int_cell hac7
            obtain ⟨cac8, cbc8, rfl, hac8, hbc8⟩ := Holds.pair_cell hbc7
            obtain ⟨cac9, cbc9, rfl, hac9, hbc9⟩ := Holds.pair_cell hac8
            obtain rfl := Holds.str_cell hac9
            obtain ⟨cac10, cbc10, rfl, hac10, hbc10⟩ := Holds.pair_cell hbc9
            obtain rfl := Holds.str_cell hac10
            obtain ⟨cac11, cbc11, rfl, hac11, hbc11⟩ := Holds.pair_cell hbc10
            obtain rfl := Holds.str_cell hac11
            obtain rfl := Holds.str_cell hbc11
            obtain ⟨cac12, cbc12, rfl, hac12, hbc12⟩ := Holds.pair_cell hbc8
            obtain rfl := Holds.bool_cell hac12
            obtain ⟨cac13, cbc13, rfl, hac13, hbc13⟩ := Holds.pair_cell hbc12
            obtain rfl := Holds.int_cell hac13
            obtain ⟨cac14, cbc14, rfl, hac14, hbc14⟩ := Holds.pair_cell hbc13
            obtain ⟨cac15, cbc15, rfl, hac15, hbc15⟩ := Holds.pair_cell hac14
            obtain rfl := Holds.int_cell hac15
            obtain ⟨cac16, cbc16, rfl, hac16, hbc16⟩ := Holds.pair_cell hbc15
            obtain rfl := Holds.int_cell hac16
            obtain rfl := Holds.str_cell hbc16
            obtain ⟨Au15, capu15, rfl, hhu15⟩ := Holds.list_cell hbc14
            obtain ⟨cac17, cbc17, rfl, hac17, hbc17⟩ := Holds.pair_cell hbc6
            obtain rfl := Holds.int_cell hac17
            obtain ⟨cac18, cbc18, rfl, hac18, hbc18⟩ := Holds.pair_cell hbc17
            obtain rfl := Holds.bool_cell hac18
            obtain ⟨cac19, cbc19, rfl, hac19, hbc19⟩ := Holds.pair_cell hbc18
            obtain rfl := Holds.bool_cell hac19
            obtain ⟨cac20, cbc20, rfl, hac20, hbc20⟩ := Holds.pair_cell hbc19
            obtain rfl := Holds.str_cell hac20
            obtain ⟨cac21, cbc21, rfl, hac21, hbc21⟩ := Holds.pair_cell hbc20
            obtain rfl := Holds.int_cell hac21
            obtain rfl := Holds.int_cell hbc21
            rw [show tJob.sz = 22 from rfl] at hds
            have HCL := Lib.hid (show ∀ (j : Nat) (v : Value), [.int .i64 u0, .int .i64 u1, .int .i64 u2, .int .i64 u3, .int .i64 u4, .int .i64 u5, .string u6, .string u7, .string u8, .string u9, .bool u10, .int .i64 u11, .int .i64 u12, .int .i64 u13, .string u14, .slice Au15 u15.length capu15, .int .i64 u16, .bool u17, .bool u18, .string u19, .int .i64 u20, .int .i64 u21][j]? = some v → wr.cell? ((⟨bb, bo + kc * 22, none⟩ : Addr).add j) = some v from fun j v hv => by rw [add_at]; exact keep1 (hds j v hv) HXc.out)
            obtain ⟨Pqc, hPqc⟩ : ∃ P, Pl ++ encs tJob.cod (y4.take kc) = P := ⟨_, rfl⟩
            rw [hPqc]
            have hEE : Pqc ++ tJob.cod.enc ((u0, u1), ((u2, (u3, u4)), ((u5, ((u6, (u7, (u8, u9))), (u10, (u11, ((u12, (u13, u14)), u15))))), (u16, (u17, (u18, (u19, (u20, u21)))))))) = Pqc ++ ([u0, u1].flatMap num) ++ (tTid.cod.enc (u2, (u3, u4))) ++ (tDdl.cod.enc (u5, ((u6, (u7, (u8, u9))), (u10, (u11, ((u12, (u13, u14)), u15)))))) ++ (num u16) ++ (cFlag.enc u17) ++ (cFlag.enc u18) ++ (cStr.enc u19) ++ ([u20, u21].flatMap num) := by
              have h1 : tJob.cod.enc ((u0, u1), ((u2, (u3, u4)), ((u5, ((u6, (u7, (u8, u9))), (u10, (u11, ((u12, (u13, u14)), u15))))), (u16, (u17, (u18, (u19, (u20, u21)))))))) = ((num u0 ++ num u1) ++ ((num u2 ++ (num u3 ++ num u4)) ++ ((num u5 ++ ((cStr.enc u6 ++ (cStr.enc u7 ++ (cStr.enc u8 ++ cStr.enc u9))) ++ (cFlag.enc u10 ++ (num u11 ++ ((num u12 ++ (num u13 ++ cStr.enc u14)) ++ (Ty.list tColumn).cod.enc u15))))) ++ (num u16 ++ (cFlag.enc u17 ++ (cFlag.enc u18 ++ (cStr.enc u19 ++ (num u20 ++ num u21)))))))) := rfl
              rw [h1]
              have h11 : tTid.cod.enc (u2, (u3, u4)) = (num u2 ++ (num u3 ++ num u4)) := rfl
              rw [h11]
              have h12 : tDdl.cod.enc (u5, ((u6, (u7, (u8, u9))), (u10, (u11, ((u12, (u13, u14)), u15))))) = (num u5 ++ ((cStr.enc u6 ++ (cStr.enc u7 ++ (cStr.enc u8 ++ cStr.enc u9))) ++ (cFlag.enc u10 ++ (num u11 ++ ((num u12 ++ (num u13 ++ cStr.enc u14)) ++ (Ty.list tColumn).cod.enc u15))))) := rfl
              rw [h12]
              simp only [List.append_assoc, List.flatMap_cons, List.flatMap_nil, List.append_nil]
            have htot : (Pqc ++ ([u0, u1].flatMap num) ++ (tTid.cod.enc (u2, (u3, u4))) ++ (tDdl.cod.enc (u5, ((u6, (u7, (u8, u9))), (u10, (u11, ((u12, (u13, u14)), u15)))))) ++ (num u16) ++ (cFlag.enc u17) ++ (cFlag.enc u18) ++ (cStr.enc u19) ++ ([u20, u21].flatMap num)).length ≤ 68719476736 := by
              rw [← hEE, ← hPqc]
              have h3 := HT2.out
              have h4 : (encs tJob.cod (y4.take kc) ++ tJob.cod.enc ((u0, u1), ((u2, (u3, u4)), ((u5, ((u6, (u7, (u8, u9))), (u10, (u11, ((u12, (u13, u14)), u15))))), (u16, (u17, (u18, (u19, (u20, u21))))))))).length ≤ (encs tJob.cod y4).length := hsz2
              simp only [List.length_append] at h3 h4 ⊢
              omega
            obtain ⟨Rc0, hRc0⟩ : ∃ R, [u0, u1].flatMap num = R := ⟨_, rfl⟩
            obtain ⟨Rc1, hRc1⟩ : ∃ R, tTid.cod.enc (u2, (u3, u4)) = R := ⟨_, rfl⟩
            obtain ⟨Rc2, hRc2⟩ : ∃ R, tDdl.cod.enc (u5, ((u6, (u7, (u8, u9))), (u10, (u11, ((u12, (u13, u14)), u15))))) = R := ⟨_, rfl⟩
            obtain ⟨Rc3, hRc3⟩ : ∃ R, num u16 = R := ⟨_, rfl⟩
            obtain ⟨Rc4, hRc4⟩ : ∃ R, cFlag.enc u17 = R := ⟨_, rfl⟩
            obtain ⟨Rc5, hRc5⟩ : ∃ R, cFlag.enc u18 = R := ⟨_, rfl⟩
            obtain ⟨Rc6, hRc6⟩ : ∃ R, cStr.enc u19 = R := ⟨_, rfl⟩
            obtain ⟨Rc7, hRc7⟩ : ∃ R, [u20, u21].flatMap num = R := ⟨_, rfl⟩
            obtain ⟨Pc0, hPc0⟩ : ∃ P, Pqc ++ Rc0 = P := ⟨_, rfl⟩
            obtain ⟨Pc1, hPc1⟩ : ∃ P, Pc0 ++ Rc1 = P := ⟨_, rfl⟩
            obtain ⟨Pc2, hPc2⟩ : ∃ P, Pc1 ++ Rc2 = P := ⟨_, rfl⟩
            obtain ⟨Pc3, hPc3⟩ : ∃ P, Pc2 ++ Rc3 = P := ⟨_, rfl⟩
            obtain ⟨Pc4, hPc4⟩ : ∃ P, Pc3 ++ Rc4 = P := ⟨_, rfl⟩
            obtain ⟨Pc5, hPc5⟩ : ∃ P, Pc4 ++ Rc5 = P := ⟨_, rfl⟩
            obtain ⟨Pc6, hPc6⟩ : ∃ P, Pc5 ++ Rc6 = P := ⟨_, rfl⟩
            obtain ⟨Pc7, hPc7⟩ : ∃ P, Pc6 ++ Rc7 = P := ⟨_, rfl⟩
            have hEc : Pc7 = Pqc ++ ([u0, u1].flatMap num) ++ (tTid.cod.enc (u2, (u3, u4))) ++ (tDdl.cod.enc (u5, ((u6, (u7, (u8, u9))), (u10, (u11, ((u12, (u13, u14)), u15)))))) ++ (num u16) ++ (cFlag.enc u17) ++ (cFlag.enc u18) ++ (cStr.enc u19) ++ ([u20, u21].flatMap num) := by rw [← hPc7, ← hPc6, ← hPc5, ← hPc4, ← hPc3, ← hPc2, ← hPc1, ← hPc0, ← hRc0, ← hRc1, ← hRc2, ← hRc3, ← hRc4, ← hRc5, ← hRc6, ← hRc7]
            have hlc8 : Pc7.length ≤ 68719476736 := by rw [hEc]; exact htot
            have hlc7 : Pc6.length + Rc7.length ≤ 68719476736 := by rw [← List.length_append, hPc7]; exact hlc8
            have hlc6 : Pc5.length + Rc6.length ≤ 68719476736 := by rw [← List.length_append, hPc6]; omega
            have hlc5 : Pc4.length + Rc5.length ≤ 68719476736 := by rw [← List.length_append, hPc5]; omega
            have hlc4 : Pc3.length + Rc4.length ≤ 68719476736 := by rw [← List.length_append, hPc4]; omega
            have hlc3 : Pc2.length + Rc3.length ≤ 68719476736 := by rw [← List.length_append, hPc3]; omega
            have hlc2 : Pc1.length + Rc2.length ≤ 68719476736 := by rw [← List.length_append, hPc2]; omega
            have hlc1 : Pc0.length + Rc1.length ≤ 68719476736 := by rw [← List.length_append, hPc1]; omega
            have hlc0 : Pqc.length + Rc0.length ≤ 68719476736 := by rw [← List.length_append, hPc0]; omega
            have HFc0 := Lib.hid (show ∀ n ∈ [u0, u1], Fits n from fits_cons hzok.1.1 (fits_cons hzok.1.2 (fits_nil)))
            have HOc1 := Lib.hid (show tTid.cod.ok (u2, (u3, u4)) from hzok.2.1)
            have HLnc1 := Lib.hid (show (tTid.cod.enc (u2, (u3, u4))).length ≤ 68719476736 by rw [hRc1]; omega)
            have HOc2 := Lib.hid (show tDdl.cod.ok (u5, ((u6, (u7, (u8, u9))), (u10, (u11, ((u12, (u13, u14)), u15))))) from hzok.2.2.1)
            have HLnc2 := Lib.hid (show (tDdl.cod.enc (u5, ((u6, (u7, (u8, u9))), (u10, (u11, ((u12, (u13, u14)), u15)))))).length ≤ 68719476736 by rw [hRc2]; omega)
            have HFc3 := Lib.hid (show Fits u16 from hzok.2.2.2.1)
            have hsc6 : u19.size ≤ 281474976710656 := str_size hRc6 (by omega)
            have HFc7 := Lib.hid (show ∀ n ∈ [u20, u21], Fits n from fits_cons hzok.2.2.2.2.2.2.2.1 (fits_cons hzok.2.2.2.2.2.2.2.2 (fits_nil)))
            have sac0 : ¬ 9223372036854775807 < (mkb Pqc).size + (mkb Rc0).size := by simp only [mkb_size]; omega
            have scc0 : mkb Pqc ++ mkb Rc0 = mkb Pc0 := by rw [mkb_append, hPc0]
            have sac1 : ¬ 9223372036854775807 < (mkb Pc0).size + (mkb Rc1).size := by simp only [mkb_size]; omega
            have scc1 : mkb Pc0 ++ mkb Rc1 = mkb Pc1 := by rw [mkb_append, hPc1]
            have sac2 : ¬ 9223372036854775807 < (mkb Pc1).size + (mkb Rc2).size := by simp only [mkb_size]; omega
            have scc2 : mkb Pc1 ++ mkb Rc2 = mkb Pc2 := by rw [mkb_append, hPc2]
            have sac3 : ¬ 9223372036854775807 < (mkb Pc2).size + (mkb Rc3).size := by simp only [mkb_size]; omega
            have scc3 : mkb Pc2 ++ mkb Rc3 = mkb Pc3 := by rw [mkb_append, hPc3]
            have sac4 : ¬ 9223372036854775807 < (mkb Pc3).size + (mkb Rc4).size := by simp only [mkb_size]; omega
            have scc4 : mkb Pc3 ++ mkb Rc4 = mkb Pc4 := by rw [mkb_append, hPc4]
            have sac5 : ¬ 9223372036854775807 < (mkb Pc4).size + (mkb Rc5).size := by simp only [mkb_size]; omega
            have scc5 : mkb Pc4 ++ mkb Rc5 = mkb Pc5 := by rw [mkb_append, hPc5]
            have sac6 : ¬ 9223372036854775807 < (mkb Pc5).size + (mkb Rc6).size := by simp only [mkb_size]; omega
            have scc6 : mkb Pc5 ++ mkb Rc6 = mkb Pc6 := by rw [mkb_append, hPc6]
            have sac7 : ¬ 9223372036854775807 < (mkb Pc6).size + (mkb Rc7).size := by simp only [mkb_size]; omega
            have scc7 : mkb Pc6 ++ mkb Rc7 = mkb Pc7 := by rw [mkb_append, hPc7]
            have HRc0 := Lib.hid hRc0
            have HRc1 := Lib.hid hRc1
            have HRc2 := Lib.hid hRc2
            have HRc3 := Lib.hid hRc3
            have HRc4 := Lib.hid hRc4
            have HRc5 := Lib.hid hRc5
            have HRc6 := Lib.hid hRc6
            have HRc7 := Lib.hid hRc7
            have HEc := Lib.hid hEc
            clear hEc hRc0 hPc0 hRc1 hPc1 hRc2 hPc2 hRc3 hPc3 hRc4 hPc4 hRc5 hPc5 hRc6 hPc6 hRc7 hPc7
            have hPE : Pqc ++ tJob.cod.enc ((u0, u1), ((u2, (u3, u4)), ((u5, ((u6, (u7, (u8, u9))), (u10, (u11, ((u12, (u13, u14)), u15))))), (u16, (u17, (u18, (u19, (u20, u21)))))))) = Pc7 := by rw [HEc.out]; exact hEE
            have HZc := Lib.hid hz
            have HPEc := Lib.hid hPE
            have HPqc := Lib.hid hPqc
            have HTTc := Lib.hid htot
            clear hds hz hsz2 hEE htot hPE hPqc hokb hHz hac1 hac2 hbc2 hbc1 hac3 hac4 hbc4 hac5 hbc5 hbc3 hac6 hac7 hbc7 hac8 hac9 hbc9 hac10 hbc10 hac11 hbc11 hbc8 hac12 hbc12 hac13 hbc13 hac14 hac15 hbc15 hac16 hbc16 hbc14 hbc6 hac17 hbc17 hac18 hbc18 hac19 hbc19 hac20 hbc20 hac21 hbc21
            have hlu15 : u15.length ≤ 9223372036854775807 := hzok.2.2.1.2.2.2.2.2.1
            clear hzok hhu15
            have c0c : (0 : Int) ≤ (kc : Int) := by omega
            have c1c : (kc : Int) < (L4 : Int) := by omega
            have hbw : Below wr.heap.size wr (wr.alloc (.cells #[.int .i64 u0, .int .i64 u1, .int .i64 u2, .int .i64 u3, .int .i64 u4, .int .i64 u5, .string u6, .string u7, .string u8, .string u9, .bool u10, .int .i64 u11, .int .i64 u12, .int .i64 u13, .string u14, .slice Au15 u15.length capu15, .int .i64 u16, .bool u17, .bool u18, .string u19, .int .i64 u20, .int .i64 u21] 86)) := (Below.refl _ _).alloc (Nat.le_refl _) _
            have hkk := blk_new wr (.cells #[.int .i64 u0, .int .i64 u1, .int .i64 u2, .int .i64 u3, .int .i64 u4, .int .i64 u5, .string u6, .string u7, .string u8, .string u9, .bool u10, .int .i64 u11, .int .i64 u12, .int .i64 u13, .string u14, .slice Au15 u15.length capu15, .int .i64 u16, .bool u17, .bool u18, .string u19, .int .i64 u20, .int .i64 u21] 86)
            obtain ⟨wcc, hwc⟩ : ∃ wc, wr.alloc (.cells #[.int .i64 u0, .int .i64 u1, .int .i64 u2, .int .i64 u3, .int .i64 u4, .int .i64 u5, .string u6, .string u7, .string u8, .string u9, .bool u10, .int .i64 u11, .int .i64 u12, .int .i64 u13, .string u14, .slice Au15 u15.length capu15, .int .i64 u16, .bool u17, .bool u18, .string u19, .int .i64 u20, .int .i64 u21] 86) = wc := ⟨_, rfl⟩
            obtain ⟨tbc, htb⟩ : ∃ n, wr.heap.size = n := ⟨_, rfl⟩
            have HBwc := Lib.hid (below_step HBc.out hbw)
            rw [hwc, htb] at hkk
            rw [hwc] at HBwc
            have xc0 : wcc.cell? ⟨tbc, 0, none⟩ = some (.int .i64 u0) := (blk_cell hkk 0).trans rfl
            have xc1 : wcc.cell? ⟨tbc, 1, none⟩ = some (.int .i64 u1) := (blk_cell hkk 1).trans rfl
            have xc2 : wcc.cell? ⟨tbc, 2, none⟩ = some (.int .i64 u2) := (blk_cell hkk 2).trans rfl
            have xc3 : wcc.cell? ⟨tbc, 3, none⟩ = some (.int .i64 u3) := (blk_cell hkk 3).trans rfl
            have xc4 : wcc.cell? ⟨tbc, 4, none⟩ = some (.int .i64 u4) := (blk_cell hkk 4).trans rfl
            have xc5 : wcc.cell? ⟨tbc, 5, none⟩ = some (.int .i64 u5) := (blk_cell hkk 5).trans rfl
            have xc6 : wcc.cell? ⟨tbc, 6, none⟩ = some (.string u6) := (blk_cell hkk 6).trans rfl
            have xc7 : wcc.cell? ⟨tbc, 7, none⟩ = some (.string u7) := (blk_cell hkk 7).trans rfl
            have xc8 : wcc.cell? ⟨tbc, 8, none⟩ = some (.string u8) := (blk_cell hkk 8).trans rfl
            have xc9 : wcc.cell? ⟨tbc, 9, none⟩ = some (.string u9) := (blk_cell hkk 9).trans rfl
            have xc10 : wcc.cell? ⟨tbc, 10, none⟩ = some (.bool u10) := (blk_cell hkk 10).trans rfl
            have xc11 : wcc.cell? ⟨tbc, 11, none⟩ = some (.int .i64 u11) := (blk_cell hkk 11).trans rfl
            have xc12 : wcc.cell? ⟨tbc, 12, none⟩ = some (.int .i64 u12) := (blk_cell hkk 12).trans rfl
            have xc13 : wcc.cell? ⟨tbc, 13, none⟩ = some (.int .i64 u13) := (blk_cell hkk 13).trans rfl
            have xc14 : wcc.cell? ⟨tbc, 14, none⟩ = some (.string u14) := (blk_cell hkk 14).trans rfl
            have xc15 : wcc.cell? ⟨tbc, 15, none⟩ = some (.slice Au15 u15.length capu15) := (blk_cell hkk 15).trans rfl
            have xc16 : wcc.cell? ⟨tbc, 16, none⟩ = some (.int .i64 u16) := (blk_cell hkk 16).trans rfl
            have xc17 : wcc.cell? ⟨tbc, 17, none⟩ = some (.bool u17) := (blk_cell hkk 17).trans rfl
            have xc18 : wcc.cell? ⟨tbc, 18, none⟩ = some (.bool u18) := (blk_cell hkk 18).trans rfl
            have xc19 : wcc.cell? ⟨tbc, 19, none⟩ = some (.string u19) := (blk_cell hkk 19).trans rfl
            have xc20 : wcc.cell? ⟨tbc, 20, none⟩ = some (.int .i64 u20) := (blk_cell hkk 20).trans rfl
            have xc21 : wcc.cell? ⟨tbc, 21, none⟩ = some (.int .i64 u21) := (blk_cell hkk 21).trans rfl
            have Qc0 := Lib.hid xc0
            have Qc1 := Lib.hid xc1
            have Qc2 := Lib.hid xc2
            have Qc3 := Lib.hid xc3
            have Qc4 := Lib.hid xc4
            have Qc5 := Lib.hid xc5
            have Qc6 := Lib.hid xc6
            have Qc7 := Lib.hid xc7
            have Qc8 := Lib.hid xc8
            have Qc9 := Lib.hid xc9
            have Qc10 := Lib.hid xc10
            have Qc11 := Lib.hid xc11
            have Qc12 := Lib.hid xc12
            have Qc13 := Lib.hid xc13
            have Qc14 := Lib.hid xc14
            have Qc15 := Lib.hid xc15
            have Qc16 := Lib.hid xc16
            have Qc17 := Lib.hid xc17
            have Qc18 := Lib.hid xc18
            have Qc19 := Lib.hid xc19
            have Qc20 := Lib.hid xc20
            have Qc21 := Lib.hid xc21
            have HXwc := Lib.hid (below_step HBB.out HBwc.out)
            have HWC := Lib.hid hwc
            have HTB := Lib.hid htb
            clear hbw hkk hwc htb
            have HHsc1 := Lib.hid (hsubc1.below HXwc.out)
            clear hsubc1
            have HHsc2 := Lib.hid (hsubc2.below HXwc.out)
            clear hsubc2
            go_upto_region 11 with (first | ((with_reducible refine gate_load (t := 86) (p := .tmp 60) rfl ?_); refine wpList_load_cells (t := 86) (c := [.int .i64 u0, .int .i64 u1, .int .i64 u2, .int .i64 u3, .int .i64 u4, .int .i64 u5, .string u6, .string u7, .string u8, .string u9, .bool u10, .int .i64 u11, .int .i64 u12, .int .i64 u13, .string u14, .slice Au15 u15.length capu15, .int .i64 u16, .bool u17, .bool u18, .string u19, .int .i64 u20, .int .i64 u21]) rfl (.tmp 60) rfl (by rfl) Try.underlying86 (by kernel_rfl) HCL.out ?_) | ((with_reducible refine gate_store (t := 86) (p := .tmp 6) (x := .tmp 61) rfl ?_); refine wpList_store_new (t := 86) rfl (.tmp 6) (.tmp 61) rfl #[.int .i64 u0, .int .i64 u1, .int .i64 u2, .int .i64 u3, .int .i64 u4, .int .i64 u5, .string u6, .string u7, .string u8, .string u9, .bool u10, .int .i64 u11, .int .i64 u12, .int .i64 u13, .string u14, .slice Au15 u15.length capu15, .int .i64 u16, .bool u17, .bool u18, .string u19, .int .i64 u20, .int .i64 u21] (by rfl) (by rfl) (by kernel_rfl) rfl (by kernel_rfl) ?_))
            clear HCL
            rw [HWC.out, HTB.out]
            clear HWC HTB  p4
            have hBc0 : Below wcc.heap.size wcc wcc := Below.refl _ _
            have KKc : Hid (∀ w', Below wcc.heap.size wcc w' → (Below wcc.heap.size wcc w' ∧ w'.cell? ⟨tbc, 0, none⟩ = some (.int .i64 u0) ∧ w'.cell? ⟨tbc, 1, none⟩ = some (.int .i64 u1) ∧ w'.cell? ⟨tbc, 2, none⟩ = some (.int .i64 u2) ∧ w'.cell? ⟨tbc, 3, none⟩ = some (.int .i64 u3) ∧ w'.cell? ⟨tbc, 4, none⟩ = some (.int .i64 u4) ∧ w'.cell? ⟨tbc, 5, none⟩ = some (.int .i64 u5) ∧ w'.cell? ⟨tbc, 6, none⟩ = some (.string u6) ∧ w'.cell? ⟨tbc, 7, none⟩ = some (.string u7) ∧ w'.cell? ⟨tbc, 8, none⟩ = some (.string u8) ∧ w'.cell? ⟨tbc, 9, none⟩ = some (.string u9) ∧ w'.cell? ⟨tbc, 10, none⟩ = some (.bool u10) ∧ w'.cell? ⟨tbc, 11, none⟩ = some (.int .i64 u11) ∧ w'.cell? ⟨tbc, 12, none⟩ = some (.int .i64 u12) ∧ w'.cell? ⟨tbc, 13, none⟩ = some (.int .i64 u13) ∧ w'.cell? ⟨tbc, 14, none⟩ = some (.string u14) ∧ w'.cell? ⟨tbc, 15, none⟩ = some (.slice Au15 u15.length capu15) ∧ w'.cell? ⟨tbc, 16, none⟩ = some (.int .i64 u16) ∧ w'.cell? ⟨tbc, 17, none⟩ = some (.bool u17) ∧ w'.cell? ⟨tbc, 18, none⟩ = some (.bool u18) ∧ w'.cell? ⟨tbc, 19, none⟩ = some (.string u19) ∧ w'.cell? ⟨tbc, 20, none⟩ = some (.int .i64 u20) ∧ w'.cell? ⟨tbc, 21, none⟩ = some (.int .i64 u21))) := Lib.hid (fun w' hX => ⟨hX, keep1 xc0 hX, keep1 xc1 hX, keep1 xc2 hX, keep1 xc3 hX, keep1 xc4 hX, keep1 xc5 hX, keep1 xc6 hX, keep1 xc7 hX, keep1 xc8 hX, keep1 xc9 hX, keep1 xc10 hX, keep1 xc11 hX, keep1 xc12 hX, keep1 xc13 hX, keep1 xc14 hX, keep1 xc15 hX, keep1 xc16 hX, keep1 xc17 hX, keep1 xc18 hX, keep1 xc19 hX, keep1 xc20 hX, keep1 xc21 hX⟩)
            go_region_held3 (fun w' => Below wcc.heap.size wcc w' ∧ w'.cell? ⟨tbc, 0, none⟩ = some (.int .i64 u0) ∧ w'.cell? ⟨tbc, 1, none⟩ = some (.int .i64 u1) ∧ w'.cell? ⟨tbc, 2, none⟩ = some (.int .i64 u2) ∧ w'.cell? ⟨tbc, 3, none⟩ = some (.int .i64 u3) ∧ w'.cell? ⟨tbc, 4, none⟩ = some (.int .i64 u4) ∧ w'.cell? ⟨tbc, 5, none⟩ = some (.int .i64 u5) ∧ w'.cell? ⟨tbc, 6, none⟩ = some (.string u6) ∧ w'.cell? ⟨tbc, 7, none⟩ = some (.string u7) ∧ w'.cell? ⟨tbc, 8, none⟩ = some (.string u8) ∧ w'.cell? ⟨tbc, 9, none⟩ = some (.string u9) ∧ w'.cell? ⟨tbc, 10, none⟩ = some (.bool u10) ∧ w'.cell? ⟨tbc, 11, none⟩ = some (.int .i64 u11) ∧ w'.cell? ⟨tbc, 12, none⟩ = some (.int .i64 u12) ∧ w'.cell? ⟨tbc, 13, none⟩ = some (.int .i64 u13) ∧ w'.cell? ⟨tbc, 14, none⟩ = some (.string u14) ∧ w'.cell? ⟨tbc, 15, none⟩ = some (.slice Au15 u15.length capu15) ∧ w'.cell? ⟨tbc, 16, none⟩ = some (.int .i64 u16) ∧ w'.cell? ⟨tbc, 17, none⟩ = some (.bool u17) ∧ w'.cell? ⟨tbc, 18, none⟩ = some (.bool u18) ∧ w'.cell? ⟨tbc, 19, none⟩ = some (.string u19) ∧ w'.cell? ⟨tbc, 20, none⟩ = some (.int .i64 u20) ∧ w'.cell? ⟨tbc, 21, none⟩ = some (.int .i64 u21))
              (first | ((with_reducible refine KKc.out _ ?_); (repeat (first | with_reducible refine bel_drew ?_ | with_reducible refine bel_alloc ?_)); first | with_reducible exact hBc8 | with_reducible exact hBc7 | with_reducible exact hBc6 | with_reducible exact hBc5 | with_reducible exact hBc4 | with_reducible exact hBc3 | with_reducible exact hBc2 | with_reducible exact hBc1 | with_reducible exact hBc0))
              (first | (go_at_call 29; have hp := hBc7; refine (nums_at [u20, u21] Rc7 HRc7.out 2 rfl _ 2 _ (by decide) HFc7.out (by repeat (first | ((with_reducible refine rowB ?_ ?_); rfl; (first | (with_reducible rfl) | (simp; done)); done) | with_reducible refine row_drew ?_ | with_reducible refine row_alloc ?_ | with_reducible refine row_below hrc8 ?_ | with_reducible refine row_below hrc7 ?_ | with_reducible refine row_below hrc6 ?_ | with_reducible refine row_below hrc5 ?_ | with_reducible refine row_below hrc4 ?_ | with_reducible refine row_below hrc3 ?_ | with_reducible refine row_below hrc2 ?_ | with_reducible refine row_below hrc1 ?_))).mono ?_; rintro e vc8 ⟨rfl, hrc8⟩; have hBc8 : Below wcc.heap.size wcc vc8 := below_step (by (repeat (first | with_reducible refine bel_drew ?_ | with_reducible refine bel_alloc ?_)); with_reducible exact hp) hrc8) | (go_at_call 32; have hp := hBc6; refine (text_ref' u19 Rc6 HRc6.out _ hsc6).mono ?_; rintro e vc7 ⟨rfl, hrc7⟩; have hBc7 : Below wcc.heap.size wcc vc7 := below_step (by (repeat (first | with_reducible refine bel_drew ?_ | with_reducible refine bel_alloc ?_)); with_reducible exact hp) hrc7) | (go_at_call 30; have hp := hBc5; refine (flag_ref' u18 Rc5 HRc5.out _).mono ?_; rintro e vc6 ⟨rfl, hrc6⟩; have hBc6 : Below wcc.heap.size wcc vc6 := below_step (by (repeat (first | with_reducible refine bel_drew ?_ | with_reducible refine bel_alloc ?_)); with_reducible exact hp) hrc6) | (go_at_call 30; have hp := hBc4; refine (flag_ref' u17 Rc4 HRc4.out _).mono ?_; rintro e vc5 ⟨rfl, hrc5⟩; have hBc5 : Below wcc.heap.size wcc vc5 := below_step (by (repeat (first | with_reducible refine bel_drew ?_ | with_reducible refine bel_alloc ?_)); with_reducible exact hp) hrc5) | (go_at_call 41; have hp := hBc3; refine (num_ref' u16 Rc3 HRc3.out _ HFc3.out).mono ?_; rintro e vc4 ⟨rfl, hrc4⟩; have hBc4 : Below wcc.heap.size wcc vc4 := below_step (by (repeat (first | with_reducible refine bel_drew ?_ | with_reducible refine bel_alloc ?_)); with_reducible exact hp) hrc4) | (go_at_call 48; have hp := hBc2; refine (sub_ref' ddl_ref _ [.int .i64 u5, .string u6, .string u7, .string u8, .string u9, .bool u10, .int .i64 u11, .int .i64 u12, .int .i64 u13, .string u14, .slice Au15 u15.length capu15] _ Rc2 HRc2.out _ (HHsc2.out.below (by (repeat (first | with_reducible refine bel_drew ?_ | with_reducible refine bel_alloc ?_)); with_reducible exact hp)) HOc2.out HLnc2.out).mono ?_; rintro e vc3 ⟨rfl, hrc3⟩; have hBc3 : Below wcc.heap.size wcc vc3 := below_step (by (repeat (first | with_reducible refine bel_drew ?_ | with_reducible refine bel_alloc ?_)); with_reducible exact hp) hrc3) | (go_at_call 42; have hp := hBc1; refine (sub_ref' tid_ref _ [.int .i64 u2, .int .i64 u3, .int .i64 u4] _ Rc1 HRc1.out _ (HHsc1.out.below (by (repeat (first | with_reducible refine bel_drew ?_ | with_reducible refine bel_alloc ?_)); with_reducible exact hp)) HOc1.out HLnc1.out).mono ?_; rintro e vc2 ⟨rfl, hrc2⟩; have hBc2 : Below wcc.heap.size wcc vc2 := below_step (by (repeat (first | with_reducible refine bel_drew ?_ | with_reducible refine bel_alloc ?_)); with_reducible exact hp) hrc2) | (go_at_call 29; have hp := hBc0; refine (nums_at [u0, u1] Rc0 HRc0.out 2 rfl _ 2 _ (by decide) HFc0.out (by repeat (first | ((with_reducible refine rowB ?_ ?_); rfl; (first | (with_reducible rfl) | (simp; done)); done) | with_reducible refine row_drew ?_ | with_reducible refine row_alloc ?_ | with_reducible refine row_below hrc8 ?_ | with_reducible refine row_below hrc7 ?_ | with_reducible refine row_below hrc6 ?_ | with_reducible refine row_below hrc5 ?_ | with_reducible refine row_below hrc4 ?_ | with_reducible refine row_below hrc3 ?_ | with_reducible refine row_below hrc2 ?_ | with_reducible refine row_below hrc1 ?_))).mono ?_; rintro e vc1 ⟨rfl, hrc1⟩; have hBc1 : Below wcc.heap.size wcc vc1 := below_step (by (repeat (first | with_reducible refine bel_drew ?_ | with_reducible refine bel_alloc ?_)); with_reducible exact hp) hrc1))
            all_goals
              go_wp2_with fail
              go_roundw
              case rel =>
                refine ⟨kc + 1, by go_num, by omega, ?_, below_step HBwc.out hBc8⟩
                rw [encs_snoc _ y4 kc _ HZc.out, ← List.append_assoc, HPqc.out]
                exact congrArg (fun l => Value.string (mkb l)) HPEc.out.symm
              case measure => simp [intOf]; omega
          · obtain rfl : kc = L4 := by omega
            have h9 : Pl ++ encs tJob.cod (y4.take kc) = F := by rw [← HL4.out, List.take_length]; exact HF2.out
            rw [h9]
            clear h9
            go_wp2_with fail
            go_ret
            exact ⟨rfl, HXc.out⟩
theorem plan_ref (x : tPlan.T) (cs : List Value) (ok : Nat → Prop) (w : World) (hH : Holds w ok tPlan x cs) (hok : tPlan.cod.ok x) (hlen : (tPlan.cod.enc x).length ≤ 68719476736) :
    Calls Try.prog 25 #[.agg cs.toArray] w fun e w' => e = .returned (.string (mkb (tPlan.cod.enc x))) ∧ Below w.heap.size w w' := by
  obtain ⟨⟨y0, y1⟩, ⟨y2, ⟨y3, y4⟩⟩⟩ := x
  exact plan_refL y0 y1 y2 y3 y4 cs ok w hH hok hlen
end Go.Proofs.Ytlcgkcmicklihaa.Wire
