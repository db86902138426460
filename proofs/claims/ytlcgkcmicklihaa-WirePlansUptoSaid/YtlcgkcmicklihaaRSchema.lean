/- The reference over the tables. -/
import Derived.Test.YtlcgkcmicklihaaRDdl
import Derived.Test.YtlcgkcmicklihaaWide
import Derived.Test.YtlcgkcmicklihaaMPlan
namespace Go.Proofs.Ytlcgkcmicklihaa.Wire
set_option linter.unusedVariables false
set_option linter.unusedSimpArgs false
open Go.RowKit Go.Proofs.YtlcgkcmicklihaaW.PrintWords Go.Proofs.YtlcgkcmicklihaaW.PrintLast Go.Proofs.YtlcgkcmicklihaaW.PrintMore
def tSchema : Ty := .pair (ints 1) (.list tTable)
set_option maxRecDepth 100000 in
set_option maxHeartbeats 16000000 in
theorem schema_refL (y0 : Int) (y1 : Int) (y2 : List tTable.T) (cs : List Value) (ok : Nat → Prop) (w : World) (hH : Holds w ok tSchema ((y0, y1), y2) cs) (hok : tSchema.cod.ok ((y0, y1), y2)) (hlen : (tSchema.cod.enc ((y0, y1), y2)).length ≤ 68719476736) :
    Calls Try.prog 52 #[.agg cs.toArray] w fun e w' => e = .returned (.string (mkb (tSchema.cod.enc ((y0, y1), y2)))) ∧ Below w.heap.size w w' := by
  obtain ⟨ca1, cb1, rfl, ha1, hb1⟩ := Holds.pair_cell hH
  obtain ⟨ca2, cb2, rfl, ha2, hb2⟩ := Holds.pair_cell ha1
  obtain rfl := Holds.int_cell ha2
  obtain rfl := Holds.int_cell hb2
  obtain ⟨A2, cap2, rfl, hh2⟩ := Holds.list_cell hb1
  clear ha1 ha2 hb2 hb1
  obtain ⟨L2, hL2⟩ : ∃ n, y2.length = n := ⟨_, rfl⟩
  have hm2 : y2.length ≤ 9223372036854775807 := hok.2.1
  have hk2 := hok.2.2
  rw [hL2] at hh2 hm2
  have hE0 : tSchema.cod.enc ((y0, y1), y2) = [y0, y1].flatMap num ++ num (L2 : Int) ++ encs tTable.cod y2 := by
    have h1 : tSchema.cod.enc ((y0, y1), y2) = ((num y0 ++ num y1) ++ (Ty.list tTable).cod.enc y2) := rfl
    have h2 : (Ty.list tTable).cod.enc y2 = num (y2.length : Int) ++ encs tTable.cod y2 := rfl
    rw [h1, h2, hL2]
    simp only [List.append_assoc, List.flatMap_cons, List.flatMap_nil, List.append_nil]
  rw [hE0] at hlen
  rw [hE0]
  obtain ⟨F, hF⟩ : ∃ F, [y0, y1].flatMap num ++ num (L2 : Int) ++ encs tTable.cod y2 = F := ⟨_, rfl⟩
  have hlf : F.length ≤ 68719476736 := by rw [← hF]; exact hlen
  rw [hF]
  rw [hL2]
  obtain ⟨wb, hwb⟩ : ∃ wb, w.alloc (.cells #[.int .i64 y0, .int .i64 y1, .slice A2 L2 cap2] 76) = wb := ⟨_, rfl⟩
  have hbb : Below w.heap.size w wb := by rw [← hwb]; exact (Below.refl _ _).alloc (Nat.le_refl _) _
  have q0 : wb.cell? ⟨w.heap.size, 0, none⟩ = some (.int .i64 y0) := by rw [← hwb]; exact (blk_cell (blk_new w _) 0).trans rfl
  have q1 : wb.cell? ⟨w.heap.size, 1, none⟩ = some (.int .i64 y1) := by rw [← hwb]; exact (blk_cell (blk_new w _) 1).trans rfl
  have q2 : wb.cell? ⟨w.heap.size, 2, none⟩ = some (.slice A2 L2 cap2) := by rw [← hwb]; exact (blk_cell (blk_new w _) 2).trans rfl
  have hNb : w.heap.size < wb.heap.size := by rw [← hwb]; simp
  obtain ⟨Ra0, hRa0⟩ : ∃ R, [y0, y1].flatMap num = R := ⟨_, rfl⟩
  obtain ⟨Ra1, hRa1⟩ : ∃ R, num (L2 : Int) = R := ⟨_, rfl⟩
  obtain ⟨Pa1, hPa1⟩ : ∃ P, Ra0 ++ Ra1 = P := ⟨_, rfl⟩
  have hEa : Pa1 = ([y0, y1].flatMap num) ++ (num (L2 : Int)) := by rw [← hPa1, ← hRa0, ← hRa1]
  have hla2 : Pa1.length ≤ 68719476736 := by rw [hEa]; have h3 := hlf; rw [← hF] at h3; simp only [List.length_append] at h3 ⊢; omega
  have hla1 : Ra0.length + Ra1.length ≤ 68719476736 := by rw [← List.length_append, hPa1]; exact hla2
  have HFa0 := Lib.hid (show ∀ n ∈ [y0, y1], Fits n from fits_cons hok.1.1 (fits_cons hok.1.2 (fits_nil)))
  have HFa1 := Lib.hid (show Fits (L2 : Int) from ⟨by omega, by omega⟩)
  have saa1 : ¬ 9223372036854775807 < (mkb Ra0).size + (mkb Ra1).size := by simp only [mkb_size]; omega
  have sca1 : mkb Ra0 ++ mkb Ra1 = mkb Pa1 := by rw [mkb_append, hPa1]
  have HRa0 := Lib.hid hRa0
  have HRa1 := Lib.hid hRa1
  have HEa := Lib.hid hEa
  clear hEa hRa0 hRa1 hPa1
  have hF1 : Pa1 ++ encs tTable.cod y2 = F := by rw [HEa.out]; exact hF
  have hT1 : (Pa1 ++ encs tTable.cod y2).length ≤ 68719476736 := by rw [hF1]; exact hlf
  have HBB := Lib.hid hbb
  have HF1 := Lib.hid hF1
  have HT1 := Lib.hid hT1
  have HK2 := Lib.hid hk2
  have HL2 := Lib.hid hL2
  have HR2 := Lib.hid hh2
  clear hbb hF1 hT1 hF hE0 hk2 hL2 hh2 hlf hlen hok
  show Calls Try.prog 52 #[.agg #[.int .i64 y0, .int .i64 y1, .slice A2 L2 cap2]] w _
  go_enter Try.func52, Try.ntmps52
  go_wp2_with fail
  clear hwb
  have Q0 := Lib.hid q0
  have Q1 := Lib.hid q1
  have Q2 := Lib.hid q2
  have hBa0 : Below wb.heap.size wb wb := Below.refl _ _
  have KKa : Hid (∀ w', Below wb.heap.size wb w' → (Below wb.heap.size wb w' ∧ w'.cell? ⟨w.heap.size, 0, none⟩ = some (.int .i64 y0) ∧ w'.cell? ⟨w.heap.size, 1, none⟩ = some (.int .i64 y1) ∧ w'.cell? ⟨w.heap.size, 2, none⟩ = some (.slice A2 L2 cap2))) := Lib.hid (fun w' hX => ⟨hX, keep1 q0 hX, keep1 q1 hX, keep1 q2 hX⟩)
  go_region_held3 (fun w' => Below wb.heap.size wb w' ∧ w'.cell? ⟨w.heap.size, 0, none⟩ = some (.int .i64 y0) ∧ w'.cell? ⟨w.heap.size, 1, none⟩ = some (.int .i64 y1) ∧ w'.cell? ⟨w.heap.size, 2, none⟩ = some (.slice A2 L2 cap2))
    (first | ((with_reducible refine KKa.out _ ?_); (repeat (first | with_reducible refine bel_drew ?_ | with_reducible refine bel_alloc ?_)); first | with_reducible exact hBa2 | with_reducible exact hBa1 | with_reducible exact hBa0))
    (first | (go_at_call 41; have hp := hBa1; refine (num_ref' (L2 : Int) Ra1 HRa1.out _ HFa1.out).mono ?_; rintro e va2 ⟨rfl, hra2⟩; have hBa2 : Below wb.heap.size wb va2 := below_step (by (repeat (first | with_reducible refine bel_drew ?_ | with_reducible refine bel_alloc ?_)); with_reducible exact hp) hra2) | (go_at_call 29; have hp := hBa0; refine (nums_at [y0, y1] Ra0 HRa0.out 2 rfl _ 2 _ (by decide) HFa0.out (by repeat (first | ((with_reducible refine rowB ?_ ?_); rfl; (first | (with_reducible rfl) | (simp; done)); done) | with_reducible refine row_drew ?_ | with_reducible refine row_alloc ?_ | with_reducible refine row_below hra2 ?_ | with_reducible refine row_below hra1 ?_))).mono ?_; rintro e va1 ⟨rfl, hra1⟩; have hBa1 : Below wb.heap.size wb va1 := below_step (by (repeat (first | with_reducible refine bel_drew ?_ | with_reducible refine bel_alloc ?_)); with_reducible exact hp) hra1))
  all_goals
    have HBa := Lib.hid hBa2
    clear q0 q1 q2
    go_wp2_with fail
    go_loopw [3, 4] (fun v3 v4 wr => ∃ kb : Nat, v4 = .int .i64 (kb : Int) ∧ kb ≤ L2 ∧ v3 = .string (mkb (Pa1 ++ encs tTable.cod (y2.take kb))) ∧ Below wb.heap.size wb wr) (fun _ v4 _ => L2 - (intOf v4).toNat)
    case atStart => exact ⟨0, rfl, by omega, by simp [encs], HBa.out⟩
    case round =>
      obtain ⟨kb, rfl, hkb, rfl, hbb⟩ := hrel
      have p2 := keep1 Q2.out hbb
      have HBb := Lib.hid hbb
      have HXb := Lib.hid (below_step HBB.out hbb)
      clear hbb
      by_cases hltb : kb < L2
      · obtain ⟨z, hz⟩ : ∃ z, y2[kb]? = some z := ⟨_, List.getElem?_eq_getElem (by rw [HL2.out]; exact hltb)⟩
        obtain ⟨bb, bo, ds, rfl, hokb, hHz, hds⟩ := HR2.out.list_at hz
        have hzok := HK2.out _ (List.mem_of_getElem? hz)
        have hsz2 := encs_take_le tTable.cod y2 (kb + 1)
        rw [encs_snoc _ y2 kb z hz] at hsz2
        obtain ⟨z0, z1, z2, z3, z4, rfl⟩ : ∃ (z0 : Int) (z1 : ByteArray) (z2 : List tColumn.T) (z3 : List tIndex.T) (z4 : List tForeign.T), z = (z0, (z1, (z2, (z3, z4)))) := by
          obtain ⟨z0, ⟨z1, ⟨z2, ⟨z3, z4⟩⟩⟩⟩ := z
          exact ⟨_, _, _, _, _, rfl⟩
        obtain ⟨cab1, cbb1, rfl, hab1, hbb1⟩ := Holds.pair_cell hHz
        obtain rfl := Holds.int_cell hab1
        obtain ⟨cab2, cbb2, rfl, hab2, hbb2⟩ := Holds.pair_cell hbb1
        obtain rfl := Holds.str_cell hab2
        obtain ⟨cab3, cbb3, rfl, hab3, hbb3⟩ := Holds.pair_cell hbb2
        obtain ⟨Az2, capz2, rfl, hhz2⟩ := Holds.list_cell hab3
        obtain ⟨cab4, cbb4, rfl, hab4, hbb4⟩ := Holds.pair_cell hbb3
        obtain ⟨Az3, capz3, rfl, hhz3⟩ := Holds.list_cell hab4
        obtain ⟨Az4, capz4, rfl, hhz4⟩ := Holds.list_cell hbb4
        have nb0 := keep1 (show w.cell? ⟨bb, bo + kb * 5, none⟩ = some (.int .i64 z0) from hds 0 _ rfl) HXb.out
        have nb1 := keep1 (show w.cell? ⟨bb, bo + kb * 5 + 1, none⟩ = some (.string z1) from hds 1 _ rfl) HXb.out
        have nb2 := keep1 (show w.cell? ⟨bb, bo + kb * 5 + 2, none⟩ = some (.slice Az2 z2.length capz2) from hds 2 _ rfl) HXb.out
        have nb3 := keep1 (show w.cell? ⟨bb, bo + kb * 5 + 3, none⟩ = some (.slice Az3 z3.length capz3) from hds 3 _ rfl) HXb.out
        have nb4 := keep1 (show w.cell? ⟨bb, bo + kb * 5 + 4, none⟩ = some (.slice Az4 z4.length capz4) from hds 4 _ rfl) HXb.out
        obtain ⟨I3, hI3⟩ : ∃ n, z3.length = n := ⟨_, rfl⟩
        have hmz3 : z3.length ≤ 9223372036854775807 := hzok.2.2.2.1.1
        have HKz3 := Lib.hid hzok.2.2.2.1.2
        rw [hI3] at nb3 hhz3 hmz3
        obtain ⟨I4, hI4⟩ : ∃ n, z4.length = n := ⟨_, rfl⟩
        have hmz4 : z4.length ≤ 9223372036854775807 := hzok.2.2.2.2.1
        have HKz4 := Lib.hid hzok.2.2.2.2.2
        rw [hI4] at nb4 hhz4 hmz4
        obtain ⟨Pqb, hPqb⟩ : ∃ P, Pa1 ++ encs tTable.cod (y2.take kb) = P := ⟨_, rfl⟩
        rw [hPqb]
        have hEE : Pqb ++ tTable.cod.enc (z0, (z1, (z2, (z3, z4)))) = Pqb ++ (num z0) ++ (cStr.enc z1) ++ ((Ty.list tColumn).cod.enc z2) ++ (num (I3 : Int)) ++ encs tIndex.cod z3 ++ num (I4 : Int) ++ encs tForeign.cod z4 := by
          have h1 : tTable.cod.enc (z0, (z1, (z2, (z3, z4)))) = (num z0 ++ (cStr.enc z1 ++ ((Ty.list tColumn).cod.enc z2 ++ ((Ty.list tIndex).cod.enc z3 ++ (Ty.list tForeign).cod.enc z4)))) := rfl
          rw [h1]
          have h2 : (Ty.list tIndex).cod.enc z3 = num (z3.length : Int) ++ encs tIndex.cod z3 := rfl
          have h3 : (Ty.list tForeign).cod.enc z4 = num (z4.length : Int) ++ encs tForeign.cod z4 := rfl
          rw [h2, h3, hI3, hI4]
          simp only [List.append_assoc, List.flatMap_cons, List.flatMap_nil, List.append_nil]
        have htot : (Pqb ++ (num z0) ++ (cStr.enc z1) ++ ((Ty.list tColumn).cod.enc z2) ++ (num (I3 : Int)) ++ encs tIndex.cod z3 ++ num (I4 : Int) ++ encs tForeign.cod z4).length ≤ 68719476736 := by
          rw [← hEE, ← hPqb]
          have h3 := HT1.out
          have h4 : (encs tTable.cod (y2.take kb) ++ tTable.cod.enc (z0, (z1, (z2, (z3, z4))))).length ≤ (encs tTable.cod y2).length := hsz2
          simp only [List.length_append] at h3 h4 ⊢
          omega
        obtain ⟨Rb0, hRb0⟩ : ∃ R, num z0 = R := ⟨_, rfl⟩
        obtain ⟨Rb1, hRb1⟩ : ∃ R, cStr.enc z1 = R := ⟨_, rfl⟩
        obtain ⟨Rb2, hRb2⟩ : ∃ R, (Ty.list tColumn).cod.enc z2 = R := ⟨_, rfl⟩
        obtain ⟨Rb3, hRb3⟩ : ∃ R, num (I3 : Int) = R := ⟨_, rfl⟩
        obtain ⟨Pb0, hPb0⟩ : ∃ P, Pqb ++ Rb0 = P := ⟨_, rfl⟩
        obtain ⟨Pb1, hPb1⟩ : ∃ P, Pb0 ++ Rb1 = P := ⟨_, rfl⟩
        obtain ⟨Pb2, hPb2⟩ : ∃ P, Pb1 ++ Rb2 = P := ⟨_, rfl⟩
        obtain ⟨Pb3, hPb3⟩ : ∃ P, Pb2 ++ Rb3 = P := ⟨_, rfl⟩
        have hEb : Pb3 = Pqb ++ (num z0) ++ (cStr.enc z1) ++ ((Ty.list tColumn).cod.enc z2) ++ (num (I3 : Int)) := by rw [← hPb3, ← hPb2, ← hPb1, ← hPb0, ← hRb0, ← hRb1, ← hRb2, ← hRb3]
        have hlb4 : Pb3.length ≤ 68719476736 := by rw [hEb]; have h3 := htot; simp only [List.length_append] at h3 ⊢; omega
        have hlb3 : Pb2.length + Rb3.length ≤ 68719476736 := by rw [← List.length_append, hPb3]; exact hlb4
        have hlb2 : Pb1.length + Rb2.length ≤ 68719476736 := by rw [← List.length_append, hPb2]; omega
        have hlb1 : Pb0.length + Rb1.length ≤ 68719476736 := by rw [← List.length_append, hPb1]; omega
        have hlb0 : Pqb.length + Rb0.length ≤ 68719476736 := by rw [← List.length_append, hPb0]; omega
        have HFb0 := Lib.hid (show Fits z0 from hzok.1)
        have hsb1 : z1.size ≤ 281474976710656 := str_size hRb1 (by omega)
        have HOb2 := Lib.hid hzok.2.2.1
        have HLnb2 := Lib.hid (show ((Ty.list tColumn).cod.enc z2).length ≤ 68719476736 by rw [hRb2]; omega)
        have hllb2 : z2.length ≤ 9223372036854775807 := hzok.2.2.1.1
        have HFb3 := Lib.hid (show Fits (I3 : Int) from ⟨by omega, by omega⟩)
        have sab0 : ¬ 9223372036854775807 < (mkb Pqb).size + (mkb Rb0).size := by simp only [mkb_size]; omega
        have scb0 : mkb Pqb ++ mkb Rb0 = mkb Pb0 := by rw [mkb_append, hPb0]
        have sab1 : ¬ 9223372036854775807 < (mkb Pb0).size + (mkb Rb1).size := by simp only [mkb_size]; omega
        have scb1 : mkb Pb0 ++ mkb Rb1 = mkb Pb1 := by rw [mkb_append, hPb1]
        have sab2 : ¬ 9223372036854775807 < (mkb Pb1).size + (mkb Rb2).size := by simp only [mkb_size]; omega
        have scb2 : mkb Pb1 ++ mkb Rb2 = mkb Pb2 := by rw [mkb_append, hPb2]
        have sab3 : ¬ 9223372036854775807 < (mkb Pb2).size + (mkb Rb3).size := by simp only [mkb_size]; omega
        have scb3 : mkb Pb2 ++ mkb Rb3 = mkb Pb3 := by rw [mkb_append, hPb3]
        have HRb0 := Lib.hid hRb0
        have HRb1 := Lib.hid hRb1
        have HRb2 := Lib.hid hRb2
        have HRb3 := Lib.hid hRb3
        have HEb := Lib.hid hEb
        clear hEb hRb0 hPb0 hRb1 hPb1 hRb2 hPb2 hRb3 hPb3
        have hPE : Pqb ++ tTable.cod.enc (z0, (z1, (z2, (z3, z4)))) = Pb3 ++ encs tIndex.cod z3 ++ num (I4 : Int) ++ encs tForeign.cod z4 := by rw [HEb.out]; exact hEE
        have HZb := Lib.hid hz
        have HPEb := Lib.hid hPE
        have HPqb := Lib.hid hPqb
        have HTTb := Lib.hid htot
        clear hds hz hsz2 hEE htot hPE hPqb hokb hHz hab1 hbb1 hab2 hbb2 hab3 hbb3 hab4 hbb4
        have HIz3 := Lib.hid hI3
        have HRz3 := Lib.hid hhz3
        have HIz4 := Lib.hid hI4
        have HRz4 := Lib.hid hhz4
        have HTTi : Hid ((Pb3 ++ encs tIndex.cod z3 ++ num (I4 : Int) ++ encs tForeign.cod z4).length ≤ 68719476736) := Lib.hid (by rw [HEb.out]; exact HTTb.out)
        clear hI3 hI4 hhz3 hhz4 hzok
        clear HTTb
        have c0b : (0 : Int) ≤ (kb : Int) := by omega
        have c1b : (kb : Int) < (L2 : Int) := by omega
        have hbw : Below wr.heap.size wr (wr.alloc (.cells #[.int .i64 z0, .string z1, .slice Az2 z2.length capz2, .slice Az3 I3 capz3, .slice Az4 I4 capz4] 84)) := (Below.refl _ _).alloc (Nat.le_refl _) _
        have hkk := blk_new wr (.cells #[.int .i64 z0, .string z1, .slice Az2 z2.length capz2, .slice Az3 I3 capz3, .slice Az4 I4 capz4] 84)
        obtain ⟨wcb, hwc⟩ : ∃ wc, wr.alloc (.cells #[.int .i64 z0, .string z1, .slice Az2 z2.length capz2, .slice Az3 I3 capz3, .slice Az4 I4 capz4] 84) = wc := ⟨_, rfl⟩
        obtain ⟨tbb, htb⟩ : ∃ n, wr.heap.size = n := ⟨_, rfl⟩
        have HBwb := Lib.hid (below_step HBb.out hbw)
        rw [hwc, htb] at hkk
        rw [hwc] at HBwb
        have xb0 : wcb.cell? ⟨tbb, 0, none⟩ = some (.int .i64 z0) := (blk_cell hkk 0).trans rfl
        have xb1 : wcb.cell? ⟨tbb, 1, none⟩ = some (.string z1) := (blk_cell hkk 1).trans rfl
        have xb2 : wcb.cell? ⟨tbb, 2, none⟩ = some (.slice Az2 z2.length capz2) := (blk_cell hkk 2).trans rfl
        have xb3 : wcb.cell? ⟨tbb, 3, none⟩ = some (.slice Az3 I3 capz3) := (blk_cell hkk 3).trans rfl
        have xb4 : wcb.cell? ⟨tbb, 4, none⟩ = some (.slice Az4 I4 capz4) := (blk_cell hkk 4).trans rfl
        have Qb0 := Lib.hid xb0
        have Qb1 := Lib.hid xb1
        have Qb2 := Lib.hid xb2
        have Qb3 := Lib.hid xb3
        have Qb4 := Lib.hid xb4
        have HXwb := Lib.hid (below_step HBB.out HBwb.out)
        have HWC := Lib.hid hwc
        have HTB := Lib.hid htb
        clear hbw hkk hwc htb
        have HHlb2 := Lib.hid (hhz2.below HXwb.out)
        go_upto_region 6 with fail
        rw [HWC.out, HTB.out]
        clear HWC HTB nb0 nb1 nb2 nb3 nb4 p2
        have hBb0 : Below wcb.heap.size wcb wcb := Below.refl _ _
        have KKb : Hid (∀ w', Below wcb.heap.size wcb w' → (Below wcb.heap.size wcb w' ∧ w'.cell? ⟨tbb, 0, none⟩ = some (.int .i64 z0) ∧ w'.cell? ⟨tbb, 1, none⟩ = some (.string z1) ∧ w'.cell? ⟨tbb, 2, none⟩ = some (.slice Az2 z2.length capz2) ∧ w'.cell? ⟨tbb, 3, none⟩ = some (.slice Az3 I3 capz3) ∧ w'.cell? ⟨tbb, 4, none⟩ = some (.slice Az4 I4 capz4))) := Lib.hid (fun w' hX => ⟨hX, keep1 xb0 hX, keep1 xb1 hX, keep1 xb2 hX, keep1 xb3 hX, keep1 xb4 hX⟩)
        go_region_held3 (fun w' => Below wcb.heap.size wcb w' ∧ w'.cell? ⟨tbb, 0, none⟩ = some (.int .i64 z0) ∧ w'.cell? ⟨tbb, 1, none⟩ = some (.string z1) ∧ w'.cell? ⟨tbb, 2, none⟩ = some (.slice Az2 z2.length capz2) ∧ w'.cell? ⟨tbb, 3, none⟩ = some (.slice Az3 I3 capz3) ∧ w'.cell? ⟨tbb, 4, none⟩ = some (.slice Az4 I4 capz4))
          (first | ((with_reducible refine KKb.out _ ?_); (repeat (first | with_reducible refine bel_drew ?_ | with_reducible refine bel_alloc ?_)); first | with_reducible exact hBb4 | with_reducible exact hBb3 | with_reducible exact hBb2 | with_reducible exact hBb1 | with_reducible exact hBb0))
          (first | (go_at_call 41; have hp := hBb3; refine (num_ref' (I3 : Int) Rb3 HRb3.out _ HFb3.out).mono ?_; rintro e vb4 ⟨rfl, hrb4⟩; have hBb4 : Below wcb.heap.size wcb vb4 := below_step (by (repeat (first | with_reducible refine bel_drew ?_ | with_reducible refine bel_alloc ?_)); with_reducible exact hp) hrb4) | (go_at_call 73; have hp := hBb2; refine (list_ref' columns_all z2 _ _ _ Rb2 HRb2.out _ (HHlb2.out.below (by (repeat (first | with_reducible refine bel_drew ?_ | with_reducible refine bel_alloc ?_)); with_reducible exact hp)) HOb2.out HLnb2.out).mono ?_; rintro e vb3 ⟨rfl, hrb3⟩; have hBb3 : Below wcb.heap.size wcb vb3 := below_step (by (repeat (first | with_reducible refine bel_drew ?_ | with_reducible refine bel_alloc ?_)); with_reducible exact hp) hrb3) | (go_at_call 32; have hp := hBb1; refine (text_ref' z1 Rb1 HRb1.out _ hsb1).mono ?_; rintro e vb2 ⟨rfl, hrb2⟩; have hBb2 : Below wcb.heap.size wcb vb2 := below_step (by (repeat (first | with_reducible refine bel_drew ?_ | with_reducible refine bel_alloc ?_)); with_reducible exact hp) hrb2) | (go_at_call 41; have hp := hBb0; refine (num_ref' z0 Rb0 HRb0.out _ HFb0.out).mono ?_; rintro e vb1 ⟨rfl, hrb1⟩; have hBb1 : Below wcb.heap.size wcb vb1 := below_step (by (repeat (first | with_reducible refine bel_drew ?_ | with_reducible refine bel_alloc ?_)); with_reducible exact hp) hrb1))
        all_goals
          have HBi := Lib.hid hBb4
          clear xb0 xb1 xb2 xb3 xb4
          go_wp2_with fail
          go_loopw [3, 6] (fun v3 v6 wr => ∃ kc : Nat, v6 = .int .i64 (kc : Int) ∧ kc ≤ I3 ∧ v3 = .string (mkb (Pb3 ++ encs tIndex.cod (z3.take kc))) ∧ Below wcb.heap.size wcb wr) (fun _ v6 _ => I3 - (intOf v6).toNat)
          case atStart => exact ⟨0, rfl, by omega, by simp [encs], HBi.out⟩
          case round =>
            obtain ⟨kc, rfl, hkc, rfl, hbc⟩ := hrel
            have pb3 := keep1 Qb3.out hbc
            have pb4 := keep1 Qb4.out hbc
            have HBc := Lib.hid hbc
            have HXc := Lib.hid (below_step HXwb.out hbc)
            clear hbc
            by_cases hltc : kc < I3
            · obtain ⟨z, hz⟩ : ∃ z, z3[kc]? = some z := ⟨_, List.getElem?_eq_getElem (by rw [HIz3.out]; exact hltc)⟩
              obtain ⟨bb, bo, ds, rfl, hokb, hHz, hds⟩ := HRz3.out.list_at hz
              have hzok := HKz3.out _ (List.mem_of_getElem? hz)
              have hsz2 := encs_take_le tIndex.cod z3 (kc + 1)
              rw [encs_snoc _ z3 kc z hz] at hsz2
              obtain ⟨u0, u1, u2, u3, u4, rfl⟩ : ∃ (u0 : Int) (u1 : ByteArray) (u2 : Int) (u3 : Bool) (u4 : Int), z = (u0, (u1, (u2, (u3, u4)))) := by
                obtain ⟨u0, ⟨u1, ⟨u2, ⟨u3, u4⟩⟩⟩⟩ := z
                exact ⟨_, _, _, _, _, rfl⟩
              obtain ⟨cac1, cbc1, rfl, hac1, hbc1⟩ := Holds.pair_cell hHz
              obtain rfl := Holds.int_cell hac1
              obtain ⟨cac2, cbc2, rfl, hac2, hbc2⟩ := Holds.pair_cell hbc1
              obtain rfl := Holds.str_cell hac2
              obtain ⟨cac3, cbc3, rfl, hac3, hbc3⟩ := Holds.pair_cell hbc2
              obtain rfl := Holds.int_cell hac3
              obtain ⟨cac4, cbc4, rfl, hac4, hbc4⟩ := Holds.pair_cell hbc3
              obtain rfl := Holds.bool_cell hac4
              obtain rfl := Holds.int_cell hbc4
              have nc0 := keep1 (show w.cell? ⟨bb, bo + kc * 5, none⟩ = some (.int .i64 u0) from hds 0 _ rfl) HXc.out
              have nc1 := keep1 (show w.cell? ⟨bb, bo + kc * 5 + 1, none⟩ = some (.string u1) from hds 1 _ rfl) HXc.out
              have nc2 := keep1 (show w.cell? ⟨bb, bo + kc * 5 + 2, none⟩ = some (.int .i64 u2) from hds 2 _ rfl) HXc.out
              have nc3 := keep1 (show w.cell? ⟨bb, bo + kc * 5 + 3, none⟩ = some (.bool u3) from hds 3 _ rfl) HXc.out
              have nc4 := keep1 (show w.cell? ⟨bb, bo + kc * 5 + 4, none⟩ = some (.int .i64 u4) from hds 4 _ rfl) HXc.out
              obtain ⟨Pqc, hPqc⟩ : ∃ P, Pb3 ++ encs tIndex.cod (z3.take kc) = P := ⟨_, rfl⟩
              rw [hPqc]
              have hEE : Pqc ++ tIndex.cod.enc (u0, (u1, (u2, (u3, u4)))) = Pqc ++ (num u0) ++ (cStr.enc u1) ++ (num u2) ++ (cFlag.enc u3) ++ (num u4) := by
                have h1 : tIndex.cod.enc (u0, (u1, (u2, (u3, u4)))) = (num u0 ++ (cStr.enc u1 ++ (num u2 ++ (cFlag.enc u3 ++ num u4)))) := rfl
                rw [h1]
                simp only [List.append_assoc, List.flatMap_cons, List.flatMap_nil, List.append_nil]
              have htot : (Pqc ++ (num u0) ++ (cStr.enc u1) ++ (num u2) ++ (cFlag.enc u3) ++ (num u4)).length ≤ 68719476736 := by
                rw [← hEE, ← hPqc]
                have h3 := HTTi.out
                have h4 : (encs tIndex.cod (z3.take kc) ++ tIndex.cod.enc (u0, (u1, (u2, (u3, u4))))).length ≤ (encs tIndex.cod z3).length := hsz2
                simp only [List.length_append] at h3 h4 ⊢
                omega
              obtain ⟨Rc0, hRc0⟩ : ∃ R, num u0 = R := ⟨_, rfl⟩
              obtain ⟨Rc1, hRc1⟩ : ∃ R, cStr.enc u1 = R := ⟨_, rfl⟩
              obtain ⟨Rc2, hRc2⟩ : ∃ R, num u2 = R := ⟨_, rfl⟩
              obtain ⟨Rc3, hRc3⟩ : ∃ R, cFlag.enc u3 = R := ⟨_, rfl⟩
              obtain ⟨Rc4, hRc4⟩ : ∃ R, num u4 = R := ⟨_, rfl⟩
              obtain ⟨Pc0, hPc0⟩ : ∃ P, Pqc ++ Rc0 = P := ⟨_, rfl⟩
              obtain ⟨Pc1, hPc1⟩ : ∃ P, Pc0 ++ Rc1 = P := ⟨_, rfl⟩
              obtain ⟨Pc2, hPc2⟩ : ∃ P, Pc1 ++ Rc2 = P := ⟨_, rfl⟩
              obtain ⟨Pc3, hPc3⟩ : ∃ P, Pc2 ++ Rc3 = P := ⟨_, rfl⟩
              obtain ⟨Pc4, hPc4⟩ : ∃ P, Pc3 ++ Rc4 = P := ⟨_, rfl⟩
              have hEc : Pc4 = Pqc ++ (num u0) ++ (cStr.enc u1) ++ (num u2) ++ (cFlag.enc u3) ++ (num u4) := by rw [← hPc4, ← hPc3, ← hPc2, ← hPc1, ← hPc0, ← hRc0, ← hRc1, ← hRc2, ← hRc3, ← hRc4]
              have hlc5 : Pc4.length ≤ 68719476736 := by rw [hEc]; exact htot
              have hlc4 : Pc3.length + Rc4.length ≤ 68719476736 := by rw [← List.length_append, hPc4]; exact hlc5
              have hlc3 : Pc2.length + Rc3.length ≤ 68719476736 := by rw [← List.length_append, hPc3]; omega
              have hlc2 : Pc1.length + Rc2.length ≤ 68719476736 := by rw [← List.length_append, hPc2]; omega
              have hlc1 : Pc0.length + Rc1.length ≤ 68719476736 := by rw [← List.length_append, hPc1]; omega
              have hlc0 : Pqc.length + Rc0.length ≤ 68719476736 := by rw [← List.length_append, hPc0]; omega
              have HFc0 := Lib.hid (show Fits u0 from hzok.1)
              have hsc1 : u1.size ≤ 281474976710656 := str_size hRc1 (by omega)
              have HFc2 := Lib.hid (show Fits u2 from hzok.2.2.1)
              have HFc4 := Lib.hid (show Fits u4 from hzok.2.2.2.2)
              have sac0 : ¬ 9223372036854775807 < (mkb Pqc).size + (mkb Rc0).size := by simp only [mkb_size]; omega
              have scc0 : mkb Pqc ++ mkb Rc0 = mkb Pc0 := by rw [mkb_append, hPc0]
              have sac1 : ¬ 9223372036854775807 < (mkb Pc0).size + (mkb Rc1).size := by simp only [mkb_size]; omega
              have scc1 : mkb Pc0 ++ mkb Rc1 = mkb Pc1 := by rw [mkb_append, hPc1]
              have sac2 : ¬ 9223372036854775807 < (mkb Pc1).size + (mkb Rc2).size := by simp only [mkb_size]; omega
              have scc2 : mkb Pc1 ++ mkb Rc2 = mkb Pc2 := by rw [mkb_append, hPc2]
              have sac3 : ¬ 9223372036854775807 < (mkb Pc2).size + (mkb Rc3).size := by simp only [mkb_size]; omega
              have scc3 : mkb Pc2 ++ mkb Rc3 = mkb Pc3 := by rw [mkb_append, hPc3]
              have sac4 : ¬ 9223372036854775807 < (mkb Pc3).size + (mkb Rc4).size := by simp only [mkb_size]; omega
              have scc4 : mkb Pc3 ++ mkb Rc4 = mkb Pc4 := by rw [mkb_append, hPc4]
              have HRc0 := Lib.hid hRc0
              have HRc1 := Lib.hid hRc1
              have HRc2 := Lib.hid hRc2
              have HRc3 := Lib.hid hRc3
              have HRc4 := Lib.hid hRc4
              have HEc := Lib.hid hEc
              clear hEc hRc0 hPc0 hRc1 hPc1 hRc2 hPc2 hRc3 hPc3 hRc4 hPc4
              have hPE : Pqc ++ tIndex.cod.enc (u0, (u1, (u2, (u3, u4)))) = Pc4 := by rw [HEc.out]; exact hEE
              have HZc := Lib.hid hz
              have HPEc := Lib.hid hPE
              have HPqc := Lib.hid hPqc
              have HTTc := Lib.hid htot
              clear hds hz hsz2 hEE htot hPE hPqc hokb hHz hac1 hbc1 hac2 hbc2 hac3 hbc3 hac4 hbc4
              clear hzok
              have c0c : (0 : Int) ≤ (kc : Int) := by omega
              have c1c : (kc : Int) < (I3 : Int) := by omega
              have hbw : Below wr.heap.size wr (wr.alloc (.cells #[.int .i64 u0, .string u1, .int .i64 u2, .bool u3, .int .i64 u4] 202)) := (Below.refl _ _).alloc (Nat.le_refl _) _
              have hkk := blk_new wr (.cells #[.int .i64 u0, .string u1, .int .i64 u2, .bool u3, .int .i64 u4] 202)
              obtain ⟨wcc, hwc⟩ : ∃ wc, wr.alloc (.cells #[.int .i64 u0, .string u1, .int .i64 u2, .bool u3, .int .i64 u4] 202) = wc := ⟨_, rfl⟩
              obtain ⟨tbc, htb⟩ : ∃ n, wr.heap.size = n := ⟨_, rfl⟩
              have HBwc := Lib.hid (below_step HBc.out hbw)
              rw [hwc, htb] at hkk
              rw [hwc] at HBwc
              have xc0 : wcc.cell? ⟨tbc, 0, none⟩ = some (.int .i64 u0) := (blk_cell hkk 0).trans rfl
              have xc1 : wcc.cell? ⟨tbc, 1, none⟩ = some (.string u1) := (blk_cell hkk 1).trans rfl
              have xc2 : wcc.cell? ⟨tbc, 2, none⟩ = some (.int .i64 u2) := (blk_cell hkk 2).trans rfl
              have xc3 : wcc.cell? ⟨tbc, 3, none⟩ = some (.bool u3) := (blk_cell hkk 3).trans rfl
              have xc4 : wcc.cell? ⟨tbc, 4, none⟩ = some (.int .i64 u4) := (blk_cell hkk 4).trans rfl
              have Qc0 := Lib.hid xc0
              have Qc1 := Lib.hid xc1
              have Qc2 := Lib.hid xc2
              have Qc3 := Lib.hid xc3
              have Qc4 := Lib.hid xc4
              have HXwc := Lib.hid (below_step HXwb.out HBwc.out)
              have HWC := Lib.hid hwc
              have HTB := Lib.hid htb
              clear hbw hkk hwc htb
              go_upto_region 11 with fail
              rw [HWC.out, HTB.out]
              clear HWC HTB nc0 nc1 nc2 nc3 nc4 pb3 pb4
              have hBc0 : Below wcc.heap.size wcc wcc := Below.refl _ _
              have KKc : Hid (∀ w', Below wcc.heap.size wcc w' → (Below wcc.heap.size wcc w' ∧ w'.cell? ⟨tbc, 0, none⟩ = some (.int .i64 u0) ∧ w'.cell? ⟨tbc, 1, none⟩ = some (.string u1) ∧ w'.cell? ⟨tbc, 2, none⟩ = some (.int .i64 u2) ∧ w'.cell? ⟨tbc, 3, none⟩ = some (.bool u3) ∧ w'.cell? ⟨tbc, 4, none⟩ = some (.int .i64 u4))) := Lib.hid (fun w' hX => ⟨hX, keep1 xc0 hX, keep1 xc1 hX, keep1 xc2 hX, keep1 xc3 hX, keep1 xc4 hX⟩)
              go_region_held3 (fun w' => Below wcc.heap.size wcc w' ∧ w'.cell? ⟨tbc, 0, none⟩ = some (.int .i64 u0) ∧ w'.cell? ⟨tbc, 1, none⟩ = some (.string u1) ∧ w'.cell? ⟨tbc, 2, none⟩ = some (.int .i64 u2) ∧ w'.cell? ⟨tbc, 3, none⟩ = some (.bool u3) ∧ w'.cell? ⟨tbc, 4, none⟩ = some (.int .i64 u4))
                (first | ((with_reducible refine KKc.out _ ?_); (repeat (first | with_reducible refine bel_drew ?_ | with_reducible refine bel_alloc ?_)); first | with_reducible exact hBc5 | with_reducible exact hBc4 | with_reducible exact hBc3 | with_reducible exact hBc2 | with_reducible exact hBc1 | with_reducible exact hBc0))
                (first | (go_at_call 41; have hp := hBc4; refine (num_ref' u4 Rc4 HRc4.out _ HFc4.out).mono ?_; rintro e vc5 ⟨rfl, hrc5⟩; have hBc5 : Below wcc.heap.size wcc vc5 := below_step (by (repeat (first | with_reducible refine bel_drew ?_ | with_reducible refine bel_alloc ?_)); with_reducible exact hp) hrc5) | (go_at_call 30; have hp := hBc3; refine (flag_ref' u3 Rc3 HRc3.out _).mono ?_; rintro e vc4 ⟨rfl, hrc4⟩; have hBc4 : Below wcc.heap.size wcc vc4 := below_step (by (repeat (first | with_reducible refine bel_drew ?_ | with_reducible refine bel_alloc ?_)); with_reducible exact hp) hrc4) | (go_at_call 41; have hp := hBc2; refine (num_ref' u2 Rc2 HRc2.out _ HFc2.out).mono ?_; rintro e vc3 ⟨rfl, hrc3⟩; have hBc3 : Below wcc.heap.size wcc vc3 := below_step (by (repeat (first | with_reducible refine bel_drew ?_ | with_reducible refine bel_alloc ?_)); with_reducible exact hp) hrc3) | (go_at_call 32; have hp := hBc1; refine (text_ref' u1 Rc1 HRc1.out _ hsc1).mono ?_; rintro e vc2 ⟨rfl, hrc2⟩; have hBc2 : Below wcc.heap.size wcc vc2 := below_step (by (repeat (first | with_reducible refine bel_drew ?_ | with_reducible refine bel_alloc ?_)); with_reducible exact hp) hrc2) | (go_at_call 41; have hp := hBc0; refine (num_ref' u0 Rc0 HRc0.out _ HFc0.out).mono ?_; rintro e vc1 ⟨rfl, hrc1⟩; have hBc1 : Below wcc.heap.size wcc vc1 := below_step (by (repeat (first | with_reducible refine bel_drew ?_ | with_reducible refine bel_alloc ?_)); with_reducible exact hp) hrc1))
              all_goals
                go_wp2_with fail
                go_roundw
                case rel =>
                  refine ⟨kc + 1, by go_num, by omega, ?_, below_step HBwc.out hBc5⟩
                  rw [encs_snoc _ z3 kc _ HZc.out, ← List.append_assoc, HPqc.out]
                  exact congrArg (fun l => Value.string (mkb l)) HPEc.out.symm
                case measure => simp [intOf]; omega
            · obtain rfl : kc = I3 := by omega
              obtain ⟨Pz, hPz⟩ : ∃ P, Pb3 ++ encs tIndex.cod (z3.take kc) = P := ⟨_, rfl⟩
              have hPz2 : Pb3 ++ encs tIndex.cod z3 = Pz := by rw [← hPz, ← HIz3.out, List.take_length]
              obtain ⟨Rl, hRl⟩ : ∃ R, num (I4 : Int) = R := ⟨_, rfl⟩
              obtain ⟨Pl, hPl⟩ : ∃ P, Pz ++ Rl = P := ⟨_, rfl⟩
              have HTTj : Hid ((Pl ++ encs tForeign.cod z4).length ≤ 68719476736) := Lib.hid (by have h3 := HTTi.out; rw [hPz2, hRl, hPl] at h3; exact h3)
              have HPEj := Lib.hid (show Pqb ++ tTable.cod.enc (z0, (z1, (z2, (z3, z4)))) = Pl ++ encs tForeign.cod z4 by rw [HPEb.out, hPz2, hRl, hPl])
              have hz0 : Pz.length + Rl.length ≤ 68719476736 := by have h3 := HTTj.out; rw [← hPl] at h3; simp only [List.length_append] at h3; omega
              have sal : ¬ 9223372036854775807 < (mkb Pz).size + (mkb Rl).size := by simp only [mkb_size]; omega
              have scl : mkb Pz ++ mkb Rl = mkb Pl := by rw [mkb_append, hPl]
              have HRl := Lib.hid hRl
              rw [hPz]
              clear hPz hPz2 hRl hPl
              go_wp2_with fail
              refine (num_ref' _ Rl HRl.out _ ⟨by omega, by omega⟩).mono ?_
              rintro e wl ⟨rfl, hrl⟩
              have HBl := Lib.hid (below_step HBc.out hrl)
              clear hrl pb3 pb4
              go_wp2_with fail
              clear sal scl
              go_loopw [3, 8] (fun v3 v8 wr => ∃ kd : Nat, v8 = .int .i64 (kd : Int) ∧ kd ≤ I4 ∧ v3 = .string (mkb (Pl ++ encs tForeign.cod (z4.take kd))) ∧ Below wcb.heap.size wcb wr) (fun _ v8 _ => I4 - (intOf v8).toNat)
              case atStart => exact ⟨0, rfl, by omega, by simp [encs], HBl.out⟩
              case round =>
                obtain ⟨kd, rfl, hkd, rfl, hbd⟩ := hrel
                have pb4 := keep1 Qb4.out hbd
                have HBd := Lib.hid hbd
                have HXd := Lib.hid (below_step HXwb.out hbd)
                clear hbd
                by_cases hltd : kd < I4
                · obtain ⟨z, hz⟩ : ∃ z, z4[kd]? = some z := ⟨_, List.getElem?_eq_getElem (by rw [HIz4.out]; exact hltd)⟩
                  obtain ⟨bb, bo, ds, rfl, hokb, hHz, hds⟩ := HRz4.out.list_at hz
                  have hzok := HKz4.out _ (List.mem_of_getElem? hz)
                  have hsz2 := encs_take_le tForeign.cod z4 (kd + 1)
                  rw [encs_snoc _ z4 kd z hz] at hsz2
                  obtain ⟨v0, v1, v2, v3, v4, rfl⟩ : ∃ (v0 : Int) (v1 : ByteArray) (v2 : Int) (v3 : Int) (v4 : Int), z = (v0, (v1, (v2, (v3, v4)))) := by
                    obtain ⟨v0, ⟨v1, ⟨v2, ⟨v3, v4⟩⟩⟩⟩ := z
                    exact ⟨_, _, _, _, _, rfl⟩
                  obtain ⟨cad1, cbd1, rfl, had1, hbd1⟩ := Holds.pair_cell hHz
                  obtain rfl := Holds.int_cell had1
                  obtain ⟨cad2, cbd2, rfl, had2, hbd2⟩ := Holds.pair_cell hbd1
                  obtain rfl := Holds.str_cell had2
                  obtain ⟨cad3, cbd3, rfl, had3, hbd3⟩ := Holds.pair_cell hbd2
                  obtain rfl := Holds.int_cell had3
                  obtain ⟨cad4, cbd4, rfl, had4, hbd4⟩ := Holds.pair_cell hbd3
                  obtain rfl := Holds.int_cell had4
                  obtain rfl := Holds.int_cell hbd4
                  have nd0 := keep1 (show w.cell? ⟨bb, bo + kd * 5, none⟩ = some (.int .i64 v0) from hds 0 _ rfl) HXd.out
                  have nd1 := keep1 (show w.cell? ⟨bb, bo + kd * 5 + 1, none⟩ = some (.string v1) from hds 1 _ rfl) HXd.out
                  have nd2 := keep1 (show w.cell? ⟨bb, bo + kd * 5 + 2, none⟩ = some (.int .i64 v2) from hds 2 _ rfl) HXd.out
                  have nd3 := keep1 (show w.cell? ⟨bb, bo + kd * 5 + 3, none⟩ = some (.int .i64 v3) from hds 3 _ rfl) HXd.out
                  have nd4 := keep1 (show w.cell? ⟨bb, bo + kd * 5 + 4, none⟩ = some (.int .i64 v4) from hds 4 _ rfl) HXd.out
                  obtain ⟨Pqd, hPqd⟩ : ∃ P, Pl ++ encs tForeign.cod (z4.take kd) = P := ⟨_, rfl⟩
                  rw [hPqd]
                  have hEE : Pqd ++ tForeign.cod.enc (v0, (v1, (v2, (v3, v4)))) = Pqd ++ (num v0) ++ (cStr.enc v1) ++ ([v2, v3, v4].flatMap num) := by
                    have h1 : tForeign.cod.enc (v0, (v1, (v2, (v3, v4)))) = (num v0 ++ (cStr.enc v1 ++ (num v2 ++ (num v3 ++ num v4)))) := rfl
                    rw [h1]
                    simp only [List.append_assoc, List.flatMap_cons, List.flatMap_nil, List.append_nil]
                  have htot : (Pqd ++ (num v0) ++ (cStr.enc v1) ++ ([v2, v3, v4].flatMap num)).length ≤ 68719476736 := by
                    rw [← hEE, ← hPqd]
                    have h3 := HTTj.out
                    have h4 : (encs tForeign.cod (z4.take kd) ++ tForeign.cod.enc (v0, (v1, (v2, (v3, v4))))).length ≤ (encs tForeign.cod z4).length := hsz2
                    simp only [List.length_append] at h3 h4 ⊢
                    omega
                  obtain ⟨Rd0, hRd0⟩ : ∃ R, num v0 = R := ⟨_, rfl⟩
                  obtain ⟨Rd1, hRd1⟩ : ∃ R, cStr.enc v1 = R := ⟨_, rfl⟩
                  obtain ⟨Rd2, hRd2⟩ : ∃ R, [v2, v3, v4].flatMap num = R := ⟨_, rfl⟩
                  obtain ⟨Pd0, hPd0⟩ : ∃ P, Pqd ++ Rd0 = P := ⟨_, rfl⟩
                  obtain ⟨Pd1, hPd1⟩ : ∃ P, Pd0 ++ Rd1 = P := ⟨_, rfl⟩
                  obtain ⟨Pd2, hPd2⟩ : ∃ P, Pd1 ++ Rd2 = P := ⟨_, rfl⟩
                  have hEd : Pd2 = Pqd ++ (num v0) ++ (cStr.enc v1) ++ ([v2, v3, v4].flatMap num) := by rw [← hPd2, ← hPd1, ← hPd0, ← hRd0, ← hRd1, ← hRd2]
                  have hld3 : Pd2.length ≤ 68719476736 := by rw [hEd]; exact htot
                  have hld2 : Pd1.length + Rd2.length ≤ 68719476736 := by rw [← List.length_append, hPd2]; exact hld3
                  have hld1 : Pd0.length + Rd1.length ≤ 68719476736 := by rw [← List.length_append, hPd1]; omega
                  have hld0 : Pqd.length + Rd0.length ≤ 68719476736 := by rw [← List.length_append, hPd0]; omega
                  have HFd0 := Lib.hid (show Fits v0 from hzok.1)
                  have hsd1 : v1.size ≤ 281474976710656 := str_size hRd1 (by omega)
                  have HFd2 := Lib.hid (show ∀ n ∈ [v2, v3, v4], Fits n from fits_cons hzok.2.2.1 (fits_cons hzok.2.2.2.1 (fits_cons hzok.2.2.2.2 (fits_nil))))
                  have sad0 : ¬ 9223372036854775807 < (mkb Pqd).size + (mkb Rd0).size := by simp only [mkb_size]; omega
                  have scd0 : mkb Pqd ++ mkb Rd0 = mkb Pd0 := by rw [mkb_append, hPd0]
                  have sad1 : ¬ 9223372036854775807 < (mkb Pd0).size + (mkb Rd1).size := by simp only [mkb_size]; omega
                  have scd1 : mkb Pd0 ++ mkb Rd1 = mkb Pd1 := by rw [mkb_append, hPd1]
                  have sad2 : ¬ 9223372036854775807 < (mkb Pd1).size + (mkb Rd2).size := by simp only [mkb_size]; omega
                  have scd2 : mkb Pd1 ++ mkb Rd2 = mkb Pd2 := by rw [mkb_append, hPd2]
                  have HRd0 := Lib.hid hRd0
                  have HRd1 := Lib.hid hRd1
                  have HRd2 := Lib.hid hRd2
                  have HEd := Lib.hid hEd
                  clear hEd hRd0 hPd0 hRd1 hPd1 hRd2 hPd2
                  have hPE : Pqd ++ tForeign.cod.enc (v0, (v1, (v2, (v3, v4)))) = Pd2 := by rw [HEd.out]; exact hEE
                  have HZd := Lib.hid hz
                  have HPEd := Lib.hid hPE
                  have HPqd := Lib.hid hPqd
                  have HTTd := Lib.hid htot
                  clear hds hz hsz2 hEE htot hPE hPqd hokb hHz had1 hbd1 had2 hbd2 had3 hbd3 had4 hbd4
                  clear hzok
                  have c0d : (0 : Int) ≤ (kd : Int) := by omega
                  have c1d : (kd : Int) < (I4 : Int) := by omega
                  have hbw : Below wr.heap.size wr (wr.alloc (.cells #[.int .i64 v0, .string v1, .int .i64 v2, .int .i64 v3, .int .i64 v4] 204)) := (Below.refl _ _).alloc (Nat.le_refl _) _
                  have hkk := blk_new wr (.cells #[.int .i64 v0, .string v1, .int .i64 v2, .int .i64 v3, .int .i64 v4] 204)
                  obtain ⟨wcd, hwc⟩ : ∃ wc, wr.alloc (.cells #[.int .i64 v0, .string v1, .int .i64 v2, .int .i64 v3, .int .i64 v4] 204) = wc := ⟨_, rfl⟩
                  obtain ⟨tbd, htb⟩ : ∃ n, wr.heap.size = n := ⟨_, rfl⟩
                  have HBwd := Lib.hid (below_step HBd.out hbw)
                  rw [hwc, htb] at hkk
                  rw [hwc] at HBwd
                  have xd0 : wcd.cell? ⟨tbd, 0, none⟩ = some (.int .i64 v0) := (blk_cell hkk 0).trans rfl
                  have xd1 : wcd.cell? ⟨tbd, 1, none⟩ = some (.string v1) := (blk_cell hkk 1).trans rfl
                  have xd2 : wcd.cell? ⟨tbd, 2, none⟩ = some (.int .i64 v2) := (blk_cell hkk 2).trans rfl
                  have xd3 : wcd.cell? ⟨tbd, 3, none⟩ = some (.int .i64 v3) := (blk_cell hkk 3).trans rfl
                  have xd4 : wcd.cell? ⟨tbd, 4, none⟩ = some (.int .i64 v4) := (blk_cell hkk 4).trans rfl
                  have Qd0 := Lib.hid xd0
                  have Qd1 := Lib.hid xd1
                  have Qd2 := Lib.hid xd2
                  have Qd3 := Lib.hid xd3
                  have Qd4 := Lib.hid xd4
                  have HXwd := Lib.hid (below_step HXwb.out HBwd.out)
                  have HWC := Lib.hid hwc
                  have HTB := Lib.hid htb
                  clear hbw hkk hwc htb
                  go_upto_region 17 with fail
                  rw [HWC.out, HTB.out]
                  clear HWC HTB nd0 nd1 nd2 nd3 nd4 pb4
                  have hBd0 : Below wcd.heap.size wcd wcd := Below.refl _ _
                  have KKd : Hid (∀ w', Below wcd.heap.size wcd w' → (Below wcd.heap.size wcd w' ∧ w'.cell? ⟨tbd, 0, none⟩ = some (.int .i64 v0) ∧ w'.cell? ⟨tbd, 1, none⟩ = some (.string v1) ∧ w'.cell? ⟨tbd, 2, none⟩ = some (.int .i64 v2) ∧ w'.cell? ⟨tbd, 3, none⟩ = some (.int .i64 v3) ∧ w'.cell? ⟨tbd, 4, none⟩ = some (.int .i64 v4))) := Lib.hid (fun w' hX => ⟨hX, keep1 xd0 hX, keep1 xd1 hX, keep1 xd2 hX, keep1 xd3 hX, keep1 xd4 hX⟩)
                  go_region_held3 (fun w' => Below wcd.heap.size wcd w' ∧ w'.cell? ⟨tbd, 0, none⟩ = some (.int .i64 v0) ∧ w'.cell? ⟨tbd, 1, none⟩ = some (.string v1) ∧ w'.cell? ⟨tbd, 2, none⟩ = some (.int .i64 v2) ∧ w'.cell? ⟨tbd, 3, none⟩ = some (.int .i64 v3) ∧ w'.cell? ⟨tbd, 4, none⟩ = some (.int .i64 v4))
                    (first | ((with_reducible refine KKd.out _ ?_); (repeat (first | with_reducible refine bel_drew ?_ | with_reducible refine bel_alloc ?_)); first | with_reducible exact hBd3 | with_reducible exact hBd2 | with_reducible exact hBd1 | with_reducible exact hBd0))
                    (first | (go_at_call 29; have hp := hBd2; refine (nums_at [v2, v3, v4] Rd2 HRd2.out 3 rfl _ 3 _ (by decide) HFd2.out (by repeat (first | ((with_reducible refine rowB ?_ ?_); rfl; (first | (with_reducible rfl) | (simp; done)); done) | with_reducible refine row_drew ?_ | with_reducible refine row_alloc ?_ | with_reducible refine row_below hrd3 ?_ | with_reducible refine row_below hrd2 ?_ | with_reducible refine row_below hrd1 ?_))).mono ?_; rintro e vd3 ⟨rfl, hrd3⟩; have hBd3 : Below wcd.heap.size wcd vd3 := below_step (by (repeat (first | with_reducible refine bel_drew ?_ | with_reducible refine bel_alloc ?_)); with_reducible exact hp) hrd3) | (go_at_call 32; have hp := hBd1; refine (text_ref' v1 Rd1 HRd1.out _ hsd1).mono ?_; rintro e vd2 ⟨rfl, hrd2⟩; have hBd2 : Below wcd.heap.size wcd vd2 := below_step (by (repeat (first | with_reducible refine bel_drew ?_ | with_reducible refine bel_alloc ?_)); with_reducible exact hp) hrd2) | (go_at_call 41; have hp := hBd0; refine (num_ref' v0 Rd0 HRd0.out _ HFd0.out).mono ?_; rintro e vd1 ⟨rfl, hrd1⟩; have hBd1 : Below wcd.heap.size wcd vd1 := below_step (by (repeat (first | with_reducible refine bel_drew ?_ | with_reducible refine bel_alloc ?_)); with_reducible exact hp) hrd1))
                  all_goals
                    go_wp2_with fail
                    go_roundw
                    case rel =>
                      refine ⟨kd + 1, by go_num, by omega, ?_, below_step HBwd.out hBd3⟩
                      rw [encs_snoc _ z4 kd _ HZd.out, ← List.append_assoc, HPqd.out]
                      exact congrArg (fun l => Value.string (mkb l)) HPEd.out.symm
                    case measure => simp [intOf]; omega
                · obtain rfl : kd = I4 := by omega
                  go_wp2_with fail
                  go_roundw
                  case rel =>
                    refine ⟨kb + 1, by go_num, by omega, ?_, below_step HBwb.out HBd.out⟩
                    rw [encs_snoc _ y2 kb _ HZb.out, ← List.append_assoc, HPqb.out]
                    have h9 : Pl ++ encs tForeign.cod (z4.take kd) = Pqb ++ tTable.cod.enc (z0, (z1, (z2, (z3, z4)))) := by rw [HPEj.out, ← HIz4.out, List.take_length]
                    exact congrArg (fun l => Value.string (mkb l)) h9
                  case measure => simp [intOf]; omega
      · obtain rfl : kb = L2 := by omega
        have h9 : Pa1 ++ encs tTable.cod (y2.take kb) = F := by rw [← HL2.out, List.take_length]; exact HF1.out
        rw [h9]
        clear h9
        go_wp2_with fail
        go_ret
        exact ⟨rfl, HXb.out⟩
theorem schema_ref (x : tSchema.T) (cs : List Value) (ok : Nat → Prop) (w : World) (hH : Holds w ok tSchema x cs) (hok : tSchema.cod.ok x) (hlen : (tSchema.cod.enc x).length ≤ 68719476736) :
    Calls Try.prog 52 #[.agg cs.toArray] w fun e w' => e = .returned (.string (mkb (tSchema.cod.enc x))) ∧ Below w.heap.size w w' := by
  obtain ⟨⟨y0, y1⟩, y2⟩ := x
  exact schema_refL y0 y1 y2 cs ok w hH hok hlen
end Go.Proofs.Ytlcgkcmicklihaa.Wire
