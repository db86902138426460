/- The walk of the law WireRanges. -/
import Derived.Test.YtlcgkcmicklihaaAwake
import Derived.Test.YtlcgkcmicklihaaHState
import Derived.Test.YtlcgkcmicklihaaRState
namespace Go.Proofs.Ytlcgkcmicklihaa.Wire
set_option linter.unusedVariables false
set_option linter.unusedSimpArgs false
open Go.RowKit Go.Proofs.YtlcgkcmicklihaaW.PrintWords Go.Proofs.YtlcgkcmicklihaaW.PrintLast Go.Proofs.YtlcgkcmicklihaaW.PrintMore
set_option maxRecDepth 100000 in
set_option maxHeartbeats 16000000 in
theorem wireRanges_walkL (y0 : List tRow.T) (y1 : List tLock.T) (y2 : List tRecord.T) (y3 : List tTid.T) (y4 : Int) (cs : List Value) (w : World) (hH : Holds w (fun _ => True) tState (y0, (y1, (y2, (y3, y4)))) cs) (hok : tState.cod.ok (y0, (y1, (y2, (y3, y4))))) (hlen : (tState.cod.enc (y0, (y1, (y2, (y3, y4))))).length ≤ 68719476736) :
    Calls Try.prog 6 #[.agg cs.toArray] w fun e w' => e = .returned (.bool true) ∧ Below w.heap.size w w' := by
  have HH0 := Lib.hid hH
  obtain ⟨ca1, cb1, rfl, ha1, hb1⟩ := Holds.pair_cell hH
  obtain ⟨A0, cap0, rfl, hh0⟩ := Holds.list_cell ha1
  obtain ⟨ca2, cb2, rfl, ha2, hb2⟩ := Holds.pair_cell hb1
  obtain ⟨A1, cap1, rfl, hh1⟩ := Holds.list_cell ha2
  obtain ⟨ca3, cb3, rfl, ha3, hb3⟩ := Holds.pair_cell hb2
  obtain ⟨A2, cap2, rfl, hh2⟩ := Holds.list_cell ha3
  obtain ⟨ca4, cb4, rfl, ha4, hb4⟩ := Holds.pair_cell hb3
  obtain ⟨A3, cap3, rfl, hh3⟩ := Holds.list_cell ha4
  obtain rfl := Holds.int_cell hb4
  obtain ⟨L0, hL0⟩ : ∃ n, y0.length = n := ⟨_, rfl⟩
  obtain ⟨L1, hL1⟩ : ∃ n, y1.length = n := ⟨_, rfl⟩
  have hm0 : y0.length ≤ 9223372036854775807 := hok.1.1
  have hm1 : y1.length ≤ 9223372036854775807 := hok.2.1.1
  have hm2 : y2.length ≤ 9223372036854775807 := hok.2.2.1.1
  have hm3 : y3.length ≤ 9223372036854775807 := hok.2.2.2.1.1
  have hk0 := hok.1.2
  have hk1 := hok.2.1.2
  obtain ⟨X, hC, hokX, hlenX⟩ : ∃ X : tState.T, Holds w (fun _ => True) tState X [.slice A0 y0.length cap0, .slice A1 y1.length cap1, .slice A2 y2.length cap2, .slice A3 y3.length cap3, .int .i64 y4] ∧ tState.cod.ok X ∧ (tState.cod.enc X).length ≤ 68719476736 := ⟨(y0, (y1, (y2, (y3, y4)))), HH0.out, hok, hlen⟩
  clear HH0 hH hok hlen hh2 hh3 ha1 hb1 ha2 hb2 ha3 hb3 ha4 hb4
  rw [hL0] at hh0 hm0 hC
  rw [hL1] at hh1 hm1 hC
  rw [hL0, hL1]
  have hs := get_enc tState.cod X hokX
  obtain ⟨S, hS⟩ : ∃ S, mkb (tState.cod.enc X) = S := ⟨_, rfl⟩
  have hss : S.size ≤ 68719476736 := by rw [← hS, mkb_size]; exact hlenX
  have hsd : S.data.toList = tState.cod.enc X := by rw [← hS, mkb_data]
  rw [← hsd] at hs
  have e0 := blk_new w (.cells #[.slice A0 L0 cap0, .slice A1 L1 cap1, .slice A2 y2.length cap2, .slice A3 y3.length cap3, .int .i64 y4] 43)
  have hb0 : Below w.heap.size w (w.alloc (.cells #[.slice A0 L0 cap0, .slice A1 L1 cap1, .slice A2 y2.length cap2, .slice A3 y3.length cap3, .int .i64 y4] 43)) := (Below.refl _ _).alloc (Nat.le_refl _) _
  have hN : (w.alloc (.cells #[.slice A0 L0 cap0, .slice A1 L1 cap1, .slice A2 y2.length cap2, .slice A3 y3.length cap3, .int .i64 y4] 43)).heap.size = w.heap.size + 1 := by simp
  obtain ⟨wb, hwb⟩ : ∃ wb, w.alloc (.cells #[.slice A0 L0 cap0, .slice A1 L1 cap1, .slice A2 y2.length cap2, .slice A3 y3.length cap3, .int .i64 y4] 43) = wb := ⟨_, rfl⟩
  rw [hwb] at e0 hb0 hN
  have HC := Lib.hid hC
  have HOK := Lib.hid hokX
  have HL := Lib.hid hlenX
  have HG := Lib.hid hs
  have HS := Lib.hid hS
  have HSS := Lib.hid hss
  have HE := Lib.hid e0
  have HB0 := Lib.hid hb0
  have HN := Lib.hid hN
  have HK0 := Lib.hid hk0
  have HK1 := Lib.hid hk1
  have HL0 := Lib.hid hL0
  have HL1 := Lib.hid hL1
  have HR0 := Lib.hid hh0
  have HR1 := Lib.hid hh1
  have HWB := Lib.hid hwb
  have q0 : wb.cell? ⟨w.heap.size, 0, none⟩ = some (.slice A0 L0 cap0) := (blk_cell e0 0).trans rfl
  have q1 : wb.cell? ⟨w.heap.size, 1, none⟩ = some (.slice A1 L1 cap1) := (blk_cell e0 1).trans rfl
  have q2 : wb.cell? ⟨w.heap.size, 2, none⟩ = some (.slice A2 y2.length cap2) := (blk_cell e0 2).trans rfl
  have q3 : wb.cell? ⟨w.heap.size, 3, none⟩ = some (.slice A3 y3.length cap3) := (blk_cell e0 3).trans rfl
  have q4 : wb.cell? ⟨w.heap.size, 4, none⟩ = some (.int .i64 y4) := (blk_cell e0 4).trans rfl
  clear hC hokX hlenX hs hS hss hsd e0 hb0 hN hk0 hk1 hL0 hL1 hh0 hh1 hwb
  have Q0 := Lib.hid q0
  have Q1 := Lib.hid q1
  have Q2 := Lib.hid q2
  have Q3 := Lib.hid q3
  have Q4 := Lib.hid q4
  show Calls Try.prog 6 #[.agg #[.slice A0 L0 cap0, .slice A1 L1 cap1, .slice A2 y2.length cap2, .slice A3 y3.length cap3, .int .i64 y4]] w _
  go_enter Try.func6, Try.ntmps6
  go_upto_region 1 with fail
  rw [HWB.out]
  go_wp2_with fail
  go_loopw [3, 29] (fun v3 v29 wr => ∃ (k : Nat) (n : Int), v29 = .int .i64 (k : Int) ∧ k ≤ L0 ∧ v3 = .int .i64 n ∧ Below wb.heap.size wb wr) (fun _ v29 _ => L0 - (intOf v29).toNat)
  case atStart => exact ⟨0, _, rfl, by omega, rfl, Below.refl _ _⟩
  case round =>
    obtain ⟨k, n, rfl, hk, rfl, hb⟩ := hrel
    have HB := Lib.hid hb
    have HX := Lib.hid (below_step HB0.out hb)
    clear hb
    by_cases hlt : k < L0
    · obtain ⟨z, hz⟩ : ∃ z, y0[k]? = some z := ⟨_, List.getElem?_eq_getElem (by rw [HL0.out]; exact hlt)⟩
      obtain ⟨bb, bo, ds, rfl, hokb, hHz, hds⟩ := HR0.out.list_at hz
      have hzok := HK0.out _ (List.mem_of_getElem? hz)
      obtain ⟨z0, z1, rfl⟩ : ∃ (z0 : ByteArray) (z1 : List tVersion.T), z = (z0, z1) := ⟨z.1, z.2, rfl⟩
      obtain ⟨ca, cb, rfl, ha, hb⟩ := Holds.pair_cell hHz
      obtain rfl := Holds.str_cell ha
      obtain ⟨Az, capz, rfl, hhz⟩ := Holds.list_cell hb
      have n0 := keep1 (show w.cell? ⟨bb, bo + k * 2, none⟩ = some (.string z0) from hds 0 _ rfl) HX.out
      have n1 := keep1 (show w.cell? ⟨bb, bo + k * 2 + 1, none⟩ = some (.slice Az z1.length capz) from hds 1 _ rfl) HX.out
      have hzl : z1.length ≤ 9223372036854775807 := hzok.2.1
      clear hz hokb hHz hds hzok ha hb hhz
      have c0 : (0 : Int) ≤ (k : Int) := by omega
      have c1 : (k : Int) < (L0 : Int) := by omega
      have hbw : Below wr.heap.size wr (wr.alloc (.cells #[.string z0, .slice Az z1.length capz] 46)) := (Below.refl _ _).alloc (Nat.le_refl _) _
      have hkk := blk_new wr (.cells #[.string z0, .slice Az z1.length capz] 46)
      obtain ⟨wc, hwc⟩ : ∃ wc, wr.alloc (.cells #[.string z0, .slice Az z1.length capz] 46) = wc := ⟨_, rfl⟩
      rw [hwc] at hbw hkk
      have x1 : wc.cell? ⟨wr.heap.size, 1, none⟩ = some (.slice Az z1.length capz) := (blk_cell hkk 1).trans rfl
      have HBc := Lib.hid (below_step HB.out hbw)
      have p0 := keep1 (keep1 Q0.out HB.out) hbw
      have p1 := keep1 (keep1 Q1.out HB.out) hbw
      have p2 := keep1 (keep1 Q2.out HB.out) hbw
      have p3 := keep1 (keep1 Q3.out HB.out) hbw
      have p4 := keep1 (keep1 Q4.out HB.out) hbw
      have HWC := Lib.hid hwc
      clear hbw hkk hwc
      go_upto_region 5 with fail
      rw [HWC.out]
      go_wp2_with fail
      · clear n0 n1 c0 c1 hzl x1
        go_loopw [3, 44] (fun v3 v44 wr => ∃ (j : Nat) (n : Int), v44 = .int .i64 (j : Int) ∧ j ≤ L1 ∧ v3 = .int .i64 n ∧ Below wb.heap.size wb wr) (fun _ v44 _ => L1 - (intOf v44).toNat)
        case atStart => exact ⟨0, _, rfl, by omega, rfl, HBc.out⟩
        case round =>
          obtain ⟨j, m, rfl, hj, rfl, hbi⟩ := hrel
          have HBi := Lib.hid hbi
          have HXi := Lib.hid (below_step HB0.out hbi)
          clear hbi p0 p1 p2 p3 p4
          by_cases hlj : j < L1
          · obtain ⟨z, hz⟩ : ∃ z, y1[j]? = some z := ⟨_, List.getElem?_eq_getElem (by rw [HL1.out]; exact hlj)⟩
            obtain ⟨bb, bo, ds, rfl, hokb, hHz, hds⟩ := HR1.out.list_at hz
            have hzok := HK1.out _ (List.mem_of_getElem? hz)
            obtain ⟨z0, z1, z2, z3, z4, z5, z6, rfl⟩ : ∃ (z0 z1 z2 z3 z4 : Int) (z5 : List tSpan.T) (z6 : List tWrite.T), z = ((z0, (z1, z2)), ((z3, z4), (z5, z6))) := ⟨_, _, _, _, _, _, _, rfl⟩
            obtain ⟨caz1, cbz1, rfl, haz1, hbz1⟩ := Holds.pair_cell hHz
            obtain ⟨caz2, cbz2, rfl, haz2, hbz2⟩ := Holds.pair_cell haz1
            obtain rfl := Holds.int_cell haz2
            obtain ⟨caz3, cbz3, rfl, haz3, hbz3⟩ := Holds.pair_cell hbz2
            obtain rfl := Holds.int_cell haz3
            obtain rfl := Holds.int_cell hbz3
            obtain ⟨caz4, cbz4, rfl, haz4, hbz4⟩ := Holds.pair_cell hbz1
            obtain ⟨caz5, cbz5, rfl, haz5, hbz5⟩ := Holds.pair_cell haz4
            obtain rfl := Holds.int_cell haz5
            obtain rfl := Holds.int_cell hbz5
            obtain ⟨caz6, cbz6, rfl, haz6, hbz6⟩ := Holds.pair_cell hbz4
            obtain ⟨Az5, capz5, rfl, hhz5⟩ := Holds.list_cell haz6
            obtain ⟨Az6, capz6, rfl, hhz6⟩ := Holds.list_cell hbz6
            have n0 := keep1 (show w.cell? ⟨bb, bo + j * 7, none⟩ = some (.int .i64 z0) from hds 0 _ rfl) HXi.out
            have n1 := keep1 (show w.cell? ⟨bb, bo + j * 7 + 1, none⟩ = some (.int .i64 z1) from hds 1 _ rfl) HXi.out
            have n2 := keep1 (show w.cell? ⟨bb, bo + j * 7 + 2, none⟩ = some (.int .i64 z2) from hds 2 _ rfl) HXi.out
            have n3 := keep1 (show w.cell? ⟨bb, bo + j * 7 + 3, none⟩ = some (.int .i64 z3) from hds 3 _ rfl) HXi.out
            have n4 := keep1 (show w.cell? ⟨bb, bo + j * 7 + 4, none⟩ = some (.int .i64 z4) from hds 4 _ rfl) HXi.out
            have n5 := keep1 (show w.cell? ⟨bb, bo + j * 7 + 5, none⟩ = some (.slice Az5 z5.length capz5) from hds 5 _ rfl) HXi.out
            have n6 := keep1 (show w.cell? ⟨bb, bo + j * 7 + 6, none⟩ = some (.slice Az6 z6.length capz6) from hds 6 _ rfl) HXi.out
            have hz5 : z5.length ≤ 9223372036854775807 := hzok.2.2.1.1
            have hz6 : z6.length ≤ 9223372036854775807 := hzok.2.2.2.1
            clear hz hokb hHz hds hzok hhz5 hhz6 haz1 haz2 hbz2 haz3 hbz3 hbz1 haz4 haz5 hbz5 hbz4 haz6 hbz6
            have c0 : (0 : Int) ≤ (j : Int) := by omega
            have c1 : (j : Int) < (L1 : Int) := by omega
            have hbw : Below wr.heap.size wr (wr.alloc (.cells #[.int .i64 z0, .int .i64 z1, .int .i64 z2, .int .i64 z3, .int .i64 z4, .slice Az5 z5.length capz5, .slice Az6 z6.length capz6] 52)) := (Below.refl _ _).alloc (Nat.le_refl _) _
            have hkk := blk_new wr (.cells #[.int .i64 z0, .int .i64 z1, .int .i64 z2, .int .i64 z3, .int .i64 z4, .slice Az5 z5.length capz5, .slice Az6 z6.length capz6] 52)
            obtain ⟨wc, hwc⟩ : ∃ wc, wr.alloc (.cells #[.int .i64 z0, .int .i64 z1, .int .i64 z2, .int .i64 z3, .int .i64 z4, .slice Az5 z5.length capz5, .slice Az6 z6.length capz6] 52) = wc := ⟨_, rfl⟩
            rw [hwc] at hbw hkk
            have x5 : wc.cell? ⟨wr.heap.size, 5, none⟩ = some (.slice Az5 z5.length capz5) := (blk_cell hkk 5).trans rfl
            have x6 : wc.cell? ⟨wr.heap.size, 6, none⟩ = some (.slice Az6 z6.length capz6) := (blk_cell hkk 6).trans rfl
            have HBc := Lib.hid (below_step HBi.out hbw)
            have HWC := Lib.hid hwc
            clear hbw hkk hwc
            go_upto_region 11 with fail
            rw [HWC.out]
            go_wp2_with fail
            · clear c0 c1 hz5 hz6 x5 x6 n0 n1 n2 n3 n4 n5 n6
              refine (awake_calls _).mono ?_
              rintro e w1 ⟨rfl, hb1⟩
              have hk0 := (HBc.out.block w.heap.size (by rw [HN.out]; omega)).trans HE.out
              have HK1 := Lib.hid ((hb1.block w.heap.size (blk_lt hk0)).trans hk0)
              have HB1 := Lib.hid (below_step (below_step HB0.out HBc.out) hb1)
              have HC1 := Lib.hid (HC.out.below HB1.out)
              clear hb1 hk0
              go_wp2_with ((with_reducible refine gate_load (t := 43) (p := .tmp 1) rfl ?_); refine wpList_load_whole (t := 43) rfl (.tmp 1) rfl (by rfl) Try.underlying43 (by kernel_rfl) HK1.out ?_)
              all_goals first
                | (refine (awake_calls _).mono ?_; rintro e w2 ⟨rfl, hb2⟩; have HB2 := Lib.hid hb2; clear hb2; go_wp2_with fail; go_ret; exact ⟨rfl, below_step HB1.out HB2.out⟩)
                | skip
              all_goals
                refine (Put_state X _ _ _ HC1.out HOK.out HL.out).mono ?_
                rintro e w2 ⟨rfl, hb2⟩
                rw [HS.out]
                have HK2 := Lib.hid ((hb2.block w.heap.size (blk_lt HK1.out)).trans HK1.out)
                have HB2 := Lib.hid (below_step HB1.out hb2)
                have HC2 := Lib.hid (HC1.out.below hb2)
                clear hb2
                go_wp2_with fail
                refine (Get_state S _ HSS.out).mono ?_
                rintro e w3 ⟨hb3, hr⟩
                rcases hr with ⟨x', cs', hx, rfl, hH⟩ | ⟨hx, rfl⟩
                · rw [HG.out] at hx
                  injection hx with hx
                  subst hx
                  have hl := hH.len
                  have h1 := all_one hH.one
                  obtain ⟨u0, u1, u2, u3, u4, rfl⟩ : ∃ u0 u1 u2 u3 u4, cs' = [u0, u1, u2, u3, u4] := by
                    match cs', hl with
                    | [u0, u1, u2, u3, u4], _ => exact ⟨u0, u1, u2, u3, u4, rfl⟩
                  have H1 := Lib.hid h1
                  have hb4 : Below w3.heap.size w3 (w3.alloc (.cells #[u0, u1, u2, u3, u4] 43)) := (Below.refl _ _).alloc (Nat.le_refl _) _
                  have HK4 := Lib.hid ((hb4.block w.heap.size (by have := hb3.size; have := blk_lt HK2.out; omega)).trans ((hb3.block w.heap.size (blk_lt HK2.out)).trans HK2.out))
                  have HU4 := Lib.hid (blk_new w3 (.cells #[u0, u1, u2, u3, u4] 43))
                  have HH4 := Lib.hid (hH.below hb4)
                  have HC4 := Lib.hid ((HC2.out.below hb3).below hb4)
                  have HB4 := Lib.hid (below_step (below_step HB2.out hb3) hb4)
                  have HN4 := Lib.hid (show (w3.alloc (.cells #[u0, u1, u2, u3, u4] 43)).heap.size = w3.heap.size + 1 by simp)
                  clear hb3 hb4 hH hl h1
                  go_wp2_with (first | ((with_reducible refine gate_store (t := 43) (p := .tmp 9) (x := .tmp 72) rfl ?_); refine wpList_store_new (t := 43) rfl (.tmp 9) (.tmp 72) rfl #[u0, u1, u2, u3, u4] (by rfl) (by rfl) (by kernel_rfl) rfl H1.out ?_) | ((with_reducible refine gate_load (t := 43) (p := .tmp 1) rfl ?_); refine wpList_load_whole (t := 43) rfl (.tmp 1) rfl (by rfl) Try.underlying43 (by kernel_rfl) HK4.out ?_))
                  refine (state_ref X _ _ _ HC4.out HOK.out HL.out).mono ?_
                  rintro e w5 ⟨rfl, hb5⟩
                  rw [HS.out]
                  have hk5 := (hb5.block w3.heap.size (by rw [HN4.out]; omega)).trans HU4.out
                  have x0 : w5.cell? ⟨w3.heap.size, 0, none⟩ = some u0 := (blk_cell hk5 0).trans rfl
                  have x1 : w5.cell? ⟨w3.heap.size, 1, none⟩ = some u1 := (blk_cell hk5 1).trans rfl
                  have x2 : w5.cell? ⟨w3.heap.size, 2, none⟩ = some u2 := (blk_cell hk5 2).trans rfl
                  have x3 : w5.cell? ⟨w3.heap.size, 3, none⟩ = some u3 := (blk_cell hk5 3).trans rfl
                  have x4 : w5.cell? ⟨w3.heap.size, 4, none⟩ = some u4 := (blk_cell hk5 4).trans rfl
                  have HH5 := Lib.hid (HH4.out.below hb5)
                  have HB5 := Lib.hid (below_step HB4.out hb5)
                  clear hb5 hk5
                  go_wp2_with fail
                  refine (state_ref X [u0, u1, u2, u3, u4] _ _ HH5.out HOK.out HL.out).mono ?_
                  rintro e w6 ⟨rfl, hb6⟩
                  rw [HS.out]
                  have HB6 := Lib.hid (below_step HB5.out hb6)
                  clear hb6
                  go_wp2_with fail
                  go_ret
                  exact ⟨rfl, HB6.out⟩
                · rw [HG.out] at hx
                  cases hx
            · refine ⟨⟨j + 1, _, by go_num, by omega, rfl, HBc.out⟩, by simp [intOf]; omega⟩
          · obtain rfl : j = L1 := by omega
            go_wp2_with fail
            refine (awake_calls _).mono ?_
            rintro e w1 ⟨rfl, hb1⟩
            have hk0 := (HBi.out.block w.heap.size (by rw [HN.out]; omega)).trans HE.out
            have HK1 := Lib.hid ((hb1.block w.heap.size (blk_lt hk0)).trans hk0)
            have HB1 := Lib.hid (below_step (below_step HB0.out HBi.out) hb1)
            have HC1 := Lib.hid (HC.out.below HB1.out)
            clear hb1 hk0
            go_wp2_with ((with_reducible refine gate_load (t := 43) (p := .tmp 1) rfl ?_); refine wpList_load_whole (t := 43) rfl (.tmp 1) rfl (by rfl) Try.underlying43 (by kernel_rfl) HK1.out ?_)
            all_goals first
              | (refine (awake_calls _).mono ?_; rintro e w2 ⟨rfl, hb2⟩; have HB2 := Lib.hid hb2; clear hb2; go_wp2_with fail; go_ret; exact ⟨rfl, below_step HB1.out HB2.out⟩)
              | skip
            all_goals
              refine (Put_state X _ _ _ HC1.out HOK.out HL.out).mono ?_
              rintro e w2 ⟨rfl, hb2⟩
              rw [HS.out]
              have HK2 := Lib.hid ((hb2.block w.heap.size (blk_lt HK1.out)).trans HK1.out)
              have HB2 := Lib.hid (below_step HB1.out hb2)
              have HC2 := Lib.hid (HC1.out.below hb2)
              clear hb2
              go_wp2_with fail
              refine (Get_state S _ HSS.out).mono ?_
              rintro e w3 ⟨hb3, hr⟩
              rcases hr with ⟨x', cs', hx, rfl, hH⟩ | ⟨hx, rfl⟩
              · rw [HG.out] at hx
                injection hx with hx
                subst hx
                have hl := hH.len
                have h1 := all_one hH.one
                obtain ⟨u0, u1, u2, u3, u4, rfl⟩ : ∃ u0 u1 u2 u3 u4, cs' = [u0, u1, u2, u3, u4] := by
                  match cs', hl with
                  | [u0, u1, u2, u3, u4], _ => exact ⟨u0, u1, u2, u3, u4, rfl⟩
                have H1 := Lib.hid h1
                have hb4 : Below w3.heap.size w3 (w3.alloc (.cells #[u0, u1, u2, u3, u4] 43)) := (Below.refl _ _).alloc (Nat.le_refl _) _
                have HK4 := Lib.hid ((hb4.block w.heap.size (by have := hb3.size; have := blk_lt HK2.out; omega)).trans ((hb3.block w.heap.size (blk_lt HK2.out)).trans HK2.out))
                have HU4 := Lib.hid (blk_new w3 (.cells #[u0, u1, u2, u3, u4] 43))
                have HH4 := Lib.hid (hH.below hb4)
                have HC4 := Lib.hid ((HC2.out.below hb3).below hb4)
                have HB4 := Lib.hid (below_step (below_step HB2.out hb3) hb4)
                have HN4 := Lib.hid (show (w3.alloc (.cells #[u0, u1, u2, u3, u4] 43)).heap.size = w3.heap.size + 1 by simp)
                clear hb3 hb4 hH hl h1
                go_wp2_with (first | ((with_reducible refine gate_store (t := 43) (p := .tmp 9) (x := .tmp 72) rfl ?_); refine wpList_store_new (t := 43) rfl (.tmp 9) (.tmp 72) rfl #[u0, u1, u2, u3, u4] (by rfl) (by rfl) (by kernel_rfl) rfl H1.out ?_) | ((with_reducible refine gate_load (t := 43) (p := .tmp 1) rfl ?_); refine wpList_load_whole (t := 43) rfl (.tmp 1) rfl (by rfl) Try.underlying43 (by kernel_rfl) HK4.out ?_))
                refine (state_ref X _ _ _ HC4.out HOK.out HL.out).mono ?_
                rintro e w5 ⟨rfl, hb5⟩
                rw [HS.out]
                have hk5 := (hb5.block w3.heap.size (by rw [HN4.out]; omega)).trans HU4.out
                have x0 : w5.cell? ⟨w3.heap.size, 0, none⟩ = some u0 := (blk_cell hk5 0).trans rfl
                have x1 : w5.cell? ⟨w3.heap.size, 1, none⟩ = some u1 := (blk_cell hk5 1).trans rfl
                have x2 : w5.cell? ⟨w3.heap.size, 2, none⟩ = some u2 := (blk_cell hk5 2).trans rfl
                have x3 : w5.cell? ⟨w3.heap.size, 3, none⟩ = some u3 := (blk_cell hk5 3).trans rfl
                have x4 : w5.cell? ⟨w3.heap.size, 4, none⟩ = some u4 := (blk_cell hk5 4).trans rfl
                have HH5 := Lib.hid (HH4.out.below hb5)
                have HB5 := Lib.hid (below_step HB4.out hb5)
                clear hb5 hk5
                go_wp2_with fail
                refine (state_ref X [u0, u1, u2, u3, u4] _ _ HH5.out HOK.out HL.out).mono ?_
                rintro e w6 ⟨rfl, hb6⟩
                rw [HS.out]
                have HB6 := Lib.hid (below_step HB5.out hb6)
                clear hb6
                go_wp2_with fail
                go_ret
                exact ⟨rfl, HB6.out⟩
              · rw [HG.out] at hx
                cases hx
      · refine ⟨⟨k + 1, _, by go_num, by omega, rfl, HBc.out⟩, by simp [intOf]; omega⟩
    · obtain rfl : k = L0 := by omega
      have p0 := keep1 Q0.out HB.out
      have p1 := keep1 Q1.out HB.out
      have p2 := keep1 Q2.out HB.out
      have p3 := keep1 Q3.out HB.out
      have p4 := keep1 Q4.out HB.out
      go_wp2_with fail
      go_loopw [3, 44] (fun v3 v44 wr => ∃ (j : Nat) (n : Int), v44 = .int .i64 (j : Int) ∧ j ≤ L1 ∧ v3 = .int .i64 n ∧ Below wb.heap.size wb wr) (fun _ v44 _ => L1 - (intOf v44).toNat)
      case atStart => exact ⟨0, _, rfl, by omega, rfl, HB.out⟩
      case round =>
        obtain ⟨j, m, rfl, hj, rfl, hbi⟩ := hrel
        have HBi := Lib.hid hbi
        have HXi := Lib.hid (below_step HB0.out hbi)
        clear hbi p0 p1 p2 p3 p4
        by_cases hlj : j < L1
        · obtain ⟨z, hz⟩ : ∃ z, y1[j]? = some z := ⟨_, List.getElem?_eq_getElem (by rw [HL1.out]; exact hlj)⟩
          obtain ⟨bb, bo, ds, rfl, hokb, hHz, hds⟩ := HR1.out.list_at hz
          have hzok := HK1.out _ (List.mem_of_getElem? hz)
          obtain ⟨z0, z1, z2, z3, z4, z5, z6, rfl⟩ : ∃ (z0 z1 z2 z3 z4 : Int) (z5 : List tSpan.T) (z6 : List tWrite.T), z = ((z0, (z1, z2)), ((z3, z4), (z5, z6))) := ⟨_, _, _, _, _, _, _, rfl⟩
          obtain ⟨caz1, cbz1, rfl, haz1, hbz1⟩ := Holds.pair_cell hHz
          obtain ⟨caz2, cbz2, rfl, haz2, hbz2⟩ := Holds.pair_cell haz1
          obtain rfl := Holds.int_cell haz2
          obtain ⟨caz3, cbz3, rfl, haz3, hbz3⟩ := Holds.pair_cell hbz2
          obtain rfl := Holds.int_cell haz3
          obtain rfl := Holds.int_cell hbz3
          obtain ⟨caz4, cbz4, rfl, haz4, hbz4⟩ := Holds.pair_cell hbz1
          obtain ⟨caz5, cbz5, rfl, haz5, hbz5⟩ := Holds.pair_cell haz4
          obtain rfl := Holds.int_cell haz5
          obtain rfl := Holds.int_cell hbz5
          obtain ⟨caz6, cbz6, rfl, haz6, hbz6⟩ := Holds.pair_cell hbz4
          obtain ⟨Az5, capz5, rfl, hhz5⟩ := Holds.list_cell haz6
          obtain ⟨Az6, capz6, rfl, hhz6⟩ := Holds.list_cell hbz6
          have n0 := keep1 (show w.cell? ⟨bb, bo + j * 7, none⟩ = some (.int .i64 z0) from hds 0 _ rfl) HXi.out
          have n1 := keep1 (show w.cell? ⟨bb, bo + j * 7 + 1, none⟩ = some (.int .i64 z1) from hds 1 _ rfl) HXi.out
          have n2 := keep1 (show w.cell? ⟨bb, bo + j * 7 + 2, none⟩ = some (.int .i64 z2) from hds 2 _ rfl) HXi.out
          have n3 := keep1 (show w.cell? ⟨bb, bo + j * 7 + 3, none⟩ = some (.int .i64 z3) from hds 3 _ rfl) HXi.out
          have n4 := keep1 (show w.cell? ⟨bb, bo + j * 7 + 4, none⟩ = some (.int .i64 z4) from hds 4 _ rfl) HXi.out
          have n5 := keep1 (show w.cell? ⟨bb, bo + j * 7 + 5, none⟩ = some (.slice Az5 z5.length capz5) from hds 5 _ rfl) HXi.out
          have n6 := keep1 (show w.cell? ⟨bb, bo + j * 7 + 6, none⟩ = some (.slice Az6 z6.length capz6) from hds 6 _ rfl) HXi.out
          have hz5 : z5.length ≤ 9223372036854775807 := hzok.2.2.1.1
          have hz6 : z6.length ≤ 9223372036854775807 := hzok.2.2.2.1
          clear hz hokb hHz hds hzok hhz5 hhz6 haz1 haz2 hbz2 haz3 hbz3 hbz1 haz4 haz5 hbz5 hbz4 haz6 hbz6
          have c0 : (0 : Int) ≤ (j : Int) := by omega
          have c1 : (j : Int) < (L1 : Int) := by omega
          have hbw : Below wr.heap.size wr (wr.alloc (.cells #[.int .i64 z0, .int .i64 z1, .int .i64 z2, .int .i64 z3, .int .i64 z4, .slice Az5 z5.length capz5, .slice Az6 z6.length capz6] 52)) := (Below.refl _ _).alloc (Nat.le_refl _) _
          have hkk := blk_new wr (.cells #[.int .i64 z0, .int .i64 z1, .int .i64 z2, .int .i64 z3, .int .i64 z4, .slice Az5 z5.length capz5, .slice Az6 z6.length capz6] 52)
          obtain ⟨wc, hwc⟩ : ∃ wc, wr.alloc (.cells #[.int .i64 z0, .int .i64 z1, .int .i64 z2, .int .i64 z3, .int .i64 z4, .slice Az5 z5.length capz5, .slice Az6 z6.length capz6] 52) = wc := ⟨_, rfl⟩
          rw [hwc] at hbw hkk
          have x5 : wc.cell? ⟨wr.heap.size, 5, none⟩ = some (.slice Az5 z5.length capz5) := (blk_cell hkk 5).trans rfl
          have x6 : wc.cell? ⟨wr.heap.size, 6, none⟩ = some (.slice Az6 z6.length capz6) := (blk_cell hkk 6).trans rfl
          have HBc := Lib.hid (below_step HBi.out hbw)
          have HWC := Lib.hid hwc
          clear hbw hkk hwc
          go_upto_region 11 with fail
          rw [HWC.out]
          go_wp2_with fail
          · clear c0 c1 hz5 hz6 x5 x6 n0 n1 n2 n3 n4 n5 n6
            refine (awake_calls _).mono ?_
            rintro e w1 ⟨rfl, hb1⟩
            have hk0 := (HBc.out.block w.heap.size (by rw [HN.out]; omega)).trans HE.out
            have HK1 := Lib.hid ((hb1.block w.heap.size (blk_lt hk0)).trans hk0)
            have HB1 := Lib.hid (below_step (below_step HB0.out HBc.out) hb1)
            have HC1 := Lib.hid (HC.out.below HB1.out)
            clear hb1 hk0
            go_wp2_with ((with_reducible refine gate_load (t := 43) (p := .tmp 1) rfl ?_); refine wpList_load_whole (t := 43) rfl (.tmp 1) rfl (by rfl) Try.underlying43 (by kernel_rfl) HK1.out ?_)
            all_goals first
              | (refine (awake_calls _).mono ?_; rintro e w2 ⟨rfl, hb2⟩; have HB2 := Lib.hid hb2; clear hb2; go_wp2_with fail; go_ret; exact ⟨rfl, below_step HB1.out HB2.out⟩)
              | skip
            all_goals
              refine (Put_state X _ _ _ HC1.out HOK.out HL.out).mono ?_
              rintro e w2 ⟨rfl, hb2⟩
              rw [HS.out]
              have HK2 := Lib.hid ((hb2.block w.heap.size (blk_lt HK1.out)).trans HK1.out)
              have HB2 := Lib.hid (below_step HB1.out hb2)
              have HC2 := Lib.hid (HC1.out.below hb2)
              clear hb2
              go_wp2_with fail
              refine (Get_state S _ HSS.out).mono ?_
              rintro e w3 ⟨hb3, hr⟩
              rcases hr with ⟨x', cs', hx, rfl, hH⟩ | ⟨hx, rfl⟩
              · rw [HG.out] at hx
                injection hx with hx
                subst hx
                have hl := hH.len
                have h1 := all_one hH.one
                obtain ⟨u0, u1, u2, u3, u4, rfl⟩ : ∃ u0 u1 u2 u3 u4, cs' = [u0, u1, u2, u3, u4] := by
                  match cs', hl with
                  | [u0, u1, u2, u3, u4], _ => exact ⟨u0, u1, u2, u3, u4, rfl⟩
                have H1 := Lib.hid h1
                have hb4 : Below w3.heap.size w3 (w3.alloc (.cells #[u0, u1, u2, u3, u4] 43)) := (Below.refl _ _).alloc (Nat.le_refl _) _
                have HK4 := Lib.hid ((hb4.block w.heap.size (by have := hb3.size; have := blk_lt HK2.out; omega)).trans ((hb3.block w.heap.size (blk_lt HK2.out)).trans HK2.out))
                have HU4 := Lib.hid (blk_new w3 (.cells #[u0, u1, u2, u3, u4] 43))
                have HH4 := Lib.hid (hH.below hb4)
                have HC4 := Lib.hid ((HC2.out.below hb3).below hb4)
                have HB4 := Lib.hid (below_step (below_step HB2.out hb3) hb4)
                have HN4 := Lib.hid (show (w3.alloc (.cells #[u0, u1, u2, u3, u4] 43)).heap.size = w3.heap.size + 1 by simp)
                clear hb3 hb4 hH hl h1
                go_wp2_with (first | ((with_reducible refine gate_store (t := 43) (p := .tmp 9) (x := .tmp 72) rfl ?_); refine wpList_store_new (t := 43) rfl (.tmp 9) (.tmp 72) rfl #[u0, u1, u2, u3, u4] (by rfl) (by rfl) (by kernel_rfl) rfl H1.out ?_) | ((with_reducible refine gate_load (t := 43) (p := .tmp 1) rfl ?_); refine wpList_load_whole (t := 43) rfl (.tmp 1) rfl (by rfl) Try.underlying43 (by kernel_rfl) HK4.out ?_))
                refine (state_ref X _ _ _ HC4.out HOK.out HL.out).mono ?_
                rintro e w5 ⟨rfl, hb5⟩
                rw [HS.out]
                have hk5 := (hb5.block w3.heap.size (by rw [HN4.out]; omega)).trans HU4.out
                have x0 : w5.cell? ⟨w3.heap.size, 0, none⟩ = some u0 := (blk_cell hk5 0).trans rfl
                have x1 : w5.cell? ⟨w3.heap.size, 1, none⟩ = some u1 := (blk_cell hk5 1).trans rfl
                have x2 : w5.cell? ⟨w3.heap.size, 2, none⟩ = some u2 := (blk_cell hk5 2).trans rfl
                have x3 : w5.cell? ⟨w3.heap.size, 3, none⟩ = some u3 := (blk_cell hk5 3).trans rfl
                have x4 : w5.cell? ⟨w3.heap.size, 4, none⟩ = some u4 := (blk_cell hk5 4).trans rfl
                have HH5 := Lib.hid (HH4.out.below hb5)
                have HB5 := Lib.hid (below_step HB4.out hb5)
                clear hb5 hk5
                go_wp2_with fail
                refine (state_ref X [u0, u1, u2, u3, u4] _ _ HH5.out HOK.out HL.out).mono ?_
                rintro e w6 ⟨rfl, hb6⟩
                rw [HS.out]
                have HB6 := Lib.hid (below_step HB5.out hb6)
                clear hb6
                go_wp2_with fail
                go_ret
                exact ⟨rfl, HB6.out⟩
              · rw [HG.out] at hx
                cases hx
          · refine ⟨⟨j + 1, _, by go_num, by omega, rfl, HBc.out⟩, by simp [intOf]; omega⟩
        · obtain rfl : j = L1 := by omega
          go_wp2_with fail
          refine (awake_calls _).mono ?_
          rintro e w1 ⟨rfl, hb1⟩
          have hk0 := (HBi.out.block w.heap.size (by rw [HN.out]; omega)).trans HE.out
          have HK1 := Lib.hid ((hb1.block w.heap.size (blk_lt hk0)).trans hk0)
          have HB1 := Lib.hid (below_step (below_step HB0.out HBi.out) hb1)
          have HC1 := Lib.hid (HC.out.below HB1.out)
          clear hb1 hk0
          go_wp2_with ((with_reducible refine gate_load (t := 43) (p := .tmp 1) rfl ?_); refine wpList_load_whole (t := 43) rfl (.tmp 1) rfl (by rfl) Try.underlying43 (by kernel_rfl) HK1.out ?_)
          all_goals first
            | (refine (awake_calls _).mono ?_; rintro e w2 ⟨rfl, hb2⟩; have HB2 := Lib.hid hb2; clear hb2; go_wp2_with fail; go_ret; exact ⟨rfl, below_step HB1.out HB2.out⟩)
            | skip
          all_goals
            refine (Put_state X _ _ _ HC1.out HOK.out HL.out).mono ?_
            rintro e w2 ⟨rfl, hb2⟩
            rw [HS.out]
            have HK2 := Lib.hid ((hb2.block w.heap.size (blk_lt HK1.out)).trans HK1.out)
            have HB2 := Lib.hid (below_step HB1.out hb2)
            have HC2 := Lib.hid (HC1.out.below hb2)
            clear hb2
            go_wp2_with fail
            refine (Get_state S _ HSS.out).mono ?_
            rintro e w3 ⟨hb3, hr⟩
            rcases hr with ⟨x', cs', hx, rfl, hH⟩ | ⟨hx, rfl⟩
            · rw [HG.out] at hx
              injection hx with hx
              subst hx
              have hl := hH.len
              have h1 := all_one hH.one
              obtain ⟨u0, u1, u2, u3, u4, rfl⟩ : ∃ u0 u1 u2 u3 u4, cs' = [u0, u1, u2, u3, u4] := by
                match cs', hl with
                | [u0, u1, u2, u3, u4], _ => exact ⟨u0, u1, u2, u3, u4, rfl⟩
              have H1 := Lib.hid h1
              have hb4 : Below w3.heap.size w3 (w3.alloc (.cells #[u0, u1, u2, u3, u4] 43)) := (Below.refl _ _).alloc (Nat.le_refl _) _
              have HK4 := Lib.hid ((hb4.block w.heap.size (by have := hb3.size; have := blk_lt HK2.out; omega)).trans ((hb3.block w.heap.size (blk_lt HK2.out)).trans HK2.out))
              have HU4 := Lib.hid (blk_new w3 (.cells #[u0, u1, u2, u3, u4] 43))
              have HH4 := Lib.hid (hH.below hb4)
              have HC4 := Lib.hid ((HC2.out.below hb3).below hb4)
              have HB4 := Lib.hid (below_step (below_step HB2.out hb3) hb4)
              have HN4 := Lib.hid (show (w3.alloc (.cells #[u0, u1, u2, u3, u4] 43)).heap.size = w3.heap.size + 1 by simp)
              clear hb3 hb4 hH hl h1
              go_wp2_with (first | ((with_reducible refine gate_store (t := 43) (p := .tmp 9) (x := .tmp 72) rfl ?_); refine wpList_store_new (t := 43) rfl (.tmp 9) (.tmp 72) rfl #[u0, u1, u2, u3, u4] (by rfl) (by rfl) (by kernel_rfl) rfl H1.out ?_) | ((with_reducible refine gate_load (t := 43) (p := .tmp 1) rfl ?_); refine wpList_load_whole (t := 43) rfl (.tmp 1) rfl (by rfl) Try.underlying43 (by kernel_rfl) HK4.out ?_))
              refine (state_ref X _ _ _ HC4.out HOK.out HL.out).mono ?_
              rintro e w5 ⟨rfl, hb5⟩
              rw [HS.out]
              have hk5 := (hb5.block w3.heap.size (by rw [HN4.out]; omega)).trans HU4.out
              have x0 : w5.cell? ⟨w3.heap.size, 0, none⟩ = some u0 := (blk_cell hk5 0).trans rfl
              have x1 : w5.cell? ⟨w3.heap.size, 1, none⟩ = some u1 := (blk_cell hk5 1).trans rfl
              have x2 : w5.cell? ⟨w3.heap.size, 2, none⟩ = some u2 := (blk_cell hk5 2).trans rfl
              have x3 : w5.cell? ⟨w3.heap.size, 3, none⟩ = some u3 := (blk_cell hk5 3).trans rfl
              have x4 : w5.cell? ⟨w3.heap.size, 4, none⟩ = some u4 := (blk_cell hk5 4).trans rfl
              have HH5 := Lib.hid (HH4.out.below hb5)
              have HB5 := Lib.hid (below_step HB4.out hb5)
              clear hb5 hk5
              go_wp2_with fail
              refine (state_ref X [u0, u1, u2, u3, u4] _ _ HH5.out HOK.out HL.out).mono ?_
              rintro e w6 ⟨rfl, hb6⟩
              rw [HS.out]
              have HB6 := Lib.hid (below_step HB5.out hb6)
              clear hb6
              go_wp2_with fail
              go_ret
              exact ⟨rfl, HB6.out⟩
            · rw [HG.out] at hx
              cases hx
theorem wireRanges_walk (x : tState.T) (cs : List Value) (w : World) (hH : Holds w (fun _ => True) tState x cs) (hok : tState.cod.ok x) (hlen : (tState.cod.enc x).length ≤ 68719476736) :
    Calls Try.prog 6 #[.agg cs.toArray] w fun e w' => e = .returned (.bool true) ∧ Below w.heap.size w w' := by
  obtain ⟨y0, ⟨y1, ⟨y2, ⟨y3, y4⟩⟩⟩⟩ := x
  exact wireRanges_walkL y0 y1 y2 y3 y4 cs w hH hok hlen
end Go.Proofs.Ytlcgkcmicklihaa.Wire
